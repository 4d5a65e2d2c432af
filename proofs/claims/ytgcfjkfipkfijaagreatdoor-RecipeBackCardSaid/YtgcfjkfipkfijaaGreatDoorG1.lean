/- The grammar: which tokens derive a tree; what derives a tree is parsed as it, or is too long. No program in sight. The grammar: what is too long is told so; what is parsed is derived. No program in sight. The grammar: which trees may be, how many tokens they cost, and that no derivation is shorter. No program in sight. -/
import Derived.Test.YtgcfjkfipkfijaaGreatDoorPure5
import Derived.KernelRfl
/-! The grammar: which tokens derive a tree; what derives a tree is parsed as it, or is too long. No program in sight. -/
namespace Go.Proofs.YtgcfjkfipkfijaaGreatDoor
open Go Go.RowKit

/-- Is a token an operator's sign? -/
def Sgn (op : Int) (t : Tok) : Prop := t.kind = 4 ∧ seq (eSign op) t.text = true
/-- Tokens derive a tree, in a line of the grammar. -/
inductive Der : Nat → Ex → List Tok → Prop where
  | num {t : Tok} (h : t.kind = 2) : Der 6 (.mk 0 t.n ⟨#[]⟩ []) [t]
  | name {t : Tok} (h : t.kind = 1) : Der 6 (.mk 1 0 t.text []) [t]
  | un {op : Int} {t : Tok} {e : Ex} {ts : List Tok} (ho : op = 2 ∨ op = 3) (ht : Sgn op t) (h : Der 6 e ts) : Der 6 (node1 op e) (t :: ts)
  | par {t u : Tok} {e : Ex} {ts : List Tok} (ht : isOpen t = true) (hu : isShut u = true) (h : Der 1 e ts) : Der 6 e (t :: (ts ++ [u]))
  | up {n : Nat} {e : Ex} {ts : List Tok} (h1 : 1 ≤ n) (h5 : n ≤ 5) (h : Der (n + 1) e ts) : Der n e ts
  | bin {n : Nat} {op : Int} {t : Tok} {a b : Ex} {ts us : List Tok} (h4 : 4 ≤ op) (h16 : op ≤ 16) (hl : eLine op = n) (h3 : n ≠ 3) (ht : Sgn op t) (ha : Der n a ts) (hb : Der (n + 1) b us) : Der n (node2 op a b) (ts ++ t :: us)
  | cmp {op : Int} {t : Tok} {a b : Ex} {ts us : List Tok} (h9 : 9 ≤ op) (h14 : op ≤ 14) (ht : Sgn op t) (ha : Der 4 a ts) (hb : Der 4 b us) : Der 3 (node2 op a b) (ts ++ t :: us)
def lev (l : List Tok) (first : Int) (un : St → Ex × St) : Nat → St → Ex × St
  | 1 => orOf l first un
  | 2 => rowP l first 15 15 (cmpP l first (rowP l first 4 5 (rowP l first 6 8 un)))
  | 3 => cmpP l first (rowP l first 4 5 (rowP l first 6 8 un))
  | 4 => rowP l first 4 5 (rowP l first 6 8 un)
  | 5 => rowP l first 6 8 un
  | _ => un
def lo : Nat → Int
  | 1 => 16
  | 2 => 15
  | 3 => 9
  | 4 => 4
  | _ => 6
def hi : Nat → Int
  | 1 => 16
  | 2 => 15
  | 3 => 14
  | 4 => 5
  | _ => 8
theorem lev_row {l : List Tok} {first : Int} {un : St → Ex × St} {n : Nat} (h : n = 1 ∨ n = 2 ∨ n = 4 ∨ n = 5) : lev l first un n = rowP l first (lo n) (hi n) (lev l first un (n + 1)) := by
  rcases h with rfl | rfl | rfl | rfl <;> rfl
theorem lev_cmp {l : List Tok} {first : Int} {un : St → Ex × St} : lev l first un 3 = cmpP l first (lev l first un 4) := rfl
theorem line_lo (op : Int) (n : Nat) (h4 : 4 ≤ op) (h16 : op ≤ 16) (hl : eLine op = n) : lo n ≤ op ∧ op ≤ hi n ∧ 1 ≤ n ∧ n ≤ 5 := by
  have hop : op = 4 ∨ op = 5 ∨ op = 6 ∨ op = 7 ∨ op = 8 ∨ op = 9 ∨ op = 10 ∨ op = 11 ∨ op = 12 ∨ op = 13 ∨ op = 14 ∨ op = 15 ∨ op = 16 := by omega
  rcases hop with rfl | rfl | rfl | rfl | rfl | rfl | rfl | rfl | rfl | rfl | rfl | rfl | rfl
  all_goals
    obtain rfl : n = _ := Int.ofNat_inj.1 (hl.symm.trans (by rfl))
    decide
theorem lo_line (op : Int) (n : Nat) (h1 : 1 ≤ n) (h5 : n ≤ 5) (hl : lo n ≤ op) (hh : op ≤ hi n) : 4 ≤ op ∧ op ≤ 16 ∧ eLine op = n := by
  have hn : n = 1 ∨ n = 2 ∨ n = 3 ∨ n = 4 ∨ n = 5 := by omega
  rcases hn with rfl | rfl | rfl | rfl | rfl
  all_goals
    simp only [lo, hi] at hl hh
    unfold eLine
    refine ⟨by omega, by omega, ?_⟩
    (repeat (first | rw [if_pos (by omega)] | rw [if_neg (by omega)]))
    try rfl
theorem sign_inj (a b : Int) (ha : 4 ≤ a) (ha' : a ≤ 16) (hb : 4 ≤ b) (hb' : b ≤ 16) (h : eSign a = eSign b) : a = b := by
  have h0 : ((List.range 13).all fun i => (List.range 13).all fun k => !seq (eSign (4 + (i : Int))) (eSign (4 + (k : Int))) || i == k) = true := by kernel_rfl
  have h1 := List.all_eq_true.1 (List.all_eq_true.1 h0 (a - 4).toNat (List.mem_range.2 (by omega))) (b - 4).toNat (List.mem_range.2 (by omega))
  rw [show 4 + ((a - 4).toNat : Int) = a by omega, show 4 + ((b - 4).toNat : Int) = b by omega, seq_iff.2 h] at h1
  simp at h1
  omega
theorem sgn_inj {a b : Int} {t : Tok} (ha : 4 ≤ a) (ha' : a ≤ 16) (hb : 4 ≤ b) (hb' : b ≤ 16) (h : Sgn a t) (k : Sgn b t) : a = b :=
  sign_inj a b ha ha' hb hb' ((seq_iff.1 h.2).trans (seq_iff.1 k.2).symm)
theorem isF_none {t : Tok} {bad : Int} : ∀ (n : Nat) (a : Int), (∀ op, a ≤ op → op < a + n → ¬ Sgn op t) → isF t bad n a = none
  | 0, _, _ => rfl
  | n + 1, a, h => by
    rw [isF]
    split
    · rename_i hk
      rw [if_neg (fun hs => h a (Int.le_refl _) (by omega) ⟨hk.1, hs⟩)]
      exact isF_none n (a + 1) (fun op h1 h2 => h op (by omega) (by omega))
    · rfl
theorem isF_some {t : Tok} {op : Int} (hs : Sgn op t) : ∀ (n : Nat) (a : Int), a ≤ op → op < a + n → (∀ o, a ≤ o → o < op → ¬ Sgn o t) → isF t 0 n a = some op
  | 0, _, h1, h2, _ => by omega
  | n + 1, a, h1, h2, h => by
    rw [isF, if_pos ⟨hs.1, rfl⟩]
    by_cases e : a = op
    · subst e; rw [if_pos hs.2]
    · rw [if_neg (fun hq => h a (Int.le_refl _) (by omega) ⟨hs.1, hq⟩)]
      exact isF_some hs n (a + 1) (by omega) (by omega) (fun o h1 h2 => h o (by omega) h2)
/-- No operator of a line or of one below it is next. -/
def NoCont (l : List Tok) (i : Int) (n : Nat) : Prop := ∀ op, 4 ≤ op → op ≤ 16 → (n : Int) ≤ eLine op → ¬ Sgn op (tokAt l i)
theorem NoCont.mono {l : List Tok} {i : Int} {n m : Nat} (h : NoCont l i n) (hm : n ≤ m) : NoCont l i m := fun op h4 h16 hl => h op h4 h16 (by omega)
theorem isP_none {l : List Tok} {i b : Int} {n : Nat} (h1 : 1 ≤ n) (h5 : n ≤ 5) (h : NoCont l i n) : isP l (lo n) (hi n) ⟨i, b⟩ = none := by
  unfold isP
  refine isF_none _ _ (fun op h2 h3 => ?_)
  have := lo_line op n h1 h5 h2 (by omega)
  exact h op this.1 this.2.1 (by omega)
theorem isP_some {l : List Tok} {i op : Int} {n : Nat} (h1 : 1 ≤ n) (h5 : n ≤ 5) (ho : lo n ≤ op) (ho' : op ≤ hi n) (h : Sgn op (tokAt l i)) : isP l (lo n) (hi n) ⟨i, 0⟩ = some op := by
  unfold isP
  have hb := lo_line op n h1 h5 ho ho'
  refine isF_some h _ _ ho (by omega) (fun o h2 h3 hs => ?_)
  have hb' := lo_line o n h1 h5 h2 (by omega)
  have := sgn_inj hb'.1 hb'.2.1 hb.1 hb.2.1 hs h
  omega
theorem isP_bad {l : List Tok} {a b : Int} {s : St} (h : s.bad ≠ 0) : isP l a b s = none := by
  unfold isP
  generalize (b - a + 1).toNat = n
  cases n with
  | zero => rfl
  | succ n => rw [isF, if_neg (fun h' => h h'.2)]
/-- The tokens from a place on. -/
def Seg (l : List Tok) (at_ : Int) (ts : List Tok) : Prop := ∀ j (h : j < ts.length), tokAt l (at_ + j) = ts[j]
theorem Seg.left {l : List Tok} {i : Int} {ts us : List Tok} (h : Seg l i (ts ++ us)) : Seg l i ts := fun j hj => by
  rw [h j (by rw [List.length_append]; omega), List.getElem_append_left hj]
theorem Seg.right {l : List Tok} {i : Int} {ts us : List Tok} (h : Seg l i (ts ++ us)) : Seg l (i + ts.length) us := fun j hj => by
  have := h (ts.length + j) (by rw [List.length_append]; omega)
  rw [List.getElem_append_right (by omega)] at this
  simp only [Nat.add_sub_cancel_left] at this
  rw [← this]
  congr 1
  push_cast
  omega
theorem Seg.head {l : List Tok} {i : Int} {t : Tok} {ts : List Tok} (h : Seg l i (t :: ts)) : tokAt l i = t := by
  have := h 0 (by simp)
  simpa using this
theorem Seg.tail {l : List Tok} {i : Int} {t : Tok} {ts : List Tok} (h : Seg l i (t :: ts)) : Seg l (i + 1) ts := fun j hj => by
  have := h (j + 1) (by simpa using hj)
  simp only [List.getElem_cons_succ] at this
  rw [← this]
  congr 1
  push_cast
  omega
theorem passP_yes {first : Int} {s : St} (h : s.at_ - first < 64) : passP first s = (true, ⟨s.at_ + 1, s.bad⟩) := by
  unfold passP; rw [if_neg (by omega)]
theorem passP_no {first : Int} {s : St} (h : 64 ≤ s.at_ - first) : passP first s = (false, failP 2 s) := by
  unfold passP; rw [if_pos h]
theorem rowF_none {l : List Tok} {first a b : Int} {below : St → Ex × St} {k : Nat} {e : Ex} {s : St} (h : isP l a b s = none) : rowF l first a b below k e s = (e, s) := by
  cases k with
  | zero => rfl
  | succ k => rw [rowF, h]
theorem rowF_some {l : List Tok} {first a b op : Int} {below : St → Ex × St} {k : Nat} {e : Ex} {s : St} (h : isP l a b s = some op) (hp : s.at_ - first < 64) :
    rowF l first a b below (k + 1) e s = rowF l first a b below k (node2 op e (below ⟨s.at_ + 1, s.bad⟩).1) (below ⟨s.at_ + 1, s.bad⟩).2 := by
  rw [rowF, h]
  simp only
  rw [passP_yes hp, if_neg (by simp)]
theorem rowF_long {l : List Tok} {first a b op : Int} {below : St → Ex × St} {k : Nat} {e : Ex} {s : St} (h : isP l a b s = some op) (hp : 64 ≤ s.at_ - first) :
    rowF l first a b below (k + 1) e s = (e, failP 2 s) := by
  rw [rowF, h]
  simp only
  rw [passP_no hp, if_pos rfl]
theorem Seg.app {l : List Tok} {i : Int} {ts us : List Tok} (h : Seg l i ts) (k : Seg l (i + ts.length) us) : Seg l i (ts ++ us) := fun j hj => by
  rw [List.length_append] at hj
  by_cases hl : j < ts.length
  · rw [List.getElem_append_left hl]; exact h j hl
  · rw [List.getElem_append_right (by omega), ← k (j - ts.length) (by omega)]
    congr 1
    omega
theorem Seg.nil (l : List Tok) (i : Int) : Seg l i [] := fun j hj => absurd hj (by simp)
theorem Seg.one (l : List Tok) (i : Int) : Seg l i [tokAt l i] := fun j hj => by
  obtain rfl : j = 0 := by simpa using hj
  simp
theorem Seg.cons {l : List Tok} {i : Int} {us : List Tok} (k : Seg l (i + 1) us) : Seg l i (tokAt l i :: us) := (Seg.one l i).app (us := us) (by simpa using k)
def Reads (l : List Tok) (first : Int) (f n : Nat) (e : Ex) (ts : List Tok) : Prop := ∀ i, first ≤ i → Seg l i ts → i - first + ts.length ≤ 64 → NoCont l (i + ts.length) n →
  lev l first (unP l first f) n ⟨i, 0⟩ = (e, ⟨i + ts.length, 0⟩)
def RowReads (l : List Tok) (first : Int) (f n : Nat) (e : Ex) (ts : List Tok) : Prop := ∀ i, first ≤ i → Seg l i ts → i - first + ts.length ≤ 64 → NoCont l (i + ts.length) (n + 1) →
  ∃ k, 66 ≤ k + ts.length ∧ lev l first (unP l first f) n ⟨i, 0⟩ = rowF l first (lo n) (hi n) (lev l first (unP l first f) (n + 1)) k e ⟨i + ts.length, 0⟩
theorem reads_of_row {l : List Tok} {first : Int} {f n : Nat} {e : Ex} {ts : List Tok} (h1 : 1 ≤ n) (h5 : n ≤ 5) (h : RowReads l first f n e ts) : Reads l first f n e ts := fun i hfi hs hb hn => by
  obtain ⟨k, _, he⟩ := h i hfi hs hb (hn.mono (by omega))
  rw [he, rowF_none (isP_none h1 h5 hn)]
theorem line_le5 (op : Int) (h4 : 4 ≤ op) (h16 : op ≤ 16) : eLine op ≤ 5 := by
  have hop : op = 4 ∨ op = 5 ∨ op = 6 ∨ op = 7 ∨ op = 8 ∨ op = 9 ∨ op = 10 ∨ op = 11 ∨ op = 12 ∨ op = 13 ∨ op = 14 ∨ op = 15 ∨ op = 16 := by omega
  rcases hop with rfl | rfl | rfl | rfl | rfl | rfl | rfl | rfl | rfl | rfl | rfl | rfl | rfl <;> decide
theorem noCont_six (l : List Tok) (i : Int) : NoCont l i 6 := fun op h4 h16 hl => by
  have := line_le5 op h4 h16
  omega
theorem noCont_sgn {l : List Tok} {i op : Int} {n : Nat} (h4 : 4 ≤ op) (h16 : op ≤ 16) (hl : eLine op = n) (h : Sgn op (tokAt l i)) : NoCont l i (n + 1) := fun o k4 k16 kl ks => by
  have := sgn_inj k4 k16 h4 h16 ks h
  subst this
  omega
theorem noCont_kind {l : List Tok} {i : Int} {n : Nat} (h : (tokAt l i).kind ≠ 4) : NoCont l i n := fun _ _ _ _ hs => h hs.1
theorem noCont_shut {l : List Tok} {i : Int} {n : Nat} (h : isShut (tokAt l i) = true) : NoCont l i n := fun op h4 h16 _ hs => by
  unfold isShut at h
  rw [Bool.and_eq_true] at h
  have h1 := (seq_iff.1 hs.2).trans (seq_iff.1 h.2)
  have h0 : ((List.range 13).all fun k => !seq (eSign (4 + (k : Int))) ⟨#[41]⟩) = true := by kernel_rfl
  have h2 := List.all_eq_true.1 h0 (op - 4).toNat (List.mem_range.2 (by omega))
  rw [show 4 + ((op - 4).toNat : Int) = op by omega, seq_iff.2 h1] at h2
  simp at h2
theorem isP_not {l : List Tok} {a b : Int} {s : St} (h : (tokAt l s.at_).kind ≠ 4) : isP l a b s = none := by
  unfold isP
  exact isF_none _ _ (fun _ _ _ hs => h hs.1)
theorem isP_un {l : List Tok} {i op : Int} (ho : op = 2 ∨ op = 3) (h : Sgn op (tokAt l i)) : isP l 2 3 ⟨i, 0⟩ = some op := by
  unfold isP
  refine isF_some h _ _ (by omega) (by omega) (fun o h2 h3 hs => ?_)
  obtain ⟨rfl, rfl⟩ : o = 2 ∧ op = 3 := by omega
  have := (seq_iff.1 hs.2).trans (seq_iff.1 h.2).symm
  exact absurd (seq_iff.2 this) (by decide)
theorem isP_open {l : List Tok} {i b : Int} (h : isOpen (tokAt l i) = true) : isP l 2 3 ⟨i, b⟩ = none := by
  unfold isP
  unfold isOpen at h
  rw [Bool.and_eq_true] at h
  refine isF_none _ _ (fun op h2 h3 hs => ?_)
  have h1 := (seq_iff.1 hs.2).trans (seq_iff.1 h.2)
  have : op = 2 ∨ op = 3 := by
    have : ((3 - 2 + 1 : Int).toNat : Int) = 2 := by decide
    omega
  rcases this with rfl | rfl <;> exact absurd (seq_iff.2 h1) (by decide)
theorem unS_num {l : List Tok} {first i : Int} {un orr : St → Ex × St} (hk : (tokAt l i).kind = 2) (hb : i - first < 64) : unS l first un orr ⟨i, 0⟩ = (.mk 0 (tokAt l i).n ⟨#[]⟩ [], ⟨i + 1, 0⟩) := by
  unfold unS
  rw [isP_not (by show (tokAt l i).kind ≠ 4; omega)]
  simp only
  rw [if_neg (by simp [hk]), passP_yes hb, if_neg (by simp), if_pos hk]
theorem unS_name {l : List Tok} {first i : Int} {un orr : St → Ex × St} (hk : (tokAt l i).kind = 1) (hb : i - first < 64) : unS l first un orr ⟨i, 0⟩ = (.mk 1 0 (tokAt l i).text [], ⟨i + 1, 0⟩) := by
  unfold unS
  rw [isP_not (by show (tokAt l i).kind ≠ 4; omega)]
  simp only
  rw [if_neg (by simp [hk]), passP_yes hb, if_neg (by simp), if_neg (by omega), if_pos hk]
theorem unS_op {l : List Tok} {first i op : Int} {un orr : St → Ex × St} (ho : op = 2 ∨ op = 3) (h : Sgn op (tokAt l i)) (hb : i - first < 64) : unS l first un orr ⟨i, 0⟩ = (node1 op (un ⟨i + 1, 0⟩).1, (un ⟨i + 1, 0⟩).2) := by
  unfold unS
  rw [isP_un ho h]
  simp only
  rw [passP_yes hb, if_neg (by simp)]
theorem open_kind {t : Tok} (h : isOpen t = true) : t.kind = 4 := by
  unfold isOpen at h
  rw [Bool.and_eq_true, beq_iff_eq] at h
  exact h.1
theorem unS_open {l : List Tok} {first i : Int} {un orr : St → Ex × St} (h : isOpen (tokAt l i) = true) (hb : i - first < 64) : unS l first un orr ⟨i, 0⟩ =
    (if (orr ⟨i + 1, 0⟩).2.bad = 0 ∧ isShut (tokAt l (orr ⟨i + 1, 0⟩).2.at_) = false then (zEx, failP 11 (orr ⟨i + 1, 0⟩).2)
      else if (orr ⟨i + 1, 0⟩).2.bad = 0 then ((orr ⟨i + 1, 0⟩).1, (passP first (orr ⟨i + 1, 0⟩).2).2) else orr ⟨i + 1, 0⟩) := by
  have hk := open_kind h
  unfold unS
  rw [isP_open h]
  simp only
  rw [if_neg (by simp [h]), passP_yes hb, if_neg (by simp), if_neg (by omega), if_neg (by omega)]
theorem unS_long {l : List Tok} {first i : Int} {un orr : St → Ex × St} (hb : 64 ≤ i - first) (h : (isP l 2 3 ⟨i, 0⟩).isSome = true ∨ isOpen (tokAt l i) = true ∨ (tokAt l i).kind = 2 ∨ (tokAt l i).kind = 1) : (unS l first un orr ⟨i, 0⟩).2.bad = 2 := by
  unfold unS
  rw [passP_no hb]
  split
  · simp [failP]
  · rename_i hn
    rw [hn] at h
    simp only [Option.isSome_none, Bool.false_eq_true, false_or] at h
    rw [if_neg (fun hc => by
      rcases hc with hc | ⟨h1, h2, h3⟩
      · exact hc rfl
      · rcases h with h | h | h
        · rw [h] at h1; cases h1
        · exact h2 h
        · exact h3 h), if_pos rfl]
    rfl
theorem reads (l : List Tok) (first : Int) {n : Nat} {e : Ex} {ts : List Tok} (h : Der n e ts) : ∀ f, ts.length ≤ f → Reads l first f n e ts ∧ (n = 1 ∨ n = 2 ∨ n = 4 ∨ n = 5 → RowReads l first f n e ts) := by
  induction h with
  | @num t hk =>
    intro f hf
    obtain ⟨f, rfl⟩ : ∃ m, f = m + 1 := ⟨f - 1, by simp at hf; omega⟩
    refine ⟨fun i hfi hs hb _ => ?_, fun h => by omega⟩
    obtain rfl := hs.head
    simp only [List.length_cons, List.length_nil] at hb ⊢
    exact unS_num hk (by omega)
  | @name t hk =>
    intro f hf
    obtain ⟨f, rfl⟩ : ∃ m, f = m + 1 := ⟨f - 1, by simp at hf; omega⟩
    refine ⟨fun i hfi hs hb _ => ?_, fun h => by omega⟩
    obtain rfl := hs.head
    simp only [List.length_cons, List.length_nil] at hb ⊢
    exact unS_name hk (by omega)
  | @un op t e ts ho ht _ ih =>
    intro f hf
    simp only [List.length_cons] at hf
    obtain ⟨f, rfl⟩ : ∃ m, f = m + 1 := ⟨f - 1, by omega⟩
    refine ⟨fun i hfi hs hb _ => ?_, fun h => by omega⟩
    obtain rfl := hs.head
    simp only [List.length_cons] at hb ⊢
    have h1 := (ih f (by omega)).1 (i + 1) (by omega) hs.tail (by omega) (noCont_six _ _)
    show unS l first (unP l first f) _ ⟨i, 0⟩ = _
    rw [unS_op ho ht (by omega), show unP l first f ⟨i + 1, 0⟩ = _ from h1]
    simp only [Prod.mk.injEq, St.mk.injEq, and_true, true_and]
    omega
  | @par t u e ts ht hu _ ih =>
    intro f hf
    simp only [List.length_cons, List.length_append, List.length_nil] at hf
    obtain ⟨f, rfl⟩ : ∃ m, f = m + 1 := ⟨f - 1, by omega⟩
    refine ⟨fun i hfi hs hb _ => ?_, fun h => by omega⟩
    obtain rfl := hs.head
    simp only [List.length_cons, List.length_append, List.length_nil] at hb ⊢
    have hs1 := hs.tail
    obtain rfl := hs1.right.head
    have h1 := (ih f (by omega)).1 (i + 1) (by omega) hs1.left (by omega) (noCont_shut hu)
    show unS l first (unP l first f) (orOf l first (unP l first f)) ⟨i, 0⟩ = _
    rw [unS_open ht (by omega), show orOf l first (unP l first f) ⟨i + 1, 0⟩ = _ from h1]
    simp only
    rw [if_neg (by rw [hu]; simp), if_pos True.intro, passP_yes (by show i + 1 + (ts.length : Int) - first < 64; omega)]
    simp only [Prod.mk.injEq, St.mk.injEq, and_true, true_and]
    omega
  | @up n e ts h1 h5 _ ih =>
    intro f hf
    by_cases h3 : n = 3
    · subst h3
      refine ⟨fun i hfi hs hb hn => ?_, fun h => by omega⟩
      have h2 := (ih f hf).1 i hfi hs hb (hn.mono (by omega))
      rw [lev_cmp, cmpP, h2]
      simp only
      rw [show isP l 9 14 ⟨i + (ts.length : Int), 0⟩ = none from isP_none (n := 3) (by omega) (by omega) hn]
    · have hr : RowReads l first f n e ts := fun i hfi hs hb hn => by
        have h2 := (ih f hf).1 i hfi hs hb hn
        refine ⟨66, by omega, ?_⟩
        rw [lev_row (by omega), rowP, h2]
      exact ⟨reads_of_row h1 h5 hr, fun _ => hr⟩
  | @bin n op t a b ts us h4 h16 hl h3 ht _ _ iha ihb =>
    intro f hf
    have hlo := line_lo op n h4 h16 hl
    simp only [List.length_append, List.length_cons] at hf
    have hr : RowReads l first f n (node2 op a b) (ts ++ t :: us) := fun i hfi hs hb hn => by
      simp only [List.length_append, List.length_cons] at hb hn ⊢
      have hs2 := hs.right
      obtain rfl := hs2.head
      obtain ⟨k, hk, he⟩ := (iha f (by omega)).2 (by omega) i hfi hs.left (by omega) (noCont_sgn h4 h16 hl ht)
      obtain ⟨k, rfl⟩ : ∃ m, k = m + 1 := ⟨k - 1, by omega⟩
      have h2 := (ihb f (by omega)).1 (i + ts.length + 1) (by omega) hs2.tail (by omega) (by
        have e : i + ((ts.length + (us.length + 1) : Nat) : Int) = i + (ts.length : Int) + 1 + (us.length : Int) := by push_cast; omega
        rw [e] at hn
        exact hn)
      refine ⟨k, by omega, ?_⟩
      rw [he, rowF_some (isP_some hlo.2.2.1 hlo.2.2.2 hlo.1 hlo.2.1 ht) (by show i + (ts.length : Int) - first < 64; omega)]
      simp only
      rw [h2, show i + (ts.length : Int) + 1 + (us.length : Int) = i + ((ts.length + (us.length + 1) : Nat) : Int) by push_cast; omega]
    exact ⟨reads_of_row hlo.2.2.1 hlo.2.2.2 hr, fun _ => hr⟩
  | @cmp op t a b ts us h9 h14 ht _ _ iha ihb =>
    intro f hf
    simp only [List.length_append, List.length_cons] at hf
    refine ⟨fun i hfi hs hb hn => ?_, fun h => by omega⟩
    simp only [List.length_append, List.length_cons] at hb hn ⊢
    have hs2 := hs.right
    obtain rfl := hs2.head
    have hl : eLine op = (3 : Nat) := (lo_line op 3 (by omega) (by omega) h9 h14).2.2
    have h1 := (iha f (by omega)).1 i hfi hs.left (by omega) (noCont_sgn (by omega) (by omega) hl ht)
    have e : i + ((ts.length + (us.length + 1) : Nat) : Int) = i + (ts.length : Int) + 1 + (us.length : Int) := by push_cast; omega
    rw [e] at hn ⊢
    have h2 := (ihb f (by omega)).1 (i + ts.length + 1) (by omega) hs2.tail (by omega) (hn.mono (by omega))
    rw [lev_cmp, cmpP, h1]
    simp only
    rw [show isP l 9 14 ⟨i + (ts.length : Int), 0⟩ = some op from isP_some (n := 3) (by omega) (by omega) h9 h14 ht]
    simp only
    rw [passP_yes (by show i + (ts.length : Int) - first < 64; omega), if_neg (by simp), h2]
end Go.Proofs.YtgcfjkfipkfijaaGreatDoor
/-! The grammar: what is too long is told so; what is parsed is derived. No program in sight. -/
namespace Go.Proofs.YtgcfjkfipkfijaaGreatDoor
open Go Go.RowKit

theorem rowF_bad {l : List Tok} {first a b : Int} {below : St → Ex × St} {k : Nat} {e : Ex} {s : St} (h : s.bad ≠ 0) : rowF l first a b below k e s = (e, s) := rowF_none (isP_bad h)
def Longs (l : List Tok) (first : Int) (f n : Nat) (ts : List Tok) : Prop := ∀ i, first ≤ i → i - first ≤ 64 → Seg l i ts → 64 < i - first + ts.length → (lev l first (unP l first f) n ⟨i, 0⟩).2.bad = 2
theorem longs (l : List Tok) (first : Int) {n : Nat} {e : Ex} {ts : List Tok} (h : Der n e ts) : ∀ f, ts.length ≤ f → Longs l first f n ts := by
  induction h with
  | @num t hk =>
    intro f hf
    obtain ⟨f, rfl⟩ : ∃ m, f = m + 1 := ⟨f - 1, by simp at hf; omega⟩
    intro i hfi h64 hs hb
    obtain rfl := hs.head
    simp only [List.length_cons, List.length_nil] at hb
    exact unS_long (by omega) (.inr (.inr (.inl hk)))
  | @name t hk =>
    intro f hf
    obtain ⟨f, rfl⟩ : ∃ m, f = m + 1 := ⟨f - 1, by simp at hf; omega⟩
    intro i hfi h64 hs hb
    obtain rfl := hs.head
    simp only [List.length_cons, List.length_nil] at hb
    exact unS_long (by omega) (.inr (.inr (.inr hk)))
  | @un op t e ts ho ht _ ih =>
    intro f hf
    simp only [List.length_cons] at hf
    obtain ⟨f, rfl⟩ : ∃ m, f = m + 1 := ⟨f - 1, by omega⟩
    intro i hfi h64 hs hb
    obtain rfl := hs.head
    simp only [List.length_cons] at hb
    show (unS l first (unP l first f) (orOf l first (unP l first f)) ⟨i, 0⟩).2.bad = 2
    by_cases h : 64 ≤ i - first
    · exact unS_long h (.inl (by rw [isP_un ho ht]; rfl))
    · rw [unS_op ho ht (by omega)]
      exact ih f (by omega) (i + 1) (by omega) (by omega) hs.tail (by omega)
  | @par t u e ts ht hu hd ih =>
    intro f hf
    simp only [List.length_cons, List.length_append, List.length_nil] at hf
    obtain ⟨f, rfl⟩ : ∃ m, f = m + 1 := ⟨f - 1, by omega⟩
    intro i hfi h64 hs hb
    obtain rfl := hs.head
    simp only [List.length_cons, List.length_append, List.length_nil] at hb
    have hs1 := hs.tail
    obtain rfl := hs1.right.head
    show (unS l first (unP l first f) (orOf l first (unP l first f)) ⟨i, 0⟩).2.bad = 2
    by_cases h : 64 ≤ i - first
    · exact unS_long h (.inr (.inl ht))
    · rw [unS_open ht (by omega)]
      by_cases h2 : 64 < i + 1 - first + ts.length
      · have h3 : (orOf l first (unP l first f) ⟨i + 1, 0⟩).2.bad = 2 := ih f (by omega) (i + 1) (by omega) (by omega) hs1.left (by omega)
        rw [if_neg (fun hc => by omega), if_neg (by omega)]
        exact h3
      · have h3 : orOf l first (unP l first f) ⟨i + 1, 0⟩ = _ := (reads l first hd f (by omega)).1 (i + 1) (by omega) hs1.left (by omega) (noCont_shut hu)
        rw [h3]
        simp only
        rw [if_neg (by rw [hu]; simp), if_pos True.intro, passP_no (by show 64 ≤ i + 1 + (ts.length : Int) - first; omega)]
        rfl
  | @up n e ts h1 h5 _ ih =>
    intro f hf i hfi h64 hs hb
    have h2 := ih f hf i hfi h64 hs hb
    by_cases h3 : n = 3
    · subst h3
      rw [lev_cmp, cmpP, isP_bad (by rw [h2]; decide)]
      exact h2
    · rw [lev_row (by omega), rowP, rowF_bad (by rw [h2]; decide)]
      exact h2
  | @bin n op t a b ts us h4 h16 hl h3 ht hda _ iha ihb =>
    intro f hf i hfi h64 hs hb
    have hlo := line_lo op n h4 h16 hl
    simp only [List.length_append, List.length_cons] at hf hb
    have hs2 := hs.right
    obtain rfl := hs2.head
    by_cases h2 : 64 < i - first + ts.length
    · exact iha f (by omega) i hfi h64 hs.left h2
    · obtain ⟨k, hk, he⟩ := (reads l first hda f (by omega)).2 (by omega) i hfi hs.left (by omega) (noCont_sgn h4 h16 hl ht)
      obtain ⟨k, rfl⟩ : ∃ m, k = m + 1 := ⟨k - 1, by omega⟩
      have hp := isP_some (l := l) (i := i + ts.length) hlo.2.2.1 hlo.2.2.2 hlo.1 hlo.2.1 ht
      rw [he]
      by_cases h5 : 64 ≤ i + (ts.length : Int) - first
      · rw [rowF_long hp h5]
        rfl
      · rw [rowF_some hp (by show i + (ts.length : Int) - first < 64; omega)]
        have h6 := ihb f (by omega) (i + ts.length + 1) (by omega) (by omega) hs2.tail (by omega)
        rw [rowF_bad (by rw [h6]; decide)]
        exact h6
  | @cmp op t a b ts us h9 h14 ht hda _ iha ihb =>
    intro f hf i hfi h64 hs hb
    simp only [List.length_append, List.length_cons] at hf hb
    have hs2 := hs.right
    obtain rfl := hs2.head
    have hl : eLine op = (3 : Nat) := (lo_line op 3 (by omega) (by omega) h9 h14).2.2
    by_cases h2 : 64 < i - first + ts.length
    · have h3 := iha f (by omega) i hfi h64 hs.left h2
      rw [lev_cmp, cmpP, isP_bad (by rw [h3]; decide)]
      exact h3
    · have h1 := (reads l first hda f (by omega)).1 i hfi hs.left (by omega) (noCont_sgn (by omega) (by omega) hl ht)
      rw [lev_cmp, cmpP, h1]
      simp only
      rw [show isP l 9 14 ⟨i + (ts.length : Int), 0⟩ = some op from isP_some (n := 3) (by omega) (by omega) h9 h14 ht]
      simp only
      by_cases h5 : 64 ≤ i + (ts.length : Int) - first
      · rw [passP_no h5, if_pos rfl]
        rfl
      · rw [passP_yes (by show i + (ts.length : Int) - first < 64; omega), if_neg (by simp)]
        exact ihb f (by omega) (i + ts.length + 1) (by omega) (by omega) hs2.tail (by omega)
theorem isF_is {t : Tok} {bad op : Int} : ∀ (n : Nat) (a : Int), isF t bad n a = some op → a ≤ op ∧ op < a + n ∧ Sgn op t
  | 0, _, h => by simp [isF] at h
  | n + 1, a, h => by
    rw [isF] at h
    by_cases hk : t.kind = 4 ∧ bad = 0
    · rw [if_pos hk] at h
      by_cases hs : seq (eSign a) t.text = true
      · rw [if_pos hs] at h
        obtain rfl := Option.some.inj h
        exact ⟨by omega, by omega, hk.1, hs⟩
      · rw [if_neg hs] at h
        have := isF_is n (a + 1) h
        exact ⟨by omega, by omega, this.2.2⟩
    · rw [if_neg hk] at h; cases h
theorem isP_is {l : List Tok} {a b op : Int} {s : St} (h : isP l a b s = some op) (hab : a ≤ b) : a ≤ op ∧ op ≤ b ∧ Sgn op (tokAt l s.at_) := by
  have := isF_is _ _ h
  exact ⟨this.1, by omega, this.2.2⟩
/-- What is parsed from a place on is derived by the tokens from there on. -/
def Sound (l : List Tok) (first m : Int) (P : St → Ex × St) (n : Nat) : Prop := ∀ i, first ≤ i → m ≤ i → i - first ≤ 64 → (P ⟨i, 0⟩).2.bad = 0 →
  ∃ ts, Der n (P ⟨i, 0⟩).1 ts ∧ Seg l i ts ∧ (P ⟨i, 0⟩).2.at_ = i + ts.length ∧ (P ⟨i, 0⟩).2.at_ - first ≤ 64
theorem st_eta {s : St} (h : s.bad = 0) : s = ⟨s.at_, 0⟩ := by cases s; simp at h; rw [h]
theorem rowF_sound {l : List Tok} {first m : Int} {below : St → Ex × St} {n : Nat} (h1 : 1 ≤ n) (h5 : n ≤ 5) (h3 : n ≠ 3) (hbel : Sound l first m below (n + 1)) :
    ∀ (k : Nat) (e : Ex) (i : Int) (ts : List Tok), first ≤ i → m ≤ i → Der n e ts → Seg l i ts → i + ts.length - first ≤ 64 → (rowF l first (lo n) (hi n) below k e ⟨i + ts.length, 0⟩).2.bad = 0 →
      ∃ us, Der n (rowF l first (lo n) (hi n) below k e ⟨i + ts.length, 0⟩).1 us ∧ Seg l i us ∧ (rowF l first (lo n) (hi n) below k e ⟨i + ts.length, 0⟩).2.at_ = i + us.length ∧ (rowF l first (lo n) (hi n) below k e ⟨i + ts.length, 0⟩).2.at_ - first ≤ 64
  | 0, e, i, ts, _, _, hd, hs, hb, _ => ⟨ts, hd, hs, rfl, hb⟩
  | k + 1, e, i, ts, hi1, hi2, hd, hs, hb, hok => by
    cases hp : isP l (lo n) (hi n) ⟨i + ts.length, 0⟩ with
    | none =>
      rw [rowF_none hp]
      exact ⟨ts, hd, hs, rfl, hb⟩
    | some op =>
      have hlh : lo n ≤ hi n := by
        have hn : n = 1 ∨ n = 2 ∨ n = 3 ∨ n = 4 ∨ n = 5 := by omega
        rcases hn with rfl | rfl | rfl | rfl | rfl <;> decide
      have his := isP_is hp hlh
      have hol := lo_line op n h1 h5 his.1 his.2.1
      by_cases h64 : 64 ≤ i + (ts.length : Int) - first
      · rw [rowF_long hp h64] at hok
        exact absurd hok (by simp [failP])
      · have hlt : (⟨i + ts.length, 0⟩ : St).at_ - first < 64 := by show i + (ts.length : Int) - first < 64; omega
        rw [rowF_some hp hlt] at hok ⊢
        simp only at hok ⊢
        by_cases hbad : (below ⟨i + ts.length + 1, 0⟩).2.bad = 0
        · obtain ⟨us, d1, d2, d3, d4⟩ := hbel (i + ts.length + 1) (by omega) (by omega) (by omega) hbad
          have hseg : Seg l i (ts ++ tokAt l (i + ts.length) :: us) := hs.app (Seg.cons d2)
          have hlen : (below ⟨i + ts.length + 1, 0⟩).2 = ⟨i + ((ts ++ tokAt l (i + ts.length) :: us).length : Nat), 0⟩ := by
            rw [st_eta hbad, d3]
            simp only [List.length_append, List.length_cons, St.mk.injEq, and_true]
            push_cast
            omega
          rw [hlen] at hok d4 ⊢
          exact rowF_sound h1 h5 h3 hbel k _ i _ hi1 hi2 (.bin hol.1 hol.2.1 hol.2.2 h3 his.2.2 hd d1) hseg (by simpa using d4) hok
        · rw [rowF_bad hbad] at hok
          exact absurd hok hbad
theorem rowP_sound {l : List Tok} {first m : Int} {below : St → Ex × St} {n : Nat} (h1 : 1 ≤ n) (h5 : n ≤ 5) (h3 : n ≠ 3) (hbel : Sound l first m below (n + 1)) : Sound l first m (rowP l first (lo n) (hi n) below) n := fun i hi1 hi2 hb hok => by
  rw [rowP] at hok ⊢
  by_cases hbad : (below ⟨i, 0⟩).2.bad = 0
  · obtain ⟨ts, d1, d2, d3, d4⟩ := hbel i hi1 hi2 hb hbad
    have he : (below ⟨i, 0⟩).2 = ⟨i + ts.length, 0⟩ := by rw [st_eta hbad, d3]
    rw [he] at hok d4 ⊢
    exact rowF_sound h1 h5 h3 hbel _ _ i ts hi1 hi2 (.up h1 h5 d1) d2 d4 hok
  · rw [rowF_bad hbad] at hok
    exact absurd hok hbad
theorem cmpP_sound {l : List Tok} {first m : Int} {sum : St → Ex × St} (hbel : Sound l first m sum 4) : Sound l first m (cmpP l first sum) 3 := fun i hi1 hi2 hb hok => by
  rw [cmpP] at hok ⊢
  by_cases hbad : (sum ⟨i, 0⟩).2.bad = 0
  · obtain ⟨ts, d1, d2, d3, d4⟩ := hbel i hi1 hi2 hb hbad
    have he : (sum ⟨i, 0⟩).2 = ⟨i + ts.length, 0⟩ := by rw [st_eta hbad, d3]
    rw [he] at hok d4 ⊢
    cases hp : isP l 9 14 ⟨i + ts.length, 0⟩ with
    | none =>
      exact ⟨ts, .up (by decide) (by decide) d1, d2, d3, by rw [d3]; exact d4⟩
    | some op =>
      rw [hp] at hok
      have his := isP_is hp (by decide)
      simp only at hok ⊢
      by_cases h64 : 64 ≤ i + (ts.length : Int) - first
      · rw [passP_no h64, if_pos rfl] at hok
        exact absurd hok (by simp [failP])
      · rw [passP_yes (by show i + (ts.length : Int) - first < 64; omega), if_neg (by simp)] at hok ⊢
        simp only at hok ⊢
        obtain ⟨us, f1, f2, f3, f4⟩ := hbel (i + ts.length + 1) (by omega) (by omega) (by omega) hok
        refine ⟨ts ++ tokAt l (i + ts.length) :: us, .cmp his.1 his.2.1 his.2.2 d1 f1, d2.app (Seg.cons f2), ?_, f4⟩
        rw [f3]
        simp only [List.length_append, List.length_cons]
        push_cast
        omega
  · rw [isP_bad hbad] at hok
    exact absurd hok hbad
theorem orOf_sound {l : List Tok} {first m : Int} {un : St → Ex × St} (h : Sound l first m un 6) : Sound l first m (orOf l first un) 1 :=
  rowP_sound (n := 1) (by decide) (by decide) (by decide) (rowP_sound (n := 2) (by decide) (by decide) (by decide) (cmpP_sound (rowP_sound (n := 4) (by decide) (by decide) (by decide) (rowP_sound (n := 5) (by decide) (by decide) (by decide) h))))
theorem Sound.mono {l : List Tok} {first m m' : Int} {P : St → Ex × St} {n : Nat} (h : Sound l first m P n) (hm : m ≤ m') : Sound l first m' P n := fun i h1 h2 h3 h4 => h i h1 (by omega) h3 h4
theorem unS_sound {l : List Tok} {first m : Int} {un orr : St → Ex × St} (hu : Sound l first (m + 1) un 6) (ho : Sound l first (m + 1) orr 1) : Sound l first m (unS l first un orr) 6 := fun i hi1 hi2 hb hok => by
  cases hp : isP l 2 3 ⟨i, 0⟩ with
  | some op =>
    have his := isP_is hp (by decide)
    have hoo : op = 2 ∨ op = 3 := by omega
    by_cases h64 : 64 ≤ i - first
    · rw [unS_long h64 (.inl (by rw [hp]; rfl))] at hok; cases hok
    · have hlt : i - first < 64 := by omega
      rw [unS_op hoo his.2.2 hlt] at hok ⊢
      obtain ⟨us, d1, d2, d3, d4⟩ := hu (i + 1) (by omega) (by omega) (by omega) hok
      refine ⟨tokAt l i :: us, .un hoo his.2.2 d1, Seg.cons d2, ?_, d4⟩
      simp only [d3, List.length_cons]
      push_cast
      omega
  | none =>
    by_cases hk2 : (tokAt l i).kind = 2
    · by_cases h64 : 64 ≤ i - first
      · rw [unS_long h64 (.inr (.inr (.inl hk2)))] at hok; cases hok
      · rw [unS_num hk2 (by omega)] at hok ⊢
        exact ⟨[tokAt l i], .num hk2, Seg.one l i, rfl, by show i + 1 - first ≤ 64; omega⟩
    · by_cases hk1 : (tokAt l i).kind = 1
      · by_cases h64 : 64 ≤ i - first
        · rw [unS_long h64 (.inr (.inr (.inr hk1)))] at hok; cases hok
        · rw [unS_name hk1 (by omega)] at hok ⊢
          exact ⟨[tokAt l i], .name hk1, Seg.one l i, rfl, by show i + 1 - first ≤ 64; omega⟩
      · by_cases hop : isOpen (tokAt l i) = true
        · by_cases h64 : 64 ≤ i - first
          · rw [unS_long h64 (.inr (.inl hop))] at hok; cases hok
          · rw [unS_open hop (by omega)] at hok ⊢
            by_cases hbad : (orr ⟨i + 1, 0⟩).2.bad = 0
            · obtain ⟨ts, d1, d2, d3, d4⟩ := ho (i + 1) (by omega) (by omega) (by omega) hbad
              by_cases hsh : isShut (tokAt l (orr ⟨i + 1, 0⟩).2.at_) = true
              · have hno : ¬((orr ⟨i + 1, 0⟩).2.bad = 0 ∧ isShut (tokAt l (orr ⟨i + 1, 0⟩).2.at_) = false) := fun hc => by rw [hsh] at hc; exact absurd hc.2 (by simp)
                rw [if_neg hno, if_pos hbad] at hok ⊢
                by_cases h65 : 64 ≤ (orr ⟨i + 1, 0⟩).2.at_ - first
                · rw [passP_no h65] at hok
                  exact absurd hok (by simp [failP, hbad])
                · rw [passP_yes (by omega)]
                  rw [d3] at hsh
                  refine ⟨tokAt l i :: (ts ++ [tokAt l (i + 1 + ts.length)]), .par hop hsh d1, Seg.cons (d2.app (Seg.one _ _)), ?_, ?_⟩
                  · simp only [d3, List.length_cons, List.length_append, List.length_nil]
                    push_cast
                    omega
                  · show (orr ⟨i + 1, 0⟩).2.at_ + 1 - first ≤ 64
                    omega
              · rw [if_pos ⟨hbad, by simpa using hsh⟩] at hok
                exact absurd hok (by simp [failP, hbad])
            · rw [if_neg (fun hc => hbad hc.1), if_neg hbad] at hok
              exact absurd hok hbad
        · unfold unS at hok
          rw [hp] at hok
          simp only at hok
          rw [if_pos (.inr ⟨by simpa using hop, hk2, hk1⟩)] at hok
          exact absurd hok (by simp [failP])
theorem unP_sound (l : List Tok) (first : Int) : ∀ f : Nat, Sound l first (first + 65 - f) (unP l first f) 6
  | 0 => fun i _ h2 h3 _ => by omega
  | f + 1 => by
    have h := unP_sound l first f
    refine unS_sound (m := first + 65 - (f + 1 : Nat)) (h.mono ?_) ((orOf_sound h).mono ?_) <;> push_cast <;> omega
theorem takeP_sound {l : List Tok} {a : Int} (h : (takeP l a).2.1 = 0) : ∃ ts, Der 1 (takeP l a).1 ts ∧ Seg l a ts ∧ (takeP l a).2.2 = a + ts.length ∧ ts.length ≤ 64 := by
  unfold takeP at h ⊢
  simp only at h ⊢
  by_cases hb : (orOf l a (unP l a 66) ⟨a, 0⟩).2.bad = 0
  · rw [if_neg (by simpa using hb)]
    obtain ⟨ts, d1, d2, d3, d4⟩ := orOf_sound (unP_sound l a 66) a (by omega) (by omega) (by omega) hb
    exact ⟨ts, d1, d2, d3, by omega⟩
  · rw [if_pos hb] at h
    exact absurd h hb
theorem takeP_der {l : List Tok} {a : Int} {e : Ex} {ts : List Tok} (h : Der 1 e ts) (hs : Seg l a ts) (hn : NoCont l (a + ts.length) 1) (hl : ts.length ≤ 64) : takeP l a = (e, 0, a + ts.length) := by
  have h1 : orOf l a (unP l a 66) ⟨a, 0⟩ = _ := (reads l a h 66 (by omega)).1 a (by omega) hs (by omega) hn
  unfold takeP
  rw [h1]
  simp only
  rw [if_neg (by simp)]
theorem takeP_long {l : List Tok} {a : Int} {e : Ex} {ts : List Tok} (h : Der 1 e ts) (hs : Seg l a ts) (hl : 64 < ts.length) (hl2 : ts.length ≤ 66) : (takeP l a).2.1 = 2 := by
  have h1 : (orOf l a (unP l a 66) ⟨a, 0⟩).2.bad = 2 := longs l a h 66 hl2 a (by omega) (by omega) hs (by omega)
  unfold takeP
  simp only
  rw [if_pos (by rw [h1]; decide), h1]
end Go.Proofs.YtgcfjkfipkfijaaGreatDoor
/-! The grammar: which trees may be, how many tokens they cost, and that no derivation is shorter. No program in sight. -/
namespace Go.Proofs.YtgcfjkfipkfijaaGreatDoor
open Go Go.RowKit

/-- A tree that can be written, whatever its length. -/
inductive ExWf : Ex → Prop where
  | num {n : Int} (h : 0 ≤ n) : ExWf (.mk 0 n ⟨#[]⟩ [])
  | name {s : ByteArray} (h : nameB s = true) : ExWf (.mk 1 0 s [])
  | un {op : Int} {a : Ex} (ho : op = 2 ∨ op = 3) (h : ExWf a) : ExWf (node1 op a)
  | bin {op : Int} {a b : Ex} (h4 : 4 ≤ op) (h16 : op ≤ 16) (ha : ExWf a) (hb : ExWf b) : ExWf (node2 op a b)
def wr (b : Bool) : Nat := if b then 2 else 0
/-- So many tokens a tree's text has. -/
def cst : Ex → Nat
  | .mk _ _ _ [] => 1
  | .mk op _ _ [a] => 1 + (cst a + wr (eWrapped op a.op 0))
  | .mk op _ _ (a :: b :: _) => 1 + (cst a + wr (eWrapped op a.op 0)) + (cst b + wr (eWrapped op b.op 1))
theorem cst_pos (e : Ex) : 1 ≤ cst e := by
  obtain ⟨o, n, s, ks⟩ := e
  match ks with
  | [] => exact Nat.le_refl _
  | [a] => rw [cst]; omega
  | a :: b :: r => rw [cst]; omega
theorem cst_one (op : Int) (a : Ex) : cst (node1 op a) = 1 + (cst a + wr (eWrapped op a.op 0)) := by unfold node1; rw [cst]
theorem cst_two (op : Int) (a b : Ex) : cst (node2 op a b) = 1 + (cst a + wr (eWrapped op a.op 0)) + (cst b + wr (eWrapped op b.op 1)) := by unfold node2; rw [cst]
theorem eTok_un {op : Int} {a : Ex} {most : Int} (ho : op = 2 ∨ op = 3) (hm : 1 ≤ most) : eTok (node1 op a) most = eToks op [a] 0 1 most := by
  have hp : eParts op = 1 := if_pos ho
  unfold node1
  rw [eTok, if_neg (by omega), if_neg (by
    rintro (h | h | h | h | h | h)
    · omega
    · omega
    · exact h rfl
    · exact h rfl
    · exact h (by rw [hp]; rfl)
    · omega)]
theorem eTok_bin {op : Int} {a b : Ex} {most : Int} (h4 : 4 ≤ op) (h16 : op ≤ 16) (hm : 1 ≤ most) : eTok (node2 op a b) most = eToks op [a, b] 0 1 most := by
  have hp : eParts op = 2 := if_neg (by omega)
  unfold node2
  rw [eTok, if_neg (by omega), if_neg (by
    rintro (h | h | h | h | h | h)
    · omega
    · omega
    · exact h rfl
    · exact h rfl
    · exact h (by rw [hp]; rfl)
    · omega)]
theorem wr_int (b : Bool) : ((wr b : Nat) : Int) = if b = true then 2 else 0 := by cases b <;> rfl
theorem eToks_step {op i n most : Int} {a : Ex} {ks : List Ex} (h : eTok a (most - n) = cst a) (hm : n + cst a + wr (eWrapped op a.op i) ≤ most) : eToks op (a :: ks) i n most = eToks op ks (i + 1) (n + cst a + wr (eWrapped op a.op i)) most := by
  rw [wr_int] at hm ⊢
  simp only [eToks]
  rw [h, if_neg (by omega), if_neg (by omega)]
theorem eTok_cst {e : Ex} (h : ExWf e) : ∀ most : Int, (cst e : Int) ≤ most → eTok e most = cst e := by
  induction h with
  | num h =>
    intro most _
    rw [eTok, if_pos (.inl rfl), if_neg (by
      rintro (h' | ⟨_, h' | h'⟩ | ⟨h', _⟩)
      · simp at h'
      · omega
      · exact h' rfl
      · omega), cst]
    rfl
  | name h =>
    intro most _
    rw [eTok, if_pos (.inr rfl), if_neg (by
      rintro (h' | ⟨h', _⟩ | ⟨_, h' | h'⟩)
      · simp at h'
      · omega
      · exact h' rfl
      · rw [h] at h'; cases h'), cst]
    rfl
  | @un op a ho _ ih =>
    intro most hm
    rw [cst_one] at hm ⊢
    have hp := cst_pos a
    push_cast at hm
    rw [eTok_un ho (by omega), eToks_step (ih _ (by omega)) (by omega), eToks]
    push_cast
    omega
  | @bin op a b h4 h16 _ _ iha ihb =>
    intro most hm
    rw [cst_two] at hm ⊢
    have hp := cst_pos a
    have hq := cst_pos b
    push_cast at hm
    rw [eTok_bin h4 h16 (by omega), eToks_step (iha _ (by omega)) (by omega), eToks_step (ihb _ (by omega)) (by show _ ≤ most; rw [show (0 : Int) + 1 = 1 by rfl]; omega), eToks, show (0 : Int) + 1 = 1 by rfl]
    push_cast
    omega
theorem size_zero {s : ByteArray} (h : s.size = 0) : s = ⟨#[]⟩ := by
  apply ByteArray.ext
  exact Array.eq_empty_of_size_eq_zero h
theorem eToks_back {op i n most : Int} {a : Ex} {ks : List Ex} (h : 0 ≤ eToks op (a :: ks) i n most) : 0 ≤ eTok a (most - n) ∧ 0 ≤ eToks op ks (i + 1) (n + eTok a (most - n) + (if eWrapped op a.op i then 2 else 0)) most := by
  simp only [eToks] at h
  generalize (if eWrapped op a.op i = true then (2 : Int) else 0) = z at h ⊢
  split at h
  · omega
  · split at h
    · omega
    · exact ⟨by omega, h⟩
theorem wf_of_tok (N : Nat) : ∀ e : Ex, SizeOf.sizeOf e < N → ∀ most, 0 ≤ eTok e most → ExWf e := by
  induction N with
  | zero => intro e h; omega
  | succ N ih =>
    intro e hs most h
    obtain ⟨o, n, s, ks⟩ := e
    by_cases h0 : o = 0 ∨ o = 1
    · by_cases h1 : 0 < ks.length ∨ o = 0 ∧ (n < 0 ∨ s.size ≠ 0) ∨ o = 1 ∧ (n ≠ 0 ∨ nameB s = false)
      · rw [eTok, if_pos h0, if_pos h1] at h
        omega
      · obtain rfl : ks = [] := List.eq_nil_of_length_eq_zero (by omega)
        rcases h0 with rfl | rfl
        · obtain rfl : s = ⟨#[]⟩ := size_zero (by omega)
          exact .num (by omega)
        · obtain rfl : n = 0 := by omega
          refine .name ?_
          cases hb : nameB s with
          | true => rfl
          | false => exact absurd (.inr (.inr ⟨rfl, .inr hb⟩)) h1
    · by_cases h1 : o < 0 ∨ 16 < o ∨ n ≠ 0 ∨ s.size ≠ 0 ∨ ks.length ≠ eParts o ∨ most < 1
      · rw [eTok, if_neg h0, if_pos h1] at h
        omega
      · rw [eTok, if_neg h0, if_neg h1] at h
        obtain rfl : n = 0 := by omega
        obtain rfl : s = ⟨#[]⟩ := size_zero (by omega)
        have hl : ks.length = eParts o := by omega
        by_cases ho : o = 2 ∨ o = 3
        · rw [show eParts o = 1 from if_pos ho] at hl
          obtain ⟨a, rfl⟩ := List.length_eq_one_iff.1 hl
          simp at hs
          exact .un ho (ih a (by omega) _ (eToks_back h).1)
        · rw [show eParts o = 2 from if_neg ho] at hl
          match ks, hl with
          | [a, b], _ =>
            simp at hs
            have hb := eToks_back h
            exact .bin (by omega) (by omega) (ih a (by omega) _ hb.1) (ih b (by omega) _ (eToks_back hb.2).1)
/-- A tree may be just if it can be written with at most 64 tokens. -/
theorem may_iff (e : Ex) : eMay e = true ↔ ExWf e ∧ cst e ≤ 64 := by
  constructor
  · intro h
    unfold eMay at h
    rw [Bool.and_eq_true, decide_eq_true_eq, decide_eq_true_eq] at h
    have hw := wf_of_tok (SizeOf.sizeOf e + 1) e (by omega) 64 (by omega)
    refine ⟨hw, ?_⟩
    by_cases hc : cst e ≤ 64
    · exact hc
    · exfalso
      have key : ∀ {e : Ex}, ExWf e → ∀ most : Int, most < cst e → eTok e most < 0 ∨ (cst e = 1 ∧ eTok e most = 1) := by
        intro e he
        induction he with
        | num h0 =>
          intro most _
          right
          refine ⟨by rw [cst], ?_⟩
          rw [eTok, if_pos (.inl rfl), if_neg (by
            rintro (h' | ⟨_, h' | h'⟩ | ⟨h', _⟩)
            · simp at h'
            · omega
            · exact h' rfl
            · omega)]
        | name h0 =>
          intro most _
          right
          refine ⟨by rw [cst], ?_⟩
          rw [eTok, if_pos (.inr rfl), if_neg (by
            rintro (h' | ⟨h', _⟩ | ⟨_, h' | h'⟩)
            · simp at h'
            · omega
            · exact h' rfl
            · rw [h0] at h'; cases h')]
        | @un op a ho ha ih =>
          intro most hm
          left
          rw [cst_one] at hm
          push_cast at hm
          by_cases h1 : 1 ≤ most
          · rw [eTok_un ho h1]
            simp only [eToks]
            rw [← wr_int]
            by_cases hc2 : (cst a : Int) ≤ most - 1
            · rw [eTok_cst ha _ hc2, if_neg (by omega), if_pos (by omega)]
              decide
            · rcases ih (most - 1) (by omega) with h2 | ⟨h2, h3⟩
              · rw [if_pos h2]; decide
              · rw [h3, if_neg (by decide), if_pos (by omega)]; decide
          · have hp : eParts op = 1 := if_pos ho
            unfold node1
            rw [eTok, if_neg (by omega), if_pos (by omega)]
            decide
        | @bin op a b h4 h16 ha hb iha ihb =>
          intro most hm
          left
          rw [cst_two] at hm
          push_cast at hm
          by_cases h1 : 1 ≤ most
          · rw [eTok_bin h4 h16 h1]
            simp only [eToks]
            rw [← wr_int, ← wr_int, show (0 : Int) + 1 = 1 by rfl]
            by_cases hc2 : (cst a : Int) ≤ most - 1
            · rw [eTok_cst ha _ hc2, if_neg (by omega)]
              by_cases hc3 : most < 1 + (cst a : Int) + (wr (eWrapped op a.op 0) : Nat)
              · rw [if_pos hc3]; decide
              · rw [if_neg hc3]
                by_cases hc4 : (cst b : Int) ≤ most - (1 + (cst a : Int) + (wr (eWrapped op a.op 0) : Nat))
                · rw [eTok_cst hb _ hc4, if_neg (by omega), if_pos (by omega)]
                  decide
                · rcases ihb (most - (1 + (cst a : Int) + (wr (eWrapped op a.op 0) : Nat))) (by omega) with h2 | ⟨h2, h3⟩
                  · rw [if_pos h2]; decide
                  · rw [h3, if_neg (by decide), if_pos (by omega)]; decide
            · rcases iha (most - 1) (by omega) with h2 | ⟨h2, h3⟩
              · rw [if_pos h2]; decide
              · rw [h3, if_neg (by decide), if_pos (by omega)]; decide
          · have hp : eParts op = 2 := if_neg (by omega)
            unfold node2
            rw [eTok, if_neg (by omega), if_pos (by omega)]
            decide
      rcases key hw 64 (by omega) with h2 | ⟨h2, _⟩ <;> omega
  · rintro ⟨hw, hc⟩
    unfold eMay
    have hp := cst_pos e
    rw [eTok_cst hw 64 (by omega), Bool.and_eq_true, decide_eq_true_eq, decide_eq_true_eq]
    omega
/-- What a token tells is right: a number is not negative, a name is one. -/
def TokOk (t : Tok) : Prop := (t.kind = 2 → 0 ≤ t.n) ∧ (t.kind = 1 → nameB t.text = true)
theorem der_wf {n : Nat} {e : Ex} {ts : List Tok} (h : Der n e ts) : (∀ t, t ∈ ts → TokOk t) → ExWf e := by
  induction h with
  | @num t hk => intro h; exact .num ((h t (by simp)).1 hk)
  | @name t hk => intro h; exact .name ((h t (by simp)).2 hk)
  | un ho _ _ ih => intro h; exact .un ho (ih (fun t ht => h t (by simp [ht])))
  | par _ _ _ ih => intro h; exact ih (fun t ht => h t (by simp [ht]))
  | up _ _ _ ih => exact ih
  | bin h4 h16 _ _ _ _ _ iha ihb => intro h; exact .bin h4 h16 (iha (fun t ht => h t (by simp [ht]))) (ihb (fun t ht => h t (by simp [ht])))
  | cmp h9 h14 _ _ _ iha ihb => intro h; exact .bin (by omega) (by omega) (iha (fun t ht => h t (by simp [ht]))) (ihb (fun t ht => h t (by simp [ht])))
/-- The line of a tree's operator. -/
theorem line_ge (op : Int) : 1 ≤ eLine op := by
  unfold eLine
  repeat' split
  all_goals decide
theorem line_le (op : Int) : eLine op ≤ 6 := by
  unfold eLine
  repeat' split
  all_goals decide
def lw (n : Nat) (e : Ex) : Nat := if eLine e.op < n then 2 else 0
theorem lw_le {n m : Nat} (h : n ≤ m) (e : Ex) : lw n e ≤ lw m e := by
  unfold lw
  split
  · rw [if_pos (by omega)]; omega
  · omega
theorem der_cst {n : Nat} {e : Ex} {ts : List Tok} (h : Der n e ts) : cst e + lw n e ≤ ts.length := by
  induction h with
  | num hk => simp [cst, lw, Ex.op, eLine]
  | name hk => simp [cst, lw, Ex.op, eLine]
  | @un op t e ts ho _ _ ih =>
    rw [cst_one]
    have h1 : lw 6 (node1 op e) = 0 := by
      rcases ho with rfl | rfl <;> rfl
    have h2 : wr (eWrapped op e.op 0) ≤ lw 6 e := by
      unfold eWrapped lw
      rcases ho with rfl | rfl
      all_goals
        have h6 : eLine 2 = 6 := rfl
        have h7 : eLine 3 = 6 := rfl
        simp only [h6, h7]
        by_cases hl : eLine e.op < 6
        · rw [if_pos (by exact hl)]; unfold wr; split <;> omega
        · rw [if_neg (by exact hl)]; simp [hl, wr]
    simp only [List.length_cons]
    omega
  | @par t u e ts _ _ _ ih =>
    simp only [List.length_cons, List.length_append, List.length_nil]
    have : lw 6 e ≤ 2 := by unfold lw; split <;> omega
    omega
  | @up n e ts _ _ _ ih =>
    have := lw_le (show n ≤ n + 1 by omega) e
    omega
  | @bin n op t a b ts us h4 h16 hl h3 _ _ _ iha ihb =>
    rw [cst_two]
    have h1 : lw n (node2 op a b) = 0 := by
      unfold lw
      rw [if_neg (by show ¬ eLine op < n; omega)]
    have h2 : wr (eWrapped op a.op 0) ≤ lw n a := by
      unfold eWrapped lw
      rw [hl]
      by_cases h : eLine a.op < n
      · rw [if_pos h]; unfold wr; split <;> omega
      · have h0 : ((n : Int) == 3) = false := by rw [beq_eq_false_iff_ne]; omega
        have h9 : ((0 : Int) == 1) = false := rfl
        rw [if_neg h, h0, h9]
        simp [h, wr]
    have h5 : wr (eWrapped op b.op 1) ≤ lw (n + 1) b := by
      unfold eWrapped lw
      rw [hl]
      by_cases h : eLine b.op < n
      · rw [if_pos (by push_cast; omega)]; unfold wr; split <;> omega
      · by_cases h' : eLine b.op = n
        · rw [if_pos (by push_cast; omega)]; unfold wr; split <;> omega
        · rw [if_neg (by push_cast; omega)]
          simp [h, wr, h']
    simp only [List.length_cons, List.length_append]
    omega
  | @cmp op t a b ts us h9 h14 _ _ _ iha ihb =>
    rw [cst_two]
    have hl : eLine op = (3 : Nat) := (lo_line op 3 (by omega) (by omega) h9 h14).2.2
    have h1 : lw 3 (node2 op a b) = 0 := by
      unfold lw
      rw [if_neg (by show ¬ eLine op < (3 : Nat); omega)]
    have h2 : ∀ (x : Ex) (i : Int), wr (eWrapped op x.op i) ≤ lw 4 x := by
      intro x i
      unfold eWrapped lw
      rw [hl]
      by_cases h : eLine x.op < 4
      · rw [if_pos (by exact h)]; unfold wr; split <;> omega
      · rw [if_neg (by exact h)]
        have e1 : decide (eLine x.op < ((3 : Nat) : Int)) = false := decide_eq_false (by omega)
        have e2 : (eLine x.op == ((3 : Nat) : Int)) = false := by rw [beq_eq_false_iff_ne]; omega
        rw [e1, e2]
        simp [wr]
    have h3 := h2 a 0
    have h4 := h2 b 1
    simp only [List.length_cons, List.length_append]
    omega
end Go.Proofs.YtgcfjkfipkfijaaGreatDoor
