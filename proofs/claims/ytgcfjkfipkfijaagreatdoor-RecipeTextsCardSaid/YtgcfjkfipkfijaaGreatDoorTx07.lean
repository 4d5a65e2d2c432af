/- Part 7 of the proof of rtexts_card; no conditions. -/
import Derived.Test.YtgcfjkfipkfijaaGreatDoorTx01
import Derived.Test.YtgcfjkfipkfijaaGreatDoorTx02
import Derived.KernelRfl
import Derived.Lib.ItoaLen
import Derived.Lib.ItoaNum
namespace Go.Proofs.YtgcfjkfipkfijaaGreatDoor
open Go Go.RowKit
def Sgn (op : Int) (t : Tok) : Prop := t.kind = 4 ∧ seq (eSign op) t.text = true
def lev (l : List Tok) (first : Int) (un : St → Ex × St) : Nat → St → Ex × St
 | 1 => orOf l first un
 | 2 => rowP l first 15 15 (cmpP l first (rowP l first 4 5 (rowP l first 6 8 un)))
 | 3 => cmpP l first (rowP l first 4 5 (rowP l first 6 8 un))
 | 4 => rowP l first 4 5 (rowP l first 6 8 un)
 | 5 => rowP l first 6 8 un
 | _ => un
def lo : Nat → Int
 | 1 => 16
 | 2 => 15
 | 3 => 9
 | 4 => 4
 | _ => 6
def hi : Nat → Int
 | 1 => 16
 | 2 => 15
 | 3 => 14
 | 4 => 5
 | _ => 8
theorem lev_row {l : List Tok} {first : Int} {un : St → Ex × St} {n : Nat} (h : n = 1 ∨ n = 2 ∨ n = 4 ∨ n = 5) : lev l first un n = rowP l first (lo n) (hi n) (lev l first un (n + 1)) := by
 rcases h with rfl | rfl | rfl | rfl <;> rfl
theorem lev_cmp {l : List Tok} {first : Int} {un : St → Ex × St} : lev l first un 3 = cmpP l first (lev l first un 4) := rfl
theorem line_lo (op : Int) (n : Nat) (h4 : 4 ≤ op) (h16 : op ≤ 16) (hl : eLine op = n) : lo n ≤ op ∧ op ≤ hi n ∧ 1 ≤ n ∧ n ≤ 5 := by
 have hop : op = 4 ∨ op = 5 ∨ op = 6 ∨ op = 7 ∨ op = 8 ∨ op = 9 ∨ op = 10 ∨ op = 11 ∨ op = 12 ∨ op = 13 ∨ op = 14 ∨ op = 15 ∨ op = 16 := by omega
 rcases hop with rfl | rfl | rfl | rfl | rfl | rfl | rfl | rfl | rfl | rfl | rfl | rfl | rfl
 all_goals
  obtain rfl : n = _ := Int.ofNat_inj.1 (hl.symm.trans (by rfl))
  decide
theorem lo_line (op : Int) (n : Nat) (h1 : 1 ≤ n) (h5 : n ≤ 5) (hl : lo n ≤ op) (hh : op ≤ hi n) : 4 ≤ op ∧ op ≤ 16 ∧ eLine op = n := by
 have hn : n = 1 ∨ n = 2 ∨ n = 3 ∨ n = 4 ∨ n = 5 := by omega
 rcases hn with rfl | rfl | rfl | rfl | rfl
 all_goals
  simp only [lo, hi] at hl hh
  unfold eLine
  refine ⟨by omega, by omega, ?_⟩
  (repeat (first | rw [if_pos (by omega)] | rw [if_neg (by omega)]))
  try rfl
theorem sign_inj (a b : Int) (ha : 4 ≤ a) (ha' : a ≤ 16) (hb : 4 ≤ b) (hb' : b ≤ 16) (h : eSign a = eSign b) : a = b := by
 have h0 : ((List.range 13).all fun i => (List.range 13).all fun k => !seq (eSign (4 + (i : Int))) (eSign (4 + (k : Int))) || i == k) = true := by kernel_rfl
 have h1 := List.all_eq_true.1 (List.all_eq_true.1 h0 (a - 4).toNat (List.mem_range.2 (by omega))) (b - 4).toNat (List.mem_range.2 (by omega))
 rw [show 4 + ((a - 4).toNat : Int) = a by omega, show 4 + ((b - 4).toNat : Int) = b by omega, seq_iff.2 h] at h1
 simp at h1
 omega
theorem sgn_inj {a b : Int} {t : Tok} (ha : 4 ≤ a) (ha' : a ≤ 16) (hb : 4 ≤ b) (hb' : b ≤ 16) (h : Sgn a t) (k : Sgn b t) : a = b :=
 sign_inj a b ha ha' hb hb' ((seq_iff.1 h.2).trans (seq_iff.1 k.2).symm)
theorem isF_none {t : Tok} {bad : Int} : ∀ (n : Nat) (a : Int), (∀ op, a ≤ op → op < a + n → ¬ Sgn op t) → isF t bad n a = none
 | 0, _, _ => rfl
 | n + 1, a, h => by
  rw [isF]
  split
  ·rename_i hk
   rw [if_neg (fun hs => h a (Int.le_refl _) (by omega) ⟨hk.1, hs⟩)]
   exact isF_none n (a + 1) (fun op h1 h2 => h op (by omega) (by omega))
  ·rfl
theorem isF_some {t : Tok} {op : Int} (hs : Sgn op t) : ∀ (n : Nat) (a : Int), a ≤ op → op < a + n → (∀ o, a ≤ o → o < op → ¬ Sgn o t) → isF t 0 n a = some op
 | 0, _, h1, h2, _ => by omega
 | n + 1, a, h1, h2, h => by
  rw [isF, if_pos ⟨hs.1, rfl⟩]
  by_cases e : a = op
  ·subst e; rw [if_pos hs.2]
  ·rw [if_neg (fun hq => h a (Int.le_refl _) (by omega) ⟨hs.1, hq⟩)]
   exact isF_some hs n (a + 1) (by omega) (by omega) (fun o h1 h2 => h o (by omega) h2)
theorem isP_some {l : List Tok} {i op : Int} {n : Nat} (h1 : 1 ≤ n) (h5 : n ≤ 5) (ho : lo n ≤ op) (ho' : op ≤ hi n) (h : Sgn op (tokAt l i)) : isP l (lo n) (hi n) ⟨i, 0⟩ = some op := by
 unfold isP
 have hb := lo_line op n h1 h5 ho ho'
 refine isF_some h _ _ ho (by omega) (fun o h2 h3 hs => ?_)
 have hb' := lo_line o n h1 h5 h2 (by omega)
 have := sgn_inj hb'.1 hb'.2.1 hb.1 hb.2.1 hs h
 omega
theorem isP_bad {l : List Tok} {a b : Int} {s : St} (h : s.bad ≠ 0) : isP l a b s = none := by
 unfold isP
 generalize (b - a + 1).toNat = n
 cases n with
 | zero => rfl
 | succ n => rw [isF, if_neg (fun h' => h h'.2)]
theorem passP_yes {first : Int} {s : St} (h : s.at_ - first < 64) : passP first s = (true, ⟨s.at_ + 1, s.bad⟩) := by
 unfold passP; rw [if_neg (by omega)]
theorem passP_no {first : Int} {s : St} (h : 64 ≤ s.at_ - first) : passP first s = (false, failP 2 s) := by
 unfold passP; rw [if_pos h]
theorem rowF_none {l : List Tok} {first a b : Int} {below : St → Ex × St} {k : Nat} {e : Ex} {s : St} (h : isP l a b s = none) : rowF l first a b below k e s = (e, s) := by
 cases k with
 | zero => rfl
 | succ k => rw [rowF, h]
theorem rowF_some {l : List Tok} {first a b op : Int} {below : St → Ex × St} {k : Nat} {e : Ex} {s : St} (h : isP l a b s = some op) (hp : s.at_ - first < 64) :
  rowF l first a b below (k + 1) e s = rowF l first a b below k (node2 op e (below ⟨s.at_ + 1, s.bad⟩).1) (below ⟨s.at_ + 1, s.bad⟩).2 := by
 rw [rowF, h]
 simp only
 rw [passP_yes hp, if_neg (by simp)]
theorem rowF_long {l : List Tok} {first a b op : Int} {below : St → Ex × St} {k : Nat} {e : Ex} {s : St} (h : isP l a b s = some op) (hp : 64 ≤ s.at_ - first) :
  rowF l first a b below (k + 1) e s = (e, failP 2 s) := by
 rw [rowF, h]
 simp only
 rw [passP_no hp, if_pos rfl]
theorem isP_not {l : List Tok} {a b : Int} {s : St} (h : (tokAt l s.at_).kind ≠ 4) : isP l a b s = none := by
 unfold isP
 exact isF_none _ _ (fun _ _ _ hs => h hs.1)
theorem isP_un {l : List Tok} {i op : Int} (ho : op = 2 ∨ op = 3) (h : Sgn op (tokAt l i)) : isP l 2 3 ⟨i, 0⟩ = some op := by
 unfold isP
 refine isF_some h _ _ (by omega) (by omega) (fun o h2 h3 hs => ?_)
 obtain ⟨rfl, rfl⟩ : o = 2 ∧ op = 3 := by omega
 have := (seq_iff.1 hs.2).trans (seq_iff.1 h.2).symm
 exact absurd (seq_iff.2 this) (by decide)
theorem isP_open {l : List Tok} {i b : Int} (h : isOpen (tokAt l i) = true) : isP l 2 3 ⟨i, b⟩ = none := by
 unfold isP
 unfold isOpen at h
 rw [Bool.and_eq_true] at h
 refine isF_none _ _ (fun op h2 h3 hs => ?_)
 have h1 := (seq_iff.1 hs.2).trans (seq_iff.1 h.2)
 have : op = 2 ∨ op = 3 := by
  have : ((3 - 2 + 1 : Int).toNat : Int) = 2 := by decide
  omega
 rcases this with rfl | rfl <;> exact absurd (seq_iff.2 h1) (by decide)
theorem unS_num {l : List Tok} {first i : Int} {un orr : St → Ex × St} (hk : (tokAt l i).kind = 2) (hb : i - first < 64) : unS l first un orr ⟨i, 0⟩ = (.mk 0 (tokAt l i).n ⟨#[]⟩ [], ⟨i + 1, 0⟩) := by
 unfold unS
 rw [isP_not (by show (tokAt l i).kind ≠ 4; omega)]
 simp only
 rw [if_neg (by simp [hk]), passP_yes hb, if_neg (by simp), if_pos hk]
theorem unS_name {l : List Tok} {first i : Int} {un orr : St → Ex × St} (hk : (tokAt l i).kind = 1) (hb : i - first < 64) : unS l first un orr ⟨i, 0⟩ = (.mk 1 0 (tokAt l i).text [], ⟨i + 1, 0⟩) := by
 unfold unS
 rw [isP_not (by show (tokAt l i).kind ≠ 4; omega)]
 simp only
 rw [if_neg (by simp [hk]), passP_yes hb, if_neg (by simp), if_neg (by omega), if_pos hk]
theorem unS_op {l : List Tok} {first i op : Int} {un orr : St → Ex × St} (ho : op = 2 ∨ op = 3) (h : Sgn op (tokAt l i)) (hb : i - first < 64) : unS l first un orr ⟨i, 0⟩ = (node1 op (un ⟨i + 1, 0⟩).1, (un ⟨i + 1, 0⟩).2) := by
 unfold unS
 rw [isP_un ho h]
 simp only
 rw [passP_yes hb, if_neg (by simp)]
theorem open_kind {t : Tok} (h : isOpen t = true) : t.kind = 4 := by
 unfold isOpen at h
 rw [Bool.and_eq_true, beq_iff_eq] at h
 exact h.1
theorem unS_open {l : List Tok} {first i : Int} {un orr : St → Ex × St} (h : isOpen (tokAt l i) = true) (hb : i - first < 64) : unS l first un orr ⟨i, 0⟩ =
  (if (orr ⟨i + 1, 0⟩).2.bad = 0 ∧ isShut (tokAt l (orr ⟨i + 1, 0⟩).2.at_) = false then (zEx, failP 11 (orr ⟨i + 1, 0⟩).2)
    else if (orr ⟨i + 1, 0⟩).2.bad = 0 then ((orr ⟨i + 1, 0⟩).1, (passP first (orr ⟨i + 1, 0⟩).2).2) else orr ⟨i + 1, 0⟩) := by
 have hk := open_kind h
 unfold unS
 rw [isP_open h]
 simp only
 rw [if_neg (by simp [h]), passP_yes hb, if_neg (by simp), if_neg (by omega), if_neg (by omega)]
end Go.Proofs.YtgcfjkfipkfijaaGreatDoor
namespace Go.Proofs.YtgcfjkfipkfijaaGreatDoor
open Go Go.RowKit
theorem rowF_bad {l : List Tok} {first a b : Int} {below : St → Ex × St} {k : Nat} {e : Ex} {s : St} (h : s.bad ≠ 0) : rowF l first a b below k e s = (e, s) := rowF_none (isP_bad h)
theorem isF_is {t : Tok} {bad op : Int} : ∀ (n : Nat) (a : Int), isF t bad n a = some op → a ≤ op ∧ op < a + n ∧ Sgn op t
 | 0, _, h => by simp [isF] at h
 | n + 1, a, h => by
  rw [isF] at h
  by_cases hk : t.kind = 4 ∧ bad = 0
  ·rw [if_pos hk] at h
   by_cases hs : seq (eSign a) t.text = true
   ·rw [if_pos hs] at h
    obtain rfl := Option.some.inj h
    exact ⟨by omega, by omega, hk.1, hs⟩
   ·rw [if_neg hs] at h
    have := isF_is n (a + 1) h
    exact ⟨by omega, by omega, this.2.2⟩
  ·rw [if_neg hk] at h; cases h
theorem isP_is {l : List Tok} {a b op : Int} {s : St} (h : isP l a b s = some op) (hab : a ≤ b) : a ≤ op ∧ op ≤ b ∧ Sgn op (tokAt l s.at_) := by
 have := isF_is _ _ h
 exact ⟨this.1, by omega, this.2.2⟩
theorem st_eta {s : St} (h : s.bad = 0) : s = ⟨s.at_, 0⟩ := by cases s; simp at h; rw [h]
end Go.Proofs.YtgcfjkfipkfijaaGreatDoor
namespace Go.Proofs.YtgcfjkfipkfijaaGreatDoor
open Go Go.RowKit
inductive ExWf : Ex → Prop where
 | num {n : Int} (h : 0 ≤ n) : ExWf (.mk 0 n ⟨#[]⟩ [])
 | name {s : ByteArray} (h : nameB s = true) : ExWf (.mk 1 0 s [])
 | un {op : Int} {a : Ex} (ho : op = 2 ∨ op = 3) (h : ExWf a) : ExWf (node1 op a)
 | bin {op : Int} {a b : Ex} (h4 : 4 ≤ op) (h16 : op ≤ 16) (ha : ExWf a) (hb : ExWf b) : ExWf (node2 op a b)
def wr (b : Bool) : Nat := if b then 2 else 0
def cst : Ex → Nat
 | .mk _ _ _ [] => 1
 | .mk op _ _ [a] => 1 + (cst a + wr (eWrapped op a.op 0))
 | .mk op _ _ (a :: b :: _) => 1 + (cst a + wr (eWrapped op a.op 0)) + (cst b + wr (eWrapped op b.op 1))
theorem cst_pos (e : Ex) : 1 ≤ cst e := by
 obtain ⟨o, n, s, ks⟩ := e
 match ks with
 | [] => exact Nat.le_refl _
 | [a] => rw [cst]; omega
 | a :: b :: r => rw [cst]; omega
theorem cst_one (op : Int) (a : Ex) : cst (node1 op a) = 1 + (cst a + wr (eWrapped op a.op 0)) := by unfold node1; rw [cst]
theorem cst_two (op : Int) (a b : Ex) : cst (node2 op a b) = 1 + (cst a + wr (eWrapped op a.op 0)) + (cst b + wr (eWrapped op b.op 1)) := by unfold node2; rw [cst]
theorem eTok_un {op : Int} {a : Ex} {most : Int} (ho : op = 2 ∨ op = 3) (hm : 1 ≤ most) : eTok (node1 op a) most = eToks op [a] 0 1 most := by
 have hp : eParts op = 1 := if_pos ho
 unfold node1
 rw [eTok, if_neg (by omega), if_neg (by
  rintro (h | h | h | h | h | h)
  ·omega
  ·omega
  ·exact h rfl
  ·exact h rfl
  ·exact h (by rw [hp]; rfl)
  ·omega)]
theorem eTok_bin {op : Int} {a b : Ex} {most : Int} (h4 : 4 ≤ op) (h16 : op ≤ 16) (hm : 1 ≤ most) : eTok (node2 op a b) most = eToks op [a, b] 0 1 most := by
 have hp : eParts op = 2 := if_neg (by omega)
 unfold node2
 rw [eTok, if_neg (by omega), if_neg (by
  rintro (h | h | h | h | h | h)
  ·omega
  ·omega
  ·exact h rfl
  ·exact h rfl
  ·exact h (by rw [hp]; rfl)
  ·omega)]
theorem wr_int (b : Bool) : ((wr b : Nat) : Int) = if b = true then 2 else 0 := by cases b <;> rfl
theorem eToks_step {op i n most : Int} {a : Ex} {ks : List Ex} (h : eTok a (most - n) = cst a) (hm : n + cst a + wr (eWrapped op a.op i) ≤ most) : eToks op (a :: ks) i n most = eToks op ks (i + 1) (n + cst a + wr (eWrapped op a.op i)) most := by
 rw [wr_int] at hm ⊢
 simp only [eToks]
 rw [h, if_neg (by omega), if_neg (by omega)]
theorem eTok_cst {e : Ex} (h : ExWf e) : ∀ most : Int, (cst e : Int) ≤ most → eTok e most = cst e := by
 induction h with
 | num h =>
  intro most _
  rw [eTok, if_pos (.inl rfl), if_neg (by
   rintro (h' | ⟨_, h' | h'⟩ | ⟨h', _⟩)
   ·simp at h'
   ·omega
   ·exact h' rfl
   ·omega), cst]
  rfl
 | name h =>
  intro most _
  rw [eTok, if_pos (.inr rfl), if_neg (by
   rintro (h' | ⟨h', _⟩ | ⟨_, h' | h'⟩)
   ·simp at h'
   ·omega
   ·exact h' rfl
   ·rw [h] at h'; cases h'), cst]
  rfl
 | @un op a ho _ ih =>
  intro most hm
  rw [cst_one] at hm ⊢
  have hp := cst_pos a
  push_cast at hm
  rw [eTok_un ho (by omega), eToks_step (ih _ (by omega)) (by omega), eToks]
  push_cast
  omega
 | @bin op a b h4 h16 _ _ iha ihb =>
  intro most hm
  rw [cst_two] at hm ⊢
  have hp := cst_pos a
  have hq := cst_pos b
  push_cast at hm
  rw [eTok_bin h4 h16 (by omega), eToks_step (iha _ (by omega)) (by omega), eToks_step (ihb _ (by omega)) (by show _ ≤ most; rw [show (0 : Int) + 1 = 1 by rfl]; omega), eToks, show (0 : Int) + 1 = 1 by rfl]
  push_cast
  omega
theorem size_zero {s : ByteArray} (h : s.size = 0) : s = ⟨#[]⟩ := by
 apply ByteArray.ext
 exact Array.eq_empty_of_size_eq_zero h
theorem eToks_back {op i n most : Int} {a : Ex} {ks : List Ex} (h : 0 ≤ eToks op (a :: ks) i n most) : 0 ≤ eTok a (most - n) ∧ 0 ≤ eToks op ks (i + 1) (n + eTok a (most - n) + (if eWrapped op a.op i then 2 else 0)) most := by
 simp only [eToks] at h
 generalize (if eWrapped op a.op i = true then (2 : Int) else 0) = z at h ⊢
 split at h
 ·omega
 ·split at h
  ·omega
  ·exact ⟨by omega, h⟩
theorem wf_of_tok (N : Nat) : ∀ e : Ex, SizeOf.sizeOf e < N → ∀ most, 0 ≤ eTok e most → ExWf e := by
 induction N with
 | zero => intro e h; omega
 | succ N ih =>
  intro e hs most h
  obtain ⟨o, n, s, ks⟩ := e
  by_cases h0 : o = 0 ∨ o = 1
  ·by_cases h1 : 0 < ks.length ∨ o = 0 ∧ (n < 0 ∨ s.size ≠ 0) ∨ o = 1 ∧ (n ≠ 0 ∨ nameB s = false)
   ·rw [eTok, if_pos h0, if_pos h1] at h
    omega
   ·obtain rfl : ks = [] := List.eq_nil_of_length_eq_zero (by omega)
    rcases h0 with rfl | rfl
    ·obtain rfl : s = ⟨#[]⟩ := size_zero (by omega)
     exact .num (by omega)
    ·obtain rfl : n = 0 := by omega
     refine .name ?_
     cases hb : nameB s with
     | true => rfl
     | false => exact absurd (.inr (.inr ⟨rfl, .inr hb⟩)) h1
  ·by_cases h1 : o < 0 ∨ 16 < o ∨ n ≠ 0 ∨ s.size ≠ 0 ∨ ks.length ≠ eParts o ∨ most < 1
   ·rw [eTok, if_neg h0, if_pos h1] at h
    omega
   ·rw [eTok, if_neg h0, if_neg h1] at h
    obtain rfl : n = 0 := by omega
    obtain rfl : s = ⟨#[]⟩ := size_zero (by omega)
    have hl : ks.length = eParts o := by omega
    by_cases ho : o = 2 ∨ o = 3
    ·rw [show eParts o = 1 from if_pos ho] at hl
     obtain ⟨a, rfl⟩ := List.length_eq_one_iff.1 hl
     simp at hs
     exact .un ho (ih a (by omega) _ (eToks_back h).1)
    ·rw [show eParts o = 2 from if_neg ho] at hl
     match ks, hl with
     | [a, b], _ =>
      simp at hs
      have hb := eToks_back h
      exact .bin (by omega) (by omega) (ih a (by omega) _ hb.1) (ih b (by omega) _ (eToks_back hb.2).1)
theorem may_iff (e : Ex) : eMay e = true ↔ ExWf e ∧ cst e ≤ 64 := by
 constructor
 ·intro h
  unfold eMay at h
  rw [Bool.and_eq_true, decide_eq_true_eq, decide_eq_true_eq] at h
  have hw := wf_of_tok (SizeOf.sizeOf e + 1) e (by omega) 64 (by omega)
  refine ⟨hw, ?_⟩
  by_cases hc : cst e ≤ 64
  ·exact hc
  ·exfalso
   have key : ∀ {e : Ex}, ExWf e → ∀ most : Int, most < cst e → eTok e most < 0 ∨ (cst e = 1 ∧ eTok e most = 1) := by
    intro e he
    induction he with
    | num h0 =>
     intro most _
     right
     refine ⟨by rw [cst], ?_⟩
     rw [eTok, if_pos (.inl rfl), if_neg (by
      rintro (h' | ⟨_, h' | h'⟩ | ⟨h', _⟩)
      ·simp at h'
      ·omega
      ·exact h' rfl
      ·omega)]
    | name h0 =>
     intro most _
     right
     refine ⟨by rw [cst], ?_⟩
     rw [eTok, if_pos (.inr rfl), if_neg (by
      rintro (h' | ⟨h', _⟩ | ⟨_, h' | h'⟩)
      ·simp at h'
      ·omega
      ·exact h' rfl
      ·rw [h0] at h'; cases h')]
    | @un op a ho ha ih =>
     intro most hm
     left
     rw [cst_one] at hm
     push_cast at hm
     by_cases h1 : 1 ≤ most
     ·rw [eTok_un ho h1]
      simp only [eToks]
      rw [← wr_int]
      by_cases hc2 : (cst a : Int) ≤ most - 1
      ·rw [eTok_cst ha _ hc2, if_neg (by omega), if_pos (by omega)]
       decide
      ·rcases ih (most - 1) (by omega) with h2 | ⟨h2, h3⟩
       ·rw [if_pos h2]; decide
       ·rw [h3, if_neg (by decide), if_pos (by omega)]; decide
     ·have hp : eParts op = 1 := if_pos ho
      unfold node1
      rw [eTok, if_neg (by omega), if_pos (by omega)]
      decide
    | @bin op a b h4 h16 ha hb iha ihb =>
     intro most hm
     left
     rw [cst_two] at hm
     push_cast at hm
     by_cases h1 : 1 ≤ most
     ·rw [eTok_bin h4 h16 h1]
      simp only [eToks]
      rw [← wr_int, ← wr_int, show (0 : Int) + 1 = 1 by rfl]
      by_cases hc2 : (cst a : Int) ≤ most - 1
      ·rw [eTok_cst ha _ hc2, if_neg (by omega)]
       by_cases hc3 : most < 1 + (cst a : Int) + (wr (eWrapped op a.op 0) : Nat)
       ·rw [if_pos hc3]; decide
       ·rw [if_neg hc3]
        by_cases hc4 : (cst b : Int) ≤ most - (1 + (cst a : Int) + (wr (eWrapped op a.op 0) : Nat))
        ·rw [eTok_cst hb _ hc4, if_neg (by omega), if_pos (by omega)]
         decide
        ·rcases ihb (most - (1 + (cst a : Int) + (wr (eWrapped op a.op 0) : Nat))) (by omega) with h2 | ⟨h2, h3⟩
         ·rw [if_pos h2]; decide
         ·rw [h3, if_neg (by decide), if_pos (by omega)]; decide
      ·rcases iha (most - 1) (by omega) with h2 | ⟨h2, h3⟩
       ·rw [if_pos h2]; decide
       ·rw [h3, if_neg (by decide), if_pos (by omega)]; decide
     ·have hp : eParts op = 2 := if_neg (by omega)
      unfold node2
      rw [eTok, if_neg (by omega), if_pos (by omega)]
      decide
   rcases key hw 64 (by omega) with h2 | ⟨h2, _⟩ <;> omega
 ·rintro ⟨hw, hc⟩
  unfold eMay
  have hp := cst_pos e
  rw [eTok_cst hw 64 (by omega), Bool.and_eq_true, decide_eq_true_eq, decide_eq_true_eq]
  omega
end Go.Proofs.YtgcfjkfipkfijaaGreatDoor
namespace Go.Proofs.YtgcfjkfipkfijaaGreatDoor
open Go Go.RowKit Go.Lib
theorem eToks_nil (op i n most : Int) : eToks op [] i n most = n := rfl
theorem eToks_cons {op i n most : Int} {k : Ex} {ks : List Ex} : eToks op (k :: ks) i n most =
  if eTok k (most - n) < 0 then -1
  else if most < n + eTok k (most - n) + (if eWrapped op k.op i then 2 else 0) then -1
  else eToks op ks (i + 1) (n + eTok k (most - n) + (if eWrapped op k.op i then 2 else 0)) most := by rw [eToks]
theorem drop_cons {α : Type} (l : List α) (j : Nat) (h : j < l.length) : l.drop j = l[j] :: l.drop (j + 1) := by simp
set_option maxHeartbeats 8000000 in
set_option maxRecDepth 100000 in
theorem tokens_node (N : Nat)
  (ih : ∀ (e : Ex) (A : Option Addr) (c : Nat) (most : Int) (w : World), SizeOf.sizeOf e < N → exK.Row [] w A e.kids → e.kids.length ≤ c → ExOk e → Tabs w → 0 ≤ most → most ≤ 1000 →
    Calls Tryz.prog 158 #[exV e A c, .int .i64 most] w fun r w' => r = .returned (.int .i64 (eTok e most)) ∧ Below w.heap.size w w')
  (o n : Int) (nm : ByteArray) (ks : List Ex) (A : Option Addr) (c : Nat) (most : Int) (w : World) (hN : SizeOf.sizeOf (Ex.mk o n nm ks) ≤ N) (hr : exK.Row [] w A ks) (hlc : ks.length ≤ c)
  (hk : ExOk (.mk o n nm ks)) (hT : Tabs w) (h0 : 0 ≤ most) (hm : most ≤ 1000) (hop : ¬ (o = 0 ∨ o = 1)) (hgood : ¬ (o < 0 ∨ 16 < o ∨ n ≠ 0 ∨ nm.size ≠ 0 ∨ ks.length ≠ eParts o ∨ most < 1)) :
  Calls Tryz.prog 158 #[.agg #[.int .i64 o, .int .i64 n, .string nm, .slice A ks.length c], .int .i64 most] w fun r w' => r = .returned (.int .i64 (eToks o ks 0 1 most)) ∧ Below w.heap.size w w' := by
 have hok : ∀ (j : Nat) (hj : j < ks.length), ExOk ks[j] := fun j hj => hk.kid j hj
 have hsz : ∀ (j : Nat) (hj : j < ks.length), SizeOf.sizeOf ks[j] < N := fun j hj => Nat.lt_of_lt_of_le (sizeOf_kid (e := .mk o n nm ks) j hj) hN
 obtain ⟨P, hP⟩ : ∃ P : Int, (eParts o : Int) = P := ⟨_, rfl⟩
 have hlen : (ks.length : Int) = P := by rw [← hP]; omega
 have hp1 : 1 ≤ ks.length := by
  have : eParts o = 1 ∨ eParts o = 2 := by unfold eParts; split <;> simp
  omega
 have b0 : (o == 0) = false := beqf (fun e => hop (.inl e))
 have b1 : (o == 1) = false := beqf (fun e => hop (.inr e))
 have hc : ((o == 2) = true ∧ P = 1) ∨ ((o == 2) = false ∧ (o == 3) = true ∧ P = 1) ∨ ((o == 2) = false ∧ (o == 3) = false ∧ P = 2) := by
  unfold eParts at hP
  by_cases h2 : o = 2
  ·exact .inl ⟨beq_iff_eq.2 h2, by rw [if_pos (.inl h2)] at hP; omega⟩
  ·by_cases h3 : o = 3
   ·exact .inr (.inl ⟨beqf h2, beq_iff_eq.2 h3, by rw [if_pos (.inr h3)] at hP; omega⟩)
   ·exact .inr (.inr ⟨beqf h2, beqf h3, by rw [if_neg (by omega)] at hP; omega⟩)
 have g1 : 0 ≤ o := by omega
 have g2 : o ≤ 16 := by omega
 obtain rfl : n = 0 := by omega
 have g4 : nm.toList.isEmpty = true := isEmpty_of' (by omega)
 have g5 : ((ks.length : Int) != P) = false := bnef hlen
 have g6 : 1 ≤ most := by omega
 have HOK := Lib.hid hok
 have HSZ := Lib.hid hsz
 have HIH := Lib.hid ih
 have HT := Lib.hid hT
 obtain ⟨ad, rfl⟩ : ∃ ad, A = some ad := by
  obtain ⟨ad, e, _⟩ := hr.2 hp1
  exact ⟨ad, e⟩
 have HW : Hid (∀ (W : World) (i : Nat), exK.Row [] W (some ad) ks → (h : i < ks.length) → Calls Tryz.prog 168 #[.agg #[.int .i64 o, .int .i64 0, .string nm, .slice (some ad) ks.length c], .int .i64 i] W fun r w' => r = .returned (.bool (eWrapped o ks[i].op i)) ∧ Below W.heap.size W w') :=
  fun W i hr h => wrapped_nat (.mk o 0 nm ks) (some ad) c i W hr h hlc
 have HROW := Lib.hid hr
 obtain ⟨ANS, hANS⟩ : ∃ ANS, eToks o ks 0 1 most = ANS := ⟨_, rfl⟩
 rw [hANS]
 have HANS := Lib.hid hANS
 have hlcz : (ks.length : Int) ≤ c := by omega
 have hlen2 : (ks.length : Int) ≤ 2 := by omega
 clear hok hsz ih hT hP hlen hr hANS hN hk hgood hop h0
 rcases hc with ⟨b2, rfl⟩ | ⟨b2, b3, rfl⟩ | ⟨b2, b3, rfl⟩
 all_goals
  go_enter Tryz.func158, Tryz.ntmps158
  go_wp2_with fail
  go_loopg [6, 7, 8, 9, 85] (ks.length + 1) (fun k s6 _ _ _ s85 w' => ∃ (j : Nat) (n' : Int), s85 = .int .i64 j ∧ j ≤ ks.length ∧ ks.length - j < k ∧ s6 = .int .i64 n' ∧ 1 ≤ n' ∧ n' ≤ most ∧
   w'.heap[w.heap.size]? = some (.cells #[.int .i64 o, .int .i64 0, .string nm, .slice (some ad) ks.length c] 41 (0, 0)) ∧ Below w.heap.size w w' ∧ eToks o (ks.drop j) j n' most = ANS)
  case atStart => exact ⟨0, 1, rfl, by omega, by omega, rfl, by omega, by omega, heap_alloc_new _ _, (Below.refl _ _).alloc (Nat.le_refl _) _, HANS.out⟩
  case round =>
   obtain ⟨j, n', rfl, hj, hjk, rfl, hn1, hn2, hbx, hbl, hans⟩ := hrel
   obtain ⟨gk, rfl⟩ : ∃ k, gk = k + 1 := ⟨gk - 1, by omega⟩
   have HBX := Lib.hid hbx
   have HBL := Lib.hid hbl
   have HA := Lib.hid hans
   clear hans
   by_cases hlt : j < ks.length
   ·have hltz : (j : Int) < ks.length := by omega
    have hrow : exK.Row [] wr (some ad) ks := HROW.out.keep (Same.of_below hbl)
    obtain ⟨A', c', x0, x1, x2, x3, hlc', hrow', _⟩ := ex_some hrow j hlt
    have HROWR := Lib.hid hrow
    have HROWK := Lib.hid hrow'
    obtain ⟨t, ht⟩ : ∃ t, eTok ks[j] (most - n') = t := ⟨_, rfl⟩
    have ht1 := eTok_le ks[j] (most - n')
    have ht2 := eTok_ge ks[j] (most - n')
    have HKID : Hid (∀ W, exK.Row [] W A' ks[j].kids → Tabs W → Calls Tryz.prog 158 #[.agg #[.int .i64 ks[j].op, .int .i64 ks[j].n, .string ks[j].name, .slice A' ks[j].kids.length c'], .int .i64 (most - n')] W fun r w' => r = .returned (.int .i64 t) ∧ Below W.heap.size W w') := fun W hW hTW => by
     rw [← ht]; exact HIH.out ks[j] A' c' (most - n') W (HSZ.out j hlt) hW hlc' (HOK.out j hlt) hTW (by omega) (by omega)
    obtain ⟨b, hb⟩ : ∃ b, eWrapped o ks[j].op j = b := ⟨_, rfl⟩
    have HWR := Lib.hid (fun W h => HW.out W j h hlt)
    have h := HA.out
    rw [drop_cons ks j hlt, eToks_cons, ht] at h
    rw [ht] at ht1 ht2
    rw [hb] at h HWR
    have HE := Lib.hid h
    have hadlt := World.block_lt_of_cell? wr _ x0
    have hkl := blk_lt hbx
    clear h ht hb hrow hrow' hbx hbl
    by_cases htn : t < 0
    ·go_wp2_with (go_at_call 158; refine (HKID.out _ (HROWK.out.keep ((Same.refl [] wr).alloc _)) ((HT.out.below HBL.out).alloc _)).mono ?_; rintro e w2 ⟨rfl, hb2⟩)
     go_ret
     refine ⟨ret_int ?_, (HBL.out.alloc HBL.out.size _).trans (hb2.mono (by simp; omega))⟩
     have h := HE.out
     rw [if_pos htn] at h
     exact h
    ·have htn' : 0 ≤ t := by omega
     go_wp2_with fail
     refine (HKID.out _ (HROWK.out.keep ((Same.refl [] wr).alloc _)) ((HT.out.below HBL.out).alloc _)).mono ?_
     rintro e w2 ⟨rfl, hb2⟩
     have hbx2 := (hb2.block _ (by simp; omega)).trans ((((Below.refl wr.heap.size wr).alloc (Nat.le_refl _) _).block _ hkl).trans HBX.out)
     have hbl2 := (HBL.out.alloc HBL.out.size _).trans (hb2.mono (by simp; omega))
     have HROW2 := Lib.hid ((HROWR.out.keep ((Same.refl [] wr).alloc _)).keep (Same.of_below hb2))
     have HBX2 := Lib.hid hbx2
     have HBL2 := Lib.hid hbl2
     have q0 := (blk_cell hbx2 0).trans rfl
     have q1 := (blk_cell hbx2 1).trans rfl
     have q2 := (blk_cell hbx2 2).trans rfl
     have q3 := (blk_cell hbx2 3).trans rfl
     clear hb2 hbx2 hbl2
     go_wp2_with fail
     refine (HWR.out _ HROW2.out).mono ?_
     rintro e w3 ⟨rfl, hb3⟩
     have HBX3 := Lib.hid ((hb3.block _ (blk_lt HBX2.out)).trans HBX2.out)
     have HBL3 := Lib.hid (HBL2.out.trans (hb3.mono HBL2.out.size))
     have h := HE.out
     rw [if_neg (by omega)] at h
     have HE2 := Lib.hid h
     clear h q0 q1 q2 q3 hb3 HE
     cases b
     ·have h := HE2.out
      simp only [Bool.false_eq_true, if_false, Int.add_zero] at h
      have HE3 := Lib.hid h
      clear h
      by_cases hgt : most < n' + t
      ·go_wp2_with fail
       go_ret
       refine ⟨ret_int ?_, HBL3.out⟩
       have h := HE3.out
       rw [if_pos hgt] at h
       exact h
      ·have hgt' : n' + t ≤ most := by omega
       have h := HE3.out
       rw [if_neg hgt] at h
       have HE4 := Lib.hid h
       clear h hgt
       go_wp2_with fail
       go_roundg gk
       case measure => omega
       case rel => exact ⟨j + 1, n' + t, by go_num, by omega, by omega, rfl, by omega, by omega, HBX3.out, HBL3.out, HE4.out⟩
     ·have h := HE2.out
      simp only [if_true] at h
      have HE3 := Lib.hid h
      clear h
      by_cases hgt : most < n' + t + 2
      ·go_wp2_with fail
       go_ret
       refine ⟨ret_int ?_, HBL3.out⟩
       have h := HE3.out
       rw [if_pos hgt] at h
       exact h
      ·have hgt' : n' + t + 2 ≤ most := by omega
       have h := HE3.out
       rw [if_neg hgt] at h
       have HE4 := Lib.hid h
       clear h hgt
       go_wp2_with fail
       go_roundg gk
       case measure => omega
       case rel => exact ⟨j + 1, n' + t + 2, by go_num, by omega, by omega, rfl, by omega, by omega, HBX3.out, HBL3.out, HE4.out⟩
   ·have hge : (ks.length : Int) ≤ j := by omega
    clear hbx hbl
    go_wp2_with fail
    go_ret
    refine ⟨ret_int ?_, HBL.out⟩
    have h := HA.out
    rw [List.drop_of_length_le (by omega), eToks_nil] at h
    exact h
theorem tokens_any (N : Nat) : ∀ (e : Ex) (A : Option Addr) (c : Nat) (most : Int) (w : World), SizeOf.sizeOf e < N → exK.Row [] w A e.kids → e.kids.length ≤ c → ExOk e → Tabs w → 0 ≤ most → most ≤ 1000 →
   Calls Tryz.prog 158 #[exV e A c, .int .i64 most] w fun r w' => r = .returned (.int .i64 (eTok e most)) ∧ Below w.heap.size w w' := by
 induction N with
 | zero => intro e A c most w h; omega
 | succ N ih =>
  intro e A c most w hN hr hlc hk hT h0 hm
  by_cases hop : e.op = 0 ∨ e.op = 1
  ·exact tokens_leaf e A c most w hop hk hT
  ·by_cases hb : e.op < 0 ∨ 16 < e.op ∨ e.n ≠ 0 ∨ e.name.size ≠ 0 ∨ e.kids.length ≠ eParts e.op ∨ most < 1
   ·rw [eTok_bad hop hb]
    exact tokens_bad e.op e.n e.name e.kids A c most w hop hb
   ·rw [eTok_node hop hb]
    obtain ⟨o, n, nm, ks⟩ := e
    exact tokens_node N ih o n nm ks A c most w (by omega) hr hlc hk hT h0 hm hop hb
set_option maxHeartbeats 1000000 in
theorem may_any (e : Ex) (A : Option Addr) (c : Nat) (w : World) (hr : exK.Row [] w A e.kids) (hlc : e.kids.length ≤ c) (hk : ExOk e) (hT : Tabs w) :
  Calls Tryz.prog 140 #[exV e A c] w fun r w' => r = .returned (.bool (eMay e)) ∧ Below w.heap.size w w' := by
 have HC := Lib.hid (fun W (h : exK.Row [] W A e.kids) (hT : Tabs W) => tokens_any (SizeOf.sizeOf e + 1) e A c 64 W (by omega) h hlc hk hT (by omega) (by omega))
 have HX : Hid (eMay e = (decide (0 < eTok e 64) && decide (eTok e 64 ≤ 64))) := rfl
 obtain ⟨t, ht⟩ : ∃ t, eTok e 64 = t := ⟨_, rfl⟩
 rw [ht] at HC HX
 clear ht
 have HR := Lib.hid (hr.keep ((Same.refl [] w).alloc (.cells #[.int .i64 e.op, .int .i64 e.n, .string e.name, .slice A e.kids.length c] 41)))
 have HT := Lib.hid hT
 clear hr hT
 go_enter Tryz.func140, Tryz.ntmps140
 go_wp2_with (go_at_call 158; refine (HC.out _ HR.out (HT.out.alloc _)).mono ?_; rintro r w2 ⟨rfl, hb2⟩)
 all_goals
  go_ret
  refine ⟨ret_bool ?_, ((Below.refl _ _).alloc (Nat.le_refl _) _).trans (hb2.mono (by simp))⟩
  rw [HX.out]
  first
  | (simp [*]; done)
  | (simp [*]; omega)
end Go.Proofs.YtgcfjkfipkfijaaGreatDoor
namespace Go.Proofs.YtgcfjkfipkfijaaGreatDoor
open Go Go.RowKit Go.Lib
inductive ExSh : Ex → Prop where
 | leaf {op n : Int} {nm : ByteArray} {ks : List Ex} (h : op = 0 ∨ op = 1) (h2 : ks = []) : ExSh (.mk op n nm ks)
 | node {op n : Int} {nm : ByteArray} {ks : List Ex} (h1 : 2 ≤ op) (h2 : op ≤ 16) (h3 : ks.length = eParts op) (h4 : ∀ k, k ∈ ks → ExSh k) : ExSh (.mk op n nm ks)
theorem sh_of_toks (N : Nat) : (∀ e : Ex, SizeOf.sizeOf e < N → ∀ most, 0 ≤ eTok e most → ExSh e) ∧ (∀ ks : List Ex, SizeOf.sizeOf ks < N → ∀ op i n most, 0 ≤ eToks op ks i n most → ∀ k, k ∈ ks → ExSh k) := by
 induction N with
 | zero => exact ⟨fun _ h => absurd h (by omega), fun _ h => absurd h (by omega)⟩
 | succ N ih =>
  refine ⟨fun e he most h => ?_, fun ks hk op i n most h k hm => ?_⟩
  ·obtain ⟨o, n, nm, ks⟩ := e
   by_cases h0 : o = 0 ∨ o = 1
   ·by_cases h1 : 0 < ks.length ∨ o = 0 ∧ (n < 0 ∨ nm.size ≠ 0) ∨ o = 1 ∧ (n ≠ 0 ∨ nameB nm = false)
    ·rw [eTok, if_pos h0, if_pos h1] at h
     omega
    ·exact .leaf h0 (List.eq_nil_of_length_eq_zero (by omega))
   ·by_cases h1 : o < 0 ∨ 16 < o ∨ n ≠ 0 ∨ nm.size ≠ 0 ∨ ks.length ≠ eParts o ∨ most < 1
    ·rw [eTok, if_neg h0, if_pos h1] at h
     omega
    ·rw [eTok, if_neg h0, if_neg h1] at h
     refine .node (by omega) (by omega) (by omega) (ih.2 ks ?_ o 0 1 most h)
     simp at he
     omega
  ·cases ks with
   | nil => simp at hm
   | cons x xs =>
    simp at hk
    rw [eToks_cons] at h
    by_cases h1 : eTok x (most - n) < 0
    ·rw [if_pos h1] at h; omega
    ·rw [if_neg h1] at h
     generalize (if eWrapped op x.op i = true then (2 : Int) else 0) = z at h
     split at h
     ·omega
     ·rcases List.mem_cons.1 hm with rfl | hm
      ·exact ih.1 _ (by omega) (most - n) (by omega)
      ·exact ih.2 xs (by omega) _ _ _ _ h k hm
theorem sh_of_may {e : Ex} (h : eMay e = true) : ExSh e := by
 unfold eMay at h
 rw [Bool.and_eq_true, decide_eq_true_eq] at h
 exact (sh_of_toks (SizeOf.sizeOf e + 1)).1 e (by omega) 64 (by omega)
end Go.Proofs.YtgcfjkfipkfijaaGreatDoor
namespace Go.Proofs.YtgcfjkfipkfijaaGreatDoor
open Go Go.RowKit Go.Lib
def brk (b : Bool) (l : List UInt8) : List UInt8 := if b then [40] ++ l ++ [41] else l
def eText : Ex → List UInt8
 | .mk op n nm ks =>
  if op = 0 then Lib.itoa n
  else if op = 1 then nm.data.toList
  else match ks with
   | [] => []
   | [a] => (eSign op).data.toList ++ brk (eWrapped op a.op 0) (eText a)
   | a :: b :: _ => brk (eWrapped op a.op 0) (eText a) ++ [32] ++ (eSign op).data.toList ++ [32] ++ brk (eWrapped op b.op 1) (eText b)
def ePrint (e : Ex) : List UInt8 := if eMay e then eText e else []
def str (l : List UInt8) : ByteArray := ⟨l.toArray⟩
theorem str_app (a b : List UInt8) : str a ++ str b = str (a ++ b) := by
 apply ByteArray.ext
 simp [str]
theorem str_size (l : List UInt8) : (str l).size = l.length := by
 rw [← size_data]
 simp [str]
theorem str_data (s : ByteArray) : str s.data.toList = s := by
 apply ByteArray.ext
 simp [str]
theorem data_str (l : List UInt8) : (str l).data.toList = l := by simp [str]
theorem brk_len (b : Bool) (l : List UInt8) : (brk b l).length = l.length + (if b then 2 else 0) := by
 unfold brk
 split <;> simp_all
theorem ite_len {p : Prop} [Decidable p] {a b : List UInt8} {n : Nat} (h1 : a.length ≤ n) (h2 : b.length ≤ n) : (if p then a else b).length ≤ n := by split <;> assumption
theorem sign_len (op : Int) : (eSign op).data.toList.length ≤ 2 := by
 have h : ∀ l : List UInt8, (bytes l).data.toList = l := fun l => by simp [bytes]
 unfold eSign
 rw [h]
 repeat' (refine ite_len ?_ ?_)
 all_goals decide
def partsLen (op : Int) : List Ex → Int → Nat
 | [], _ => 0
 | k :: ks, i => (brk (eWrapped op k.op i) (eText k)).length + partsLen op ks (i + 1)
theorem text_len (N : Nat) : (∀ e : Ex, SizeOf.sizeOf e < N → ExOk e → ∀ m, 0 ≤ eTok e m → ((eText e).length : Int) ≤ 281474976710656 * eTok e m) ∧
  (∀ ks : List Ex, SizeOf.sizeOf ks < N → (∀ k, k ∈ ks → ExOk k) → ∀ op i n m, 1 ≤ n → 0 ≤ eToks op ks i n m → (partsLen op ks i : Int) ≤ 281474976710656 * (eToks op ks i n m - n)) := by
 induction N with
 | zero => exact ⟨fun _ h => absurd h (by omega), fun _ h => absurd h (by omega)⟩
 | succ N ih =>
  refine ⟨fun e he hk m h => ?_, fun ks hs hk op i n m hn h => ?_⟩
  ·obtain ⟨o, n, nm, ks⟩ := e
   have hfn : Fits n := hk.n
   have hnm : nm.size ≤ 140737488355328 := hk.name
   simp at he
   by_cases h0 : o = 0 ∨ o = 1
   ·by_cases h1 : 0 < ks.length ∨ o = 0 ∧ (n < 0 ∨ nm.size ≠ 0) ∨ o = 1 ∧ (n ≠ 0 ∨ nameB nm = false)
    ·rw [eTok, if_pos h0, if_pos h1] at h
     omega
    ·rw [eTok, if_pos h0, if_neg h1, eText.eq_def]
     simp only
     rcases h0 with rfl | rfl
     ·rw [if_pos rfl]
      have := Lib.itoa_length_le n hfn.1 hfn.2
      omega
     ·rw [if_neg (by decide), if_pos rfl, size_data]
      omega
   ·by_cases h1 : o < 0 ∨ 16 < o ∨ n ≠ 0 ∨ nm.size ≠ 0 ∨ ks.length ≠ eParts o ∨ m < 1
    ·rw [eTok, if_neg h0, if_pos h1] at h
     omega
    ·rw [eTok, if_neg h0, if_neg h1] at h ⊢
     have h2 := ih.2 ks (by omega) hk.kids o 0 1 m (by omega) h
     have hsg := sign_len o
     rw [eText.eq_def]
     simp only
     rw [if_neg (by omega), if_neg (by omega)]
     have hge := eToks_ge ks o 0 1 m (by omega)
     match ks, h2, h1, h with
     | [], _, h1, _ =>
      have : eParts o = 1 ∨ eParts o = 2 := by unfold eParts; split <;> simp
      simp at h1
      omega
     | [a], h2, _, _ =>
      simp only [partsLen] at h2
      simp only [List.length_append]
      omega
     | a :: b :: r, h2, _, _ =>
      simp only [partsLen] at h2
      simp only [List.length_append, List.length_cons, List.length_nil]
      have hz : (0 : Int) + 1 = 1 := by omega
      rw [hz] at h2
      omega
  ·cases ks with
   | nil => simp [partsLen, eToks]
   | cons x xs =>
    simp at hs
    rw [eToks_cons] at h ⊢
    have hx : 0 ≤ (if eWrapped op x.op i = true then (2 : Int) else 0) := by split <;> omega
    by_cases h1 : eTok x (m - n) < 0
    ·rw [if_pos h1] at h; omega
    ·rw [if_neg h1] at h ⊢
     by_cases h3 : m < n + eTok x (m - n) + (if eWrapped op x.op i = true then 2 else 0)
     ·rw [if_pos h3] at h; omega
     ·rw [if_neg h3] at h ⊢
      have a1 := ih.1 x (by omega) (hk x (by simp)) (m - n) (by omega)
      have a2 := ih.2 xs (by omega) (fun k hk' => hk k (by simp [hk'])) op (i + 1) _ m (by omega) h
      simp only [partsLen, brk_len]
      have hw : ((if eWrapped op x.op i = true then 2 else 0 : Nat) : Int) = (if eWrapped op x.op i = true then 2 else 0) := by split <;> rfl
      push_cast
      rw [hw]
      generalize (if eWrapped op x.op i = true then (2 : Int) else 0) = z at *
      omega
theorem text_len_may {e : Ex} (hk : ExOk e) (h : eMay e = true) : (eText e).length ≤ 18014398509481984 := by
 unfold eMay at h
 rw [Bool.and_eq_true, decide_eq_true_eq, decide_eq_true_eq] at h
 have := (text_len (SizeOf.sizeOf e + 1)).1 e (by omega) hk 64 (by omega)
 omega
end Go.Proofs.YtgcfjkfipkfijaaGreatDoor
namespace Go.Proofs.YtgcfjkfipkfijaaGreatDoor
open Go Go.RowKit Go.Lib
theorem sz_data (s : ByteArray) : s.data.toList.length = s.size := by simp
def Vd (w : List UInt8) : Prop := ∀ x, x ∈ runes w → x ≠ (65533, 1)
theorem badF_ok : ∀ (rs : List (Nat × Nat)) (k : Int), (∀ x, x ∈ rs → x ≠ (65533, 1)) → badF k rs = -1
 | [], _, _ => rfl
 | r :: rs, k, h => by
  rw [badF, if_neg (h r (by simp))]
  exact badF_ok rs (k + 1) (fun x hx => h x (by simp [hx]))
theorem cls_three {r : Int} (h : cls r = 3) : 48 ≤ r ∧ r ≤ 57 := by
 unfold cls at h
 by_cases h1 : r = 32 ∨ r = 9 ∨ r = 13 ∨ r = 10
 ·rw [if_pos h1] at h; omega
 ·rw [if_neg h1] at h
  by_cases h2 : (97 ≤ r ∧ r ≤ 122) ∨ (65 ≤ r ∧ r ≤ 90) ∨ r = 95
  ·rw [if_pos h2] at h; omega
  ·rw [if_neg h2] at h
   by_cases h3 : 192 ≤ r ∧ r ≤ 591 ∧ r ≠ 215 ∧ r ≠ 247
   ·rw [if_pos h3] at h; omega
   ·rw [if_neg h3] at h
    by_cases h4 : 48 ≤ r ∧ r ≤ 57
    ·exact h4
    ·rw [if_neg h4] at h
     repeat' split at h
     all_goals omega
theorem decodeL_digit {l : List UInt8} (h : (decodeL l).1 < 128) : (decodeL l).1 = (l.getD 0 0).toNat := by
 rw [decodeL_N] at h ⊢
 rcases decodeN_shape l.length (l.getD 0 0).toNat (l.getD 1 0).toNat (l.getD 2 0).toNat (l.getD 3 0).toNat with ⟨c, e⟩ | ⟨c1, c2, c3, cv, e⟩ | ⟨c1, c2, c3, c4, cv, cs, e⟩ | ⟨c1, c2, c3, c4, c5, cv, cw, e⟩ | e
 ·rw [e]
 all_goals
  rw [e] at h
  simp only at h
  omega
theorem nameB_is {s : ByteArray} (h : nameB s = true) : Vd s.data.toList ∧ (∀ x, x ∈ runes s.data.toList → isW x.1 = true) ∧ s.data.toList ≠ [] ∧ ((s.data.toList.getD 0 0).toNat < 48 ∨ 57 < (s.data.toList.getD 0 0).toNat) ∧ (runes s.data.toList).length ≤ 12 := by
 unfold nameB wordyB wordyL at h
 simp only [Bool.and_eq_true, Bool.or_eq_true, decide_eq_true_eq] at h
 obtain ⟨⟨⟨h1, h2, h3⟩, h4⟩, h5⟩ := h
 rw [validD_runes, List.all_eq_true] at h1
 refine ⟨fun x hx e => ?_, List.all_eq_true.1 h2, fun e => h3 ?_, h4, h5⟩
 ·have := h1 x hx
  rw [e] at this
  simp at this
 ·rw [← sz_data, e]; rfl
theorem dec_len (u : Nat) (h : u ≤ 9223372036854775807) : (decDigits u).length ≤ 19 := by
 rw [decDigits_length]
 apply Nat.le_of_not_lt
 intro hlt
 have key : ∀ k v, k < nDigits v → 10 ^ k ≤ v ∨ k = 0 := by
  intro k
  induction k with
  | zero => intro v _; exact .inr rfl
  | succ k ih =>
   intro v hv
   by_cases h1 : v < 10
   ·rw [nDigits_small h1] at hv; omega
   ·rw [nDigits_big h1] at hv
    left
    rcases ih (v / 10) (by omega) with h2 | h2
    ·rw [Nat.pow_succ]; omega
    ·subst h2; simp; omega
 rcases key 19 u hlt with h2 | h2
 ·have : (10 : Nat) ^ 19 = 10000000000000000000 := by decide
  omega
 ·omega
end Go.Proofs.YtgcfjkfipkfijaaGreatDoor
namespace Go.Proofs.YtgcfjkfipkfijaaGreatDoor
open Go Go.RowKit Go.Lib
theorem gtext_one (op : Int) (a : Ex) (ho : op = 2 ∨ op = 3) : eText (node1 op a) = (eSign op).data.toList ++ brk (eWrapped op a.op 0) (eText a) := by
 unfold node1
 rw [eText.eq_def]
 simp only
 rw [if_neg (by omega), if_neg (by omega)]
theorem text_two' (op : Int) (a b : Ex) (h4 : 4 ≤ op) : eText (node2 op a b) = brk (eWrapped op a.op 0) (eText a) ++ [32] ++ (eSign op).data.toList ++ [32] ++ brk (eWrapped op b.op 1) (eText b) := by
 unfold node2
 rw [eText.eq_def]
 simp only
 rw [if_neg (by omega), if_neg (by omega)]
end Go.Proofs.YtgcfjkfipkfijaaGreatDoor
namespace Go.Proofs.YtgcfjkfipkfijaaGreatDoor
open Go Go.RowKit Go.Lib
theorem decodeL_four (l : List UInt8) : (decodeL l).2 ≤ 4 := by
 rw [decodeL_N]
 rcases decodeN_shape l.length (l.getD 0 0).toNat (l.getD 1 0).toNat (l.getD 2 0).toNat (l.getD 3 0).toNat with ⟨c, e⟩ | ⟨c1, c2, c3, cv, e⟩ | ⟨c1, c2, c3, c4, cv, cs, e⟩ | ⟨c1, c2, c3, c4, c5, cv, cw, e⟩ | e
 all_goals
  rw [e]
  simp only
  omega
theorem runes_four : ∀ (n : Nat) (w : List UInt8), w.length ≤ n → w.length ≤ 4 * (runes w).length := by
 intro n
 induction n with
 | zero => intro w h; omega
 | succ n ih =>
  intro w h
  by_cases hw : w = []
  ·subst hw; exact Nat.le_refl _
  ·have h0 : 0 < w.length := List.length_pos_iff.2 hw
   have h1 := decodeL_width w
   have h4 := decodeL_four w
   have := ih (w.drop (decodeL w).2) (by rw [List.length_drop]; omega)
   rw [runes_cons w hw, List.length_cons]
   rw [List.length_drop] at this
   omega
theorem name_len {s : ByteArray} (h : nameB s = true) : s.data.toList.length ≤ 48 := by
 have h1 := runes_four _ s.data.toList (Nat.le_refl _)
 have h2 := (nameB_is h).2.2.2.2
 omega
theorem text_short {e : Ex} (h : ExWf e) (hk : ExOk e) : (eText e).length + 3 ≤ 51 * cst e := by
 induction h with
 | @num n h0 =>
  rw [show eText (.mk 0 n ⟨#[]⟩ []) = itoa n by rw [eText.eq_def]; exact rfl, show itoa n = decDigits n.toNat by unfold itoa; rw [if_neg (by omega)]]
  have h1 : n ≤ 9223372036854775807 := hk.n.2
  have := dec_len n.toNat (by omega)
  rw [cst]
  omega
 | @name s h0 =>
  rw [show eText (.mk 1 0 s []) = s.data.toList by rw [eText.eq_def]; exact rfl]
  have := name_len h0
  rw [cst]
  omega
 | @un op a ho _ ih =>
  have ha := ih (hk.kids a (by simp [node1, Ex.kids]))
  have hs := sign_len op
  rw [gtext_one op a ho, cst_one, List.length_append, brk_len]
  unfold wr
  omega
 | @bin op a b h4 h16 _ _ iha ihb =>
  have ha := iha (hk.kids a (by simp [node2, Ex.kids]))
  have hb := ihb (hk.kids b (by simp [node2, Ex.kids]))
  have hs := sign_len op
  rw [text_two' op a b h4, cst_two]
  simp only [List.length_append, brk_len, List.length_cons, List.length_nil]
  unfold wr
  omega
theorem decodeN_take {n m b0 b1 b2 b3 c1 c2 c3 : Nat} (hw : (decodeN n b0 b1 b2 b3).2 ≤ m) (h1 : 1 < m → c1 = b1) (h2 : 2 < m → c2 = b2) (h3 : 3 < m → c3 = b3) (hv : decodeN n b0 b1 b2 b3 ≠ (65533, 1)) : decodeN m b0 c1 c2 c3 = decodeN n b0 b1 b2 b3 := by
 rcases decodeN_shape n b0 b1 b2 b3 with ⟨c, e⟩ | ⟨c1', c2', c3', cv, e⟩ | ⟨c1', c2', c3', c4', cv, cs, e⟩ | ⟨c1', c2', c3', c4', c5', cv, cw, e⟩ | e
 ·rw [e]; unfold decodeN; rw [if_pos c]
 ·rw [e] at hw
  simp only at hw
  obtain rfl := h1 (by omega)
  rw [e]; unfold decodeN; rw [if_neg (by omega), if_pos ⟨c1', by omega, c3'⟩, if_pos (by omega)]
 ·rw [e] at hw
  simp only at hw
  obtain rfl := h1 (by omega)
  obtain rfl := h2 (by omega)
  rw [e]; unfold decodeN; rw [if_neg (by omega), if_neg (by omega), if_pos ⟨c1', ⟨by omega, c3'⟩, by omega, c4'⟩, if_pos (by omega)]
 ·rw [e] at hw
  simp only at hw
  obtain rfl := h1 (by omega)
  obtain rfl := h2 (by omega)
  obtain rfl := h3 (by omega)
  rw [e]; unfold decodeN; rw [if_neg (by omega), if_neg (by omega), if_neg (by omega), if_pos ⟨c1', ⟨by omega, c3'⟩, ⟨by omega, c4'⟩, by omega, c5'⟩, if_pos (by omega)]
 ·exact absurd e hv
theorem getD_take {l : List UInt8} {m i : Nat} (h : i < m) : (l.take m).getD i 0 = l.getD i 0 := by
 simp [List.getD, List.getElem?_take_of_lt h]
theorem decodeL_take {l : List UInt8} {m : Nat} (hm : m ≤ l.length) (hw : (decodeL l).2 ≤ m) (hv : decodeL l ≠ (65533, 1)) : decodeL (l.take m) = decodeL l := by
 have h1 := decodeL_width l
 rw [decodeL_N] at hv hw
 rw [decodeL_N, decodeL_N, getD_take (by have := decodeL_width l; rw [decodeL_N] at this; omega), List.length_take, Nat.min_eq_left hm]
 exact decodeN_take hw (fun h => by rw [getD_take h]) (fun h => by rw [getD_take h]) (fun h => by rw [getD_take h]) hv
end Go.Proofs.YtgcfjkfipkfijaaGreatDoor
