/- Part 7 of the proof of ragain_card; no conditions. -/
import Derived.Test.YtgcfjkfipkfijaaGreatDoorAg01
import Derived.Test.YtgcfjkfipkfijaaGreatDoorAg02
import Derived.KernelRfl
import Derived.Lib.ItoaLen
set_option maxRecDepth 100000
set_option maxHeartbeats 8000000
namespace Go.Proofs.YtgcfjkfipkfijaaGreatDoor
open Go Go.RowKit Tryz
def nt (op : Int) (t : aZ) : Prop := t.kind = 4 ∧ dE (aT op) t.text = true
inductive fL : Nat → Ex → List aZ → Prop where
 | num {t : aZ} (h : t.kind = 2) : fL 6 (.mk 0 t.n ⟨#[]⟩ []) [t]
 | name {t : aZ} (h : t.kind = 1) : fL 6 (.mk 1 0 t.text []) [t]
 | un {op : Int} {t : aZ} {e : Ex} {ts : List aZ} (ho : op = 2 ∨ op = 3) (ht : nt op t) (h : fL 6 e ts) : fL 6 (dp op e) (t :: ts)
 | par {t u : aZ} {e : Ex} {ts : List aZ} (ht : ee t = true) (hu : eK u = true) (h : fL 1 e ts) : fL 6 e (t :: (ts ++ [u]))
 | up {n : Nat} {e : Ex} {ts : List aZ} (h1 : 1 ≤ n) (h5 : n ≤ 5) (h : fL (n + 1) e ts) : fL n e ts
 | bin {n : Nat} {op : Int} {t : aZ} {a b : Ex} {ts us : List aZ} (h4 : 4 ≤ op) (h16 : op ≤ 16) (hl : aH op = n) (h3 : n ≠ 3) (ht : nt op t) (ha : fL n a ts) (hb : fL (n + 1) b us) : fL n (cA op a b) (ts ++ t :: us)
 | cmp {op : Int} {t : aZ} {a b : Ex} {ts us : List aZ} (h9 : 9 ≤ op) (h14 : op ≤ 14) (ht : nt op t) (ha : fL 4 a ts) (hb : fL 4 b us) : fL 3 (cA op a b) (ts ++ t :: us)
def zV (l : List aZ) (first : Int) (un : St → Ex × St) : Nat → St → Ex × St
 | 1 => i' l first un
 | 2 => dM l first 15 15 (i7 l first (dM l first 4 5 (dM l first 6 8 un)))
 | 3 => i7 l first (dM l first 4 5 (dM l first 6 8 un))
 | 4 => dM l first 4 5 (dM l first 6 8 un)
 | 5 => dM l first 6 8 un
 | _ => un
def lo : Nat → Int
 | 1 => 16
 | 2 => 15
 | 3 => 9
 | 4 => 4
 | _ => 6
def hi : Nat → Int
 | 1 => 16
 | 2 => 15
 | 3 => 14
 | 4 => 5
 | _ => 8
theorem yM {l first un n} (h : n = 1 ∨ n = 2 ∨ n = 4 ∨ n = 5) : zV l first un n = dM l first (lo n) (hi n) (zV l first un (n + 1)) := by
 rcases h with rfl | rfl | rfl | rfl <;> rfl
theorem s_ {l first un} : zV l first un 3 = i7 l first (zV l first un 4) := rfl
theorem ta (op : Int) (n : Nat) (h4 : 4 ≤ op) (h16 : op ≤ 16) (hl : aH op = n) : lo n ≤ op ∧ op ≤ hi n ∧ 1 ≤ n ∧ n ≤ 5 := by
 have hop : op = 4 ∨ op = 5 ∨ op = 6 ∨ op = 7 ∨ op = 8 ∨ op = 9 ∨ op = 10 ∨ op = 11 ∨ op = 12 ∨ op = 13 ∨ op = 14 ∨ op = 15 ∨ op = 16 := by omega
 rcases hop with rfl | rfl | rfl | rfl | rfl | rfl | rfl | rfl | rfl | rfl | rfl | rfl | rfl
 all_goals
  obtain rfl : n = _ := Int.ofNat_inj.1 (hl.symm.trans (by rfl))
  decide
theorem iG (op n) (h1 : 1 ≤ n) (h5 : n ≤ 5) (hl : lo n ≤ op) (hh : op ≤ hi n) : 4 ≤ op ∧ op ≤ 16 ∧ aH op = n := by
 have hn : n = 1 ∨ n = 2 ∨ n = 3 ∨ n = 4 ∨ n = 5 := by omega
 rcases hn with rfl | rfl | rfl | rfl | rfl
 all_goals
  simp only [lo, hi] at hl hh
  unfold aH
  refine ⟨by omega, by omega, ?_⟩
  (repeat (first | rw [M_ (by omega)] | rw [K_ (by omega)]))
  try rfl
theorem wA (a b) (ha : 4 ≤ a) (ha' : a ≤ 16) (hb : 4 ≤ b) (hb' : b ≤ 16) (h : aT a = aT b) : a = b := by
 have h0 : ((List.range 13).all fun i => (List.range 13).all fun k => !dE (aT (4 + (i : Int))) (aT (4 + (k : Int))) || i == k) = true := by kernel_rfl
 have h1 := List.all_eq_true.1 (List.all_eq_true.1 h0 (a - 4).toNat (List.mem_range.2 (by omega))) (b - 4).toNat (List.mem_range.2 (by omega))
 rw [show 4 + ((a - 4).toNat : Int) = a by omega, show 4 + ((b - 4).toNat : Int) = b by omega, aQ.2 h] at h1
 simp at h1
 omega
theorem tc {a b t} (ha : 4 ≤ a) (ha' : a ≤ 16) (hb : 4 ≤ b) (hb' : b ≤ 16) (h : nt a t) (k : nt b t) : a = b :=
 wA a b ha ha' hb hb' ((aQ.1 h.2).trans (aQ.1 k.2).symm)
theorem jE {t bad} : ∀ (n : Nat) (a : Int), (∀ op, a ≤ op → op < a + n → ¬ nt op t) → ra t bad n a = none
 | 0, _, _ => rfl
 | n + 1, a, h => by
  rw [ra]
  split
  ·rename_i hk
   rw [K_ (fun hs => h a (l_ _) (by omega) ⟨hk.1, hs⟩)]
   exact jE n (a + 1) (fun op h1 h2 => h op (by omega) (by omega))
  ·rfl
theorem lP {t op} (hs : nt op t) : ∀ (n : Nat) (a : Int), a ≤ op → op < a + n → (∀ o, a ≤ o → o < op → ¬ nt o t) → ra t 0 n a = some op
 | 0, _, h1, h2, _ => by omega
 | n + 1, a, h1, h2, h => by
  rw [ra, M_ ⟨hs.1, rfl⟩]
  by_cases e : a = op
  ·subst e; rw [M_ hs.2]
  ·rw [K_ (fun hq => h a (l_ _) (by omega) ⟨hs.1, hq⟩)]
   exact lP hs n (a + 1) (by omega) (by omega) (fun o h1 h2 => h o (by omega) h2)
def fk (l : List aZ) (i : Int) (n : Nat) : Prop := ∀ op, 4 ≤ op → op ≤ 16 → (n : Int) ≤ aH op → ¬ nt op (ah l i)
theorem fk.mono {l i n m} (h : fk l i n) (hm : n ≤ m) : fk l i m := fun op h4 h16 hl => h op h4 h16 (by omega)
theorem pL {l i b n} (h1 : 1 ≤ n) (h5 : n ≤ 5) (h : fk l i n) : eJ l (lo n) (hi n) ⟨i, b⟩ = none := by
 unfold eJ
 refine jE _ _ (fun op h2 h3 => ?_)
 have := iG op n h1 h5 h2 (by omega)
 exact h op this.1 this.2.1 (by omega)
theorem pM {l i op n} (h1 : 1 ≤ n) (h5 : n ≤ 5) (ho : lo n ≤ op) (ho' : op ≤ hi n) (h : nt op (ah l i)) : eJ l (lo n) (hi n) ⟨i, 0⟩ = some op := by
 unfold eJ
 have hb := iG op n h1 h5 ho ho'
 refine lP h _ _ ho (by omega) (fun o h2 h3 hs => ?_)
 have hb' := iG o n h1 h5 h2 (by omega)
 have := tc hb'.1 hb'.2.1 hb.1 hb.2.1 hs h
 omega
theorem td {l a b s} (h : s.bad ≠ 0) : eJ l a b s = none := by
 unfold eJ
 generalize (b - a + 1).toNat = n
 cases n with
 | zero => rfl
 | succ n => rw [ra, K_ (fun h' => h h'.2)]
def gP (l : List aZ) (at_ : Int) (ts : List aZ) : Prop := ∀ j (h : j < ts.length), ah l (at_ + j) = ts[j]
theorem gP.left {l i ts us} (h : gP l i (ts ++ us)) : gP l i ts := fun j hj => by
 rw [h j (by rw [O_]; omega), List.getElem_append_left hj]
theorem gP.right {l i ts us} (h : gP l i (ts ++ us)) : gP l (i + ts.length) us := fun j hj => by
 have := h (ts.length + j) (by rw [O_]; omega)
 rw [List.getElem_append_right (by omega)] at this
 simp only [Nat.add_sub_cancel_left] at this
 rw [← this]
 congr 1
 push_cast
 omega
theorem gP.head {l i t ts} (h : gP l i (t :: ts)) : ah l i = t := by
 have := h 0 (by simp)
 simpa using this
theorem gP.tail {l i t ts} (h : gP l i (t :: ts)) : gP l (i + 1) ts := fun j hj => by
 have := h (j + 1) (by simpa using hj)
 simp only [List.getElem_cons_succ] at this
 rw [← this]
 congr 1
 push_cast
 omega
theorem dk {first s} (h : s.at_ - first < 64) : ay first s = (true, ⟨s.at_ + 1, s.bad⟩) := by
 unfold ay; rw [K_ (by omega)]
theorem jF {first s} (h : 64 ≤ s.at_ - first) : ay first s = (false, cz 2 s) := by
 unfold ay; rw [M_ h]
theorem ku {l first a b below k e s} (h : eJ l a b s = none) : fb l first a b below k e s = (e, s) := by
 cases k with
 | zero => rfl
 | succ k => rw [fb, h]
theorem nu {l first a b op below k e s} (h : eJ l a b s = some op) (hp : s.at_ - first < 64) :
  fb l first a b below (k + 1) e s = fb l first a b below k (cA op e (below ⟨s.at_ + 1, s.bad⟩).1) (below ⟨s.at_ + 1, s.bad⟩).2 := by
 rw [fb, h]
 simp only
 rw [dk hp, K_ (by simp)]
theorem uo {l first a b op below k e s} (h : eJ l a b s = some op) (hp : 64 ≤ s.at_ - first) :
  fb l first a b below (k + 1) e s = (e, cz 2 s) := by
 rw [fb, h]
 simp only
 rw [jF hp, M_ rfl]
theorem gP.app {l i ts us} (h : gP l i ts) (k : gP l (i + ts.length) us) : gP l i (ts ++ us) := fun j hj => by
 rw [O_] at hj
 by_cases hl : j < ts.length
 ·rw [List.getElem_append_left hl]; exact h j hl
 ·rw [List.getElem_append_right (by omega), ← k (j - ts.length) (by omega)]
  congr 1
  omega
theorem gP.one (l i) : gP l i [ah l i] := fun j hj => by
 obtain rfl : j = 0 := by simpa using hj
 simp
theorem gP.cons {l i us} (k : gP l (i + 1) us) : gP l i (ah l i :: us) := (gP.one l i).app (us := us) (by simpa using k)
def zH (l : List aZ) (first : Int) (f n : Nat) (e : Ex) (ts : List aZ) : Prop := ∀ i, first ≤ i → gP l i ts → i - first + ts.length ≤ 64 → fk l (i + ts.length) n →
 zV l first (ll l first f) n ⟨i, 0⟩ = (e, ⟨i + ts.length, 0⟩)
def jG (l : List aZ) (first : Int) (f n : Nat) (e : Ex) (ts : List aZ) : Prop := ∀ i, first ≤ i → gP l i ts → i - first + ts.length ≤ 64 → fk l (i + ts.length) (n + 1) →
 ∃ k, 66 ≤ k + ts.length ∧ zV l first (ll l first f) n ⟨i, 0⟩ = fb l first (lo n) (hi n) (zV l first (ll l first f) (n + 1)) k e ⟨i + ts.length, 0⟩
theorem jH {l first f n e ts} (h1 : 1 ≤ n) (h5 : n ≤ 5) (h : jG l first f n e ts) : zH l first f n e ts := fun i hfi hs hb hn => by
 obtain ⟨k, _, he⟩ := h i hfi hs hb (hn.mono (by omega))
 rw [he, ku (pL h1 h5 hn)]
theorem wC (op) (h4 : 4 ≤ op) (h16 : op ≤ 16) : aH op ≤ 5 := by
 have hop : op = 4 ∨ op = 5 ∨ op = 6 ∨ op = 7 ∨ op = 8 ∨ op = 9 ∨ op = 10 ∨ op = 11 ∨ op = 12 ∨ op = 13 ∨ op = 14 ∨ op = 15 ∨ op = 16 := by omega
 rcases hop with rfl | rfl | rfl | rfl | rfl | rfl | rfl | rfl | rfl | rfl | rfl | rfl | rfl <;> decide
theorem rv (l i) : fk l i 6 := fun op h4 h16 hl => by
 have := wC op h4 h16
 omega
theorem lQ {l : List aZ} {i op : Int} {n : Nat} (h4 : 4 ≤ op) (h16 : op ≤ 16) (hl : aH op = n) (h : nt op (ah l i)) : fk l i (n + 1) := fun o k4 k16 kl ks => by
 have := tc k4 k16 h4 h16 ks h
 subst this
 omega
theorem pN {l i n} (h : eK (ah l i) = true) : fk l i n := fun op h4 h16 _ hs => by
 unfold eK at h
 rw [a_] at h
 have h1 := (aQ.1 hs.2).trans (aQ.1 h.2)
 have h0 : ((List.range 13).all fun k => !dE (aT (4 + (k : Int))) ⟨#[41]⟩) = true := by kernel_rfl
 have h2 := List.all_eq_true.1 h0 (op - 4).toNat (List.mem_range.2 (by omega))
 rw [show 4 + ((op - 4).toNat : Int) = op by omega, aQ.2 h1] at h2
 simp at h2
theorem tf {l a b s} (h : (ah l s.at_).kind ≠ 4) : eJ l a b s = none := by
 unfold eJ
 exact jE _ _ (fun _ _ _ hs => h hs.1)
theorem zW {l i op} (ho : op = 2 ∨ op = 3) (h : nt op (ah l i)) : eJ l 2 3 ⟨i, 0⟩ = some op := by
 unfold eJ
 refine lP h _ _ (by omega) (by omega) (fun o h2 h3 hs => ?_)
 obtain ⟨rfl, rfl⟩ : o = 2 ∧ op = 3 := by omega
 have := (aQ.1 hs.2).trans (aQ.1 h.2).symm
 exact absurd (aQ.2 this) (by decide)
theorem wD {l i b} (h : ee (ah l i) = true) : eJ l 2 3 ⟨i, b⟩ = none := by
 unfold eJ
 unfold ee at h
 rw [a_] at h
 refine jE _ _ (fun op h2 h3 hs => ?_)
 have h1 := (aQ.1 hs.2).trans (aQ.1 h.2)
 have : op = 2 ∨ op = 3 := by
  have : ((3 - 2 + 1 : Int).toNat : Int) = 2 := by decide
  omega
 rcases this with rfl | rfl <;> exact absurd (aQ.2 h1) (by decide)
theorem tg {l first i un orr} (hk : (ah l i).kind = 2) (hb : i - first < 64) : mS l first un orr ⟨i, 0⟩ = (.mk 0 (ah l i).n ⟨#[]⟩ [], ⟨i + 1, 0⟩) := by
 unfold mS
 rw [tf (by show (ah l i).kind ≠ 4; omega)]
 simp only
 rw [K_ (by simp [hk]), dk hb, K_ (by simp), M_ hk]
theorem pO {l first i un orr} (hk : (ah l i).kind = 1) (hb : i - first < 64) : mS l first un orr ⟨i, 0⟩ = (.mk 1 0 (ah l i).text [], ⟨i + 1, 0⟩) := by
 unfold mS
 rw [tf (by show (ah l i).kind ≠ 4; omega)]
 simp only
 rw [K_ (by simp [hk]), dk hb, K_ (by simp), K_ (by omega), M_ hk]
theorem wE {l first i op un orr} (ho : op = 2 ∨ op = 3) (h : nt op (ah l i)) (hb : i - first < 64) : mS l first un orr ⟨i, 0⟩ = (dp op (un ⟨i + 1, 0⟩).1, (un ⟨i + 1, 0⟩).2) := by
 unfold mS
 rw [zW ho h]
 simp only
 rw [dk hb, K_ (by simp)]
theorem nv {t} (h : ee t = true) : t.kind = 4 := by
 unfold ee at h
 rw [a_, beq_iff_eq] at h
 exact h.1
theorem pP {l first i un orr} (h : ee (ah l i) = true) (hb : i - first < 64) : mS l first un orr ⟨i, 0⟩ =
  (if (orr ⟨i + 1, 0⟩).2.bad = 0 ∧ eK (ah l (orr ⟨i + 1, 0⟩).2.at_) = false then (dP, cz 11 (orr ⟨i + 1, 0⟩).2)
    else if (orr ⟨i + 1, 0⟩).2.bad = 0 then ((orr ⟨i + 1, 0⟩).1, (ay first (orr ⟨i + 1, 0⟩).2).2) else orr ⟨i + 1, 0⟩) := by
 have hk := nv h
 unfold mS
 rw [wD h]
 simp only
 rw [K_ (by simp [h]), dk hb, K_ (by simp), K_ (by omega), K_ (by omega)]
theorem jI {l first i un orr} (hb : 64 ≤ i - first) (h : (eJ l 2 3 ⟨i, 0⟩).isSome = true ∨ ee (ah l i) = true ∨ (ah l i).kind = 2 ∨ (ah l i).kind = 1) : (mS l first un orr ⟨i, 0⟩).2.bad = 2 := by
 unfold mS
 rw [jF hb]
 split
 ·simp [cz]
 ·rename_i hn
  rw [hn] at h
  simp only [Option.isSome_none, Bool.false_eq_true, false_or] at h
  rw [K_ (fun hc => by
   rcases hc with hc | ⟨h1, h2, h3⟩
   ·exact hc rfl
   ·rcases h with h | h | h
    ·rw [h] at h1; cases h1
    ·exact h2 h
    ·exact h3 h), M_ rfl]
  rfl
theorem reads (l first) {n e ts} (h : fL n e ts) : ∀ f, ts.length ≤ f → zH l first f n e ts ∧ (n = 1 ∨ n = 2 ∨ n = 4 ∨ n = 5 → jG l first f n e ts) := by
 induction h with
 | @num t hk =>
  intro f hf
  obtain ⟨f, rfl⟩ : ∃ m, f = m + 1 := ⟨f - 1, by simp at hf; omega⟩
  refine ⟨fun i hfi hs hb _ => ?_, fun h => by omega⟩
  obtain rfl := hs.head
  simp only [P_, b_] at hb ⊢
  exact tg hk (by omega)
 | @name t hk =>
  intro f hf
  obtain ⟨f, rfl⟩ : ∃ m, f = m + 1 := ⟨f - 1, by simp at hf; omega⟩
  refine ⟨fun i hfi hs hb _ => ?_, fun h => by omega⟩
  obtain rfl := hs.head
  simp only [P_, b_] at hb ⊢
  exact pO hk (by omega)
 | @un op t e ts ho ht _ ih =>
  intro f hf
  simp only [P_] at hf
  obtain ⟨f, rfl⟩ := pk_ f 1 (by omega)
  refine ⟨fun i hfi hs hb _ => ?_, fun h => by omega⟩
  obtain rfl := hs.head
  simp only [P_] at hb ⊢
  have h1 := (ih f (by omega)).1 (i + 1) (by omega) hs.tail (by omega) (rv _ _)
  show mS l first (ll l first f) _ ⟨i, 0⟩ = _
  rw [wE ho ht (by omega), show ll l first f ⟨i + 1, 0⟩ = _ from h1]
  simp only [Prod.mk.injEq, St.mk.injEq, and_true, true_and]
  omega
 | @par t u e ts ht hu _ ih =>
  intro f hf
  simp only [P_, O_, b_] at hf
  obtain ⟨f, rfl⟩ := pk_ f 1 (by omega)
  refine ⟨fun i hfi hs hb _ => ?_, fun h => by omega⟩
  obtain rfl := hs.head
  simp only [P_, O_, b_] at hb ⊢
  have hs1 := hs.tail
  obtain rfl := hs1.right.head
  have h1 := (ih f (by omega)).1 (i + 1) (by omega) hs1.left (by omega) (pN hu)
  show mS l first (ll l first f) (i' l first (ll l first f)) ⟨i, 0⟩ = _
  rw [pP ht (by omega), show i' l first (ll l first f) ⟨i + 1, 0⟩ = _ from h1]
  simp only
  rw [K_ (by rw [hu]; simp), M_ True.intro, dk (by show i + 1 + (ts.length : Int) - first < 64; omega)]
  simp only [Prod.mk.injEq, St.mk.injEq, and_true, true_and]
  omega
 | @up n e ts h1 h5 _ ih =>
  intro f hf
  by_cases h3 : n = 3
  ·subst h3
   refine ⟨fun i hfi hs hb hn => ?_, fun h => by omega⟩
   have h2 := (ih f hf).1 i hfi hs hb (hn.mono (by omega))
   rw [s_, i7, h2]
   simp only
   rw [show eJ l 9 14 ⟨i + (ts.length : Int), 0⟩ = none from pL (n := 3) (by omega) (by omega) hn]
  ·have hr : jG l first f n e ts := fun i hfi hs hb hn => by
    have h2 := (ih f hf).1 i hfi hs hb hn
    refine ⟨66, by omega, ?_⟩
    rw [yM (by omega), dM, h2]
   exact ⟨jH h1 h5 hr, fun _ => hr⟩
 | @bin n op t a b ts us h4 h16 hl h3 ht _ _ iha ihb =>
  intro f hf
  have hlo := ta op n h4 h16 hl
  simp only [O_, P_] at hf
  have hr : jG l first f n (cA op a b) (ts ++ t :: us) := fun i hfi hs hb hn => by
   simp only [O_, P_] at hb hn ⊢
   have hs2 := hs.right
   obtain rfl := hs2.head
   obtain ⟨k, hk, he⟩ := (iha f (by omega)).2 (by omega) i hfi hs.left (by omega) (lQ h4 h16 hl ht)
   obtain ⟨k, rfl⟩ := pk_ k 1 (by omega)
   have h2 := (ihb f (by omega)).1 (i + ts.length + 1) (by omega) hs2.tail (by omega) (by
    have e : i + ((ts.length + (us.length + 1) : Nat) : Int) = i + (ts.length : Int) + 1 + (us.length : Int) := by push_cast; omega
    rw [e] at hn
    exact hn)
   refine ⟨k, by omega, ?_⟩
   rw [he, nu (pM hlo.2.2.1 hlo.2.2.2 hlo.1 hlo.2.1 ht) (by show i + (ts.length : Int) - first < 64; omega)]
   simp only
   rw [h2, show i + (ts.length : Int) + 1 + (us.length : Int) = i + ((ts.length + (us.length + 1) : Nat) : Int) by push_cast; omega]
  exact ⟨jH hlo.2.2.1 hlo.2.2.2 hr, fun _ => hr⟩
 | @cmp op t a b ts us h9 h14 ht _ _ iha ihb =>
  intro f hf
  simp only [O_, P_] at hf
  refine ⟨fun i hfi hs hb hn => ?_, fun h => by omega⟩
  simp only [O_, P_] at hb hn ⊢
  have hs2 := hs.right
  obtain rfl := hs2.head
  have hl : aH op = (3 : Nat) := (iG op 3 (by omega) (by omega) h9 h14).2.2
  have h1 := (iha f (by omega)).1 i hfi hs.left (by omega) (lQ (by omega) (by omega) hl ht)
  have e : i + ((ts.length + (us.length + 1) : Nat) : Int) = i + (ts.length : Int) + 1 + (us.length : Int) := by push_cast; omega
  rw [e] at hn ⊢
  have h2 := (ihb f (by omega)).1 (i + ts.length + 1) (by omega) hs2.tail (by omega) (hn.mono (by omega))
  rw [s_, i7, h1]
  simp only
  rw [show eJ l 9 14 ⟨i + (ts.length : Int), 0⟩ = some op from pM (n := 3) (by omega) (by omega) h9 h14 ht]
  simp only
  rw [dk (by show i + (ts.length : Int) - first < 64; omega), K_ (by simp), h2]
end Go.Proofs.YtgcfjkfipkfijaaGreatDoor
namespace Go.Proofs.YtgcfjkfipkfijaaGreatDoor
open Go Go.RowKit Tryz
theorem pQ {l first a b below k e s} (h : s.bad ≠ 0) : fb l first a b below k e s = (e, s) := ku (td h)
theorem wF {t bad op} : ∀ (n : Nat) (a : Int), ra t bad n a = some op → a ≤ op ∧ op < a + n ∧ nt op t
 | 0, _, h => by simp [ra] at h
 | n + 1, a, h => by
  rw [ra] at h
  by_cases hk : t.kind = 4 ∧ bad = 0
  ·rw [M_ hk] at h
   by_cases hs : dE (aT a) t.text = true
   ·rw [M_ hs] at h
    obtain rfl := e_ h
    exact ⟨by omega, by omega, hk.1, hs⟩
   ·rw [K_ hs] at h
    have := wF n (a + 1) h
    exact ⟨by omega, by omega, this.2.2⟩
  ·rw [K_ hk] at h; cases h
theorem ry {l a b op s} (h : eJ l a b s = some op) (hab : a ≤ b) : a ≤ op ∧ op ≤ b ∧ nt op (ah l s.at_) := by
 have := wF _ _ h
 exact ⟨this.1, by omega, this.2.2⟩
def fx (l : List aZ) (first m : Int) (P : St → Ex × St) (n : Nat) : Prop := ∀ i, first ≤ i → m ≤ i → i - first ≤ 64 → (P ⟨i, 0⟩).2.bad = 0 →
 ∃ ts, fL n (P ⟨i, 0⟩).1 ts ∧ gP l i ts ∧ (P ⟨i, 0⟩).2.at_ = i + ts.length ∧ (P ⟨i, 0⟩).2.at_ - first ≤ 64
theorem rz {s : St} (h : s.bad = 0) : s = ⟨s.at_, 0⟩ := by cases s; simp at h; rw [h]
theorem lR {l first m below n} (h1 : 1 ≤ n) (h5 : n ≤ 5) (h3 : n ≠ 3) (hbel : fx l first m below (n + 1)) :
  ∀ (k : Nat) (e : Ex) (i : Int) (ts : List aZ), first ≤ i → m ≤ i → fL n e ts → gP l i ts → i + ts.length - first ≤ 64 → (fb l first (lo n) (hi n) below k e ⟨i + ts.length, 0⟩).2.bad = 0 →
   ∃ us, fL n (fb l first (lo n) (hi n) below k e ⟨i + ts.length, 0⟩).1 us ∧ gP l i us ∧ (fb l first (lo n) (hi n) below k e ⟨i + ts.length, 0⟩).2.at_ = i + us.length ∧ (fb l first (lo n) (hi n) below k e ⟨i + ts.length, 0⟩).2.at_ - first ≤ 64
 | 0, e, i, ts, _, _, hd, hs, hb, _ => ⟨ts, hd, hs, rfl, hb⟩
 | k + 1, e, i, ts, hi1, hi2, hd, hs, hb, hok => by
  cases hp : eJ l (lo n) (hi n) ⟨i + ts.length, 0⟩ with
  | none =>
   rw [ku hp]
   exact ⟨ts, hd, hs, rfl, hb⟩
  | some op =>
   have hlh : lo n ≤ hi n := by
    have hn : n = 1 ∨ n = 2 ∨ n = 3 ∨ n = 4 ∨ n = 5 := by omega
    rcases hn with rfl | rfl | rfl | rfl | rfl <;> decide
   have his := ry hp hlh
   have hol := iG op n h1 h5 his.1 his.2.1
   by_cases h64 : 64 ≤ i + (ts.length : Int) - first
   ·rw [uo hp h64] at hok
    exact absurd hok (by simp [cz])
   ·have hlt : (⟨i + ts.length, 0⟩ : St).at_ - first < 64 := by show i + (ts.length : Int) - first < 64; omega
    rw [nu hp hlt] at hok ⊢
    simp only at hok ⊢
    by_cases hbad : (below ⟨i + ts.length + 1, 0⟩).2.bad = 0
    ·obtain ⟨us, d1, d2, d3, d4⟩ := hbel (i + ts.length + 1) (by omega) (by omega) (by omega) hbad
     have hseg : gP l i (ts ++ ah l (i + ts.length) :: us) := hs.app (gP.cons d2)
     have hlen : (below ⟨i + ts.length + 1, 0⟩).2 = ⟨i + ((ts ++ ah l (i + ts.length) :: us).length : Nat), 0⟩ := by
      rw [rz hbad, d3]
      simp only [O_, P_, St.mk.injEq, and_true]
      push_cast
      omega
     rw [hlen] at hok d4 ⊢
     exact lR h1 h5 h3 hbel k _ i _ hi1 hi2 (.bin hol.1 hol.2.1 hol.2.2 h3 his.2.2 hd d1) hseg (by simpa using d4) hok
    ·rw [pQ hbad] at hok
     exact absurd hok hbad
theorem gz {l first m below n} (h1 : 1 ≤ n) (h5 : n ≤ 5) (h3 : n ≠ 3) (hbel : fx l first m below (n + 1)) : fx l first m (dM l first (lo n) (hi n) below) n := fun i hi1 hi2 hb hok => by
 rw [dM] at hok ⊢
 by_cases hbad : (below ⟨i, 0⟩).2.bad = 0
 ·obtain ⟨ts, d1, d2, d3, d4⟩ := hbel i hi1 hi2 hb hbad
  have he : (below ⟨i, 0⟩).2 = ⟨i + ts.length, 0⟩ := by rw [rz hbad, d3]
  rw [he] at hok d4 ⊢
  exact lR h1 h5 h3 hbel _ _ i ts hi1 hi2 (.up h1 h5 d1) d2 d4 hok
 ·rw [pQ hbad] at hok
  exact absurd hok hbad
theorem rA {l first m sum} (hbel : fx l first m sum 4) : fx l first m (i7 l first sum) 3 := fun i hi1 hi2 hb hok => by
 rw [i7] at hok ⊢
 by_cases hbad : (sum ⟨i, 0⟩).2.bad = 0
 ·obtain ⟨ts, d1, d2, d3, d4⟩ := hbel i hi1 hi2 hb hbad
  have he : (sum ⟨i, 0⟩).2 = ⟨i + ts.length, 0⟩ := by rw [rz hbad, d3]
  rw [he] at hok d4 ⊢
  cases hp : eJ l 9 14 ⟨i + ts.length, 0⟩ with
  | none =>
   exact ⟨ts, .up (by decide) (by decide) d1, d2, d3, by rw [d3]; exact d4⟩
  | some op =>
   rw [hp] at hok
   have his := ry hp (by decide)
   simp only at hok ⊢
   by_cases h64 : 64 ≤ i + (ts.length : Int) - first
   ·rw [jF h64, M_ rfl] at hok
    exact absurd hok (by simp [cz])
   ·rw [dk (by show i + (ts.length : Int) - first < 64; omega), K_ (by simp)] at hok ⊢
    simp only at hok ⊢
    obtain ⟨us, f1, f2, f3, f4⟩ := hbel (i + ts.length + 1) (by omega) (by omega) (by omega) hok
    refine ⟨ts ++ ah l (i + ts.length) :: us, .cmp his.1 his.2.1 his.2.2 d1 f1, d2.app (gP.cons f2), ?_, f4⟩
    rw [f3]
    simp only [O_, P_]
    push_cast
    omega
 ·rw [td hbad] at hok
  exact absurd hok hbad
theorem lS {l first m un} (h : fx l first m un 6) : fx l first m (i' l first un) 1 :=
 gz (n := 1) (by decide) (by decide) (by decide) (gz (n := 2) (by decide) (by decide) (by decide) (rA (gz (n := 4) (by decide) (by decide) (by decide) (gz (n := 5) (by decide) (by decide) (by decide) h))))
theorem fx.mono {l first m m' P n} (h : fx l first m P n) (hm : m ≤ m') : fx l first m' P n := fun i h1 h2 h3 h4 => h i h1 (by omega) h3 h4
theorem uq {l first m un orr} (hu : fx l first (m + 1) un 6) (ho : fx l first (m + 1) orr 1) : fx l first m (mS l first un orr) 6 := fun i hi1 hi2 hb hok => by
 cases hp : eJ l 2 3 ⟨i, 0⟩ with
 | some op =>
  have his := ry hp (by decide)
  have hoo : op = 2 ∨ op = 3 := by omega
  by_cases h64 : 64 ≤ i - first
  ·rw [jI h64 (.inl (by rw [hp]; rfl))] at hok; cases hok
  ·have hlt : i - first < 64 := by omega
   rw [wE hoo his.2.2 hlt] at hok ⊢
   obtain ⟨us, d1, d2, d3, d4⟩ := hu (i + 1) (by omega) (by omega) (by omega) hok
   refine ⟨ah l i :: us, .un hoo his.2.2 d1, gP.cons d2, ?_, d4⟩
   simp only [d3, P_]
   push_cast
   omega
 | none =>
  by_cases hk2 : (ah l i).kind = 2
  ·by_cases h64 : 64 ≤ i - first
   ·rw [jI h64 (.inr (.inr (.inl hk2)))] at hok; cases hok
   ·rw [tg hk2 (by omega)] at hok ⊢
    exact ⟨[ah l i], .num hk2, gP.one l i, rfl, by show i + 1 - first ≤ 64; omega⟩
  ·by_cases hk1 : (ah l i).kind = 1
   ·by_cases h64 : 64 ≤ i - first
    ·rw [jI h64 (.inr (.inr (.inr hk1)))] at hok; cases hok
    ·rw [pO hk1 (by omega)] at hok ⊢
     exact ⟨[ah l i], .name hk1, gP.one l i, rfl, by show i + 1 - first ≤ 64; omega⟩
   ·by_cases hop : ee (ah l i) = true
    ·by_cases h64 : 64 ≤ i - first
     ·rw [jI h64 (.inr (.inl hop))] at hok; cases hok
     ·rw [pP hop (by omega)] at hok ⊢
      by_cases hbad : (orr ⟨i + 1, 0⟩).2.bad = 0
      ·obtain ⟨ts, d1, d2, d3, d4⟩ := ho (i + 1) (by omega) (by omega) (by omega) hbad
       by_cases hsh : eK (ah l (orr ⟨i + 1, 0⟩).2.at_) = true
       ·have hno : ¬((orr ⟨i + 1, 0⟩).2.bad = 0 ∧ eK (ah l (orr ⟨i + 1, 0⟩).2.at_) = false) := fun hc => by rw [hsh] at hc; exact absurd hc.2 (by simp)
        rw [K_ hno, M_ hbad] at hok ⊢
        by_cases h65 : 64 ≤ (orr ⟨i + 1, 0⟩).2.at_ - first
        ·rw [jF h65] at hok
         exact absurd hok (by simp [cz, hbad])
        ·rw [dk (by omega)]
         rw [d3] at hsh
         refine ⟨ah l i :: (ts ++ [ah l (i + 1 + ts.length)]), .par hop hsh d1, gP.cons (d2.app (gP.one _ _)), ?_, ?_⟩
         ·simp only [d3, P_, O_, b_]
          push_cast
          omega
         ·show (orr ⟨i + 1, 0⟩).2.at_ + 1 - first ≤ 64
          omega
       ·rw [M_ ⟨hbad, by simpa using hsh⟩] at hok
        exact absurd hok (by simp [cz, hbad])
      ·rw [K_ (fun hc => hbad hc.1), K_ hbad] at hok
       exact absurd hok hbad
    ·unfold mS at hok
     rw [hp] at hok
     simp only at hok
     rw [M_ (.inr ⟨by simpa using hop, hk2, hk1⟩)] at hok
     exact absurd hok (by simp [cz])
theorem nw (l first) : ∀ f : Nat, fx l first (first + 65 - f) (ll l first f) 6
 | 0 => fun i _ h2 h3 _ => by omega
 | f + 1 => by
  have h := nw l first f
  refine uq (m := first + 65 - (f + 1 : Nat)) (h.mono ?_) ((lS h).mono ?_) <;> push_cast <;> omega
theorem pR {l a} (h : (cZ l a).2.1 = 0) : ∃ ts, fL 1 (cZ l a).1 ts ∧ gP l a ts ∧ (cZ l a).2.2 = a + ts.length ∧ ts.length ≤ 64 := by
 unfold cZ at h ⊢
 simp only at h ⊢
 by_cases hb : (i' l a (ll l a 66) ⟨a, 0⟩).2.bad = 0
 ·rw [K_ (by simpa using hb)]
  obtain ⟨ts, d1, d2, d3, d4⟩ := lS (nw l a 66) a (by omega) (by omega) (by omega) hb
  exact ⟨ts, d1, d2, d3, by omega⟩
 ·rw [M_ hb] at h
  exact absurd h hb
theorem ur {l a e ts} (h : fL 1 e ts) (hs : gP l a ts) (hn : fk l (a + ts.length) 1) (hl : ts.length ≤ 64) : cZ l a = (e, 0, a + ts.length) := by
 have h1 : i' l a (ll l a 66) ⟨a, 0⟩ = _ := (reads l a h 66 (by omega)).1 a (by omega) hs (by omega) hn
 unfold cZ
 rw [h1]
 simp only
 rw [K_ (by simp)]
end Go.Proofs.YtgcfjkfipkfijaaGreatDoor
namespace Go.Proofs.YtgcfjkfipkfijaaGreatDoor
open Go Go.RowKit Tryz
inductive ic : Ex → Prop where
 | num {n : Int} (h : 0 ≤ n) : ic (.mk 0 n ⟨#[]⟩ [])
 | name {s : ByteArray} (h : cg s = true) : ic (.mk 1 0 s [])
 | un {op : Int} {a : Ex} (ho : op = 2 ∨ op = 3) (h : ic a) : ic (dp op a)
 | bin {op : Int} {a b : Ex} (h4 : 4 ≤ op) (h16 : op ≤ 16) (ha : ic a) (hb : ic b) : ic (cA op a b)
def wr (b : Bool) : Nat := if b then 2 else 0
def ej : Ex → Nat
 | .mk _ _ _ [] => 1
 | .mk op _ _ [a] => 1 + (ej a + wr (ag op a.op 0))
 | .mk op _ _ (a :: b :: _) => 1 + (ej a + wr (ag op a.op 0)) + (ej b + wr (ag op b.op 1))
theorem jJ (e) : 1 ≤ ej e := by
 obtain ⟨o, n, s, ks⟩ := e
 match ks with
 | [] => exact H_ _
 | [a] => rw [ej]; omega
 | a :: b :: r => rw [ej]; omega
theorem jK (op a) : ej (dp op a) = 1 + (ej a + wr (ag op a.op 0)) := by unfold dp; rw [ej]
theorem iH (op a b) : ej (cA op a b) = 1 + (ej a + wr (ag op a.op 0)) + (ej b + wr (ag op b.op 1)) := by unfold cA; rw [ej]
theorem th {op a most} (ho : op = 2 ∨ op = 3) (hm : 1 ≤ most) : aK (dp op a) most = bp op [a] 0 1 most := by
 have hp : aE op = 1 := M_ ho
 unfold dp
 rw [aK, K_ (by omega), K_ (by
  rintro (h | h | h | h | h | h)
  ·omega
  ·omega
  ·exact h rfl
  ·exact h rfl
  ·exact h (by rw [hp]; rfl)
  ·omega)]
theorem pS {op a b most} (h4 : 4 ≤ op) (h16 : op ≤ 16) (hm : 1 ≤ most) : aK (cA op a b) most = bp op [a, b] 0 1 most := by
 have hp : aE op = 2 := K_ (by omega)
 unfold cA
 rw [aK, K_ (by omega), K_ (by
  rintro (h | h | h | h | h | h)
  ·omega
  ·omega
  ·exact h rfl
  ·exact h rfl
  ·exact h (by rw [hp]; rfl)
  ·omega)]
theorem oy (b) : ((wr b : Nat) : Int) = if b = true then 2 else 0 := by cases b <;> rfl
theorem je {op i n most a ks} (h : aK a (most - n) = ej a) (hm : n + ej a + wr (ag op a.op i) ≤ most) : bp op (a :: ks) i n most = bp op ks (i + 1) (n + ej a + wr (ag op a.op i)) most := by
 rw [oy] at hm ⊢
 simp only [bp]
 rw [h, K_ (by omega), K_ (by omega)]
theorem jL {e} (h : ic e) : ∀ most : Int, (ej e : Int) ≤ most → aK e most = ej e := by
 induction h with
 | num h =>
  intro most _
  rw [aK, M_ (.inl rfl), K_ (by
   rintro (h' | ⟨_, h' | h'⟩ | ⟨h', _⟩)
   ·simp at h'
   ·omega
   ·exact h' rfl
   ·omega), ej]
  rfl
 | name h =>
  intro most _
  rw [aK, M_ (.inr rfl), K_ (by
   rintro (h' | ⟨h', _⟩ | ⟨_, h' | h'⟩)
   ·simp at h'
   ·omega
   ·exact h' rfl
   ·rw [h] at h'; cases h'), ej]
  rfl
 | @un op a ho _ ih =>
  intro most hm
  rw [jK] at hm ⊢
  have hp := jJ a
  push_cast at hm
  rw [th ho (by omega), je (ih _ (by omega)) (by omega), bp]
  push_cast
  omega
 | @bin op a b h4 h16 _ _ iha ihb =>
  intro most hm
  rw [iH] at hm ⊢
  have hp := jJ a
  have hq := jJ b
  push_cast at hm
  rw [pS h4 h16 (by omega), je (iha _ (by omega)) (by omega), je (ihb _ (by omega)) (by show _ ≤ most; rw [show (0 : Int) + 1 = 1 by rfl]; omega), bp, show (0 : Int) + 1 = 1 by rfl]
  push_cast
  omega
theorem nx {s : ByteArray} (h : s.size = 0) : s = ⟨#[]⟩ := by
 apply ByteArray.ext
 exact Array.eq_empty_of_size_eq_zero h
theorem jf {op i n most a ks} (h : 0 ≤ bp op (a :: ks) i n most) : 0 ≤ aK a (most - n) ∧ 0 ≤ bp op ks (i + 1) (n + aK a (most - n) + (if ag op a.op i then 2 else 0)) most := by
 simp only [bp] at h
 generalize (if ag op a.op i = true then (2 : Int) else 0) = z at h ⊢
 split at h
 ·omega
 ·split at h
  ·omega
  ·exact ⟨by omega, h⟩
theorem uu (N) : ∀ e : Ex, SizeOf.sizeOf e < N → ∀ most, 0 ≤ aK e most → ic e := by
 induction N with
 | zero => intro e h; omega
 | succ N ih =>
  intro e hs most h
  obtain ⟨o, n, s, ks⟩ := e
  by_cases h0 : o = 0 ∨ o = 1
  ·by_cases h1 : 0 < ks.length ∨ o = 0 ∧ (n < 0 ∨ s.size ≠ 0) ∨ o = 1 ∧ (n ≠ 0 ∨ cg s = false)
   ·rw [aK, M_ h0, M_ h1] at h
    omega
   ·obtain rfl : ks = [] := X_ (by omega)
    rcases h0 with rfl | rfl
    ·obtain rfl : s = ⟨#[]⟩ := nx (by omega)
     exact .num (by omega)
    ·obtain rfl : n = 0 := by omega
     refine .name ?_
     cases hb : cg s with
     | true => rfl
     | false => exact absurd (.inr (.inr ⟨rfl, .inr hb⟩)) h1
  ·by_cases h1 : o < 0 ∨ 16 < o ∨ n ≠ 0 ∨ s.size ≠ 0 ∨ ks.length ≠ aE o ∨ most < 1
   ·rw [aK, K_ h0, M_ h1] at h
    omega
   ·rw [aK, K_ h0, K_ h1] at h
    obtain rfl : n = 0 := by omega
    obtain rfl : s = ⟨#[]⟩ := nx (by omega)
    have hl : ks.length = aE o := by omega
    by_cases ho : o = 2 ∨ o = 3
    ·rw [show aE o = 1 from M_ ho] at hl
     obtain ⟨a, rfl⟩ := List.length_eq_one_iff.1 hl
     simp at hs
     exact .un ho (ih a (by omega) _ (jf h).1)
    ·rw [show aE o = 2 from K_ ho] at hl
     match ks, hl with
     | [a, b], _ =>
      simp at hs
      have hb := jf h
      exact .bin (by omega) (by omega) (ih a (by omega) _ hb.1) (ih b (by omega) _ (jf hb.2).1)
theorem ti (e) : gW e = true ↔ ic e ∧ ej e ≤ 64 := by
 constructor
 ·intro h
  unfold gW at h
  rw [a_, decide_eq_true_eq, decide_eq_true_eq] at h
  have hw := uu (SizeOf.sizeOf e + 1) e (by omega) 64 (by omega)
  refine ⟨hw, ?_⟩
  by_cases hc : ej e ≤ 64
  ·exact hc
  ·exfalso
   have key : ∀ {e : Ex}, ic e → ∀ most : Int, most < ej e → aK e most < 0 ∨ (ej e = 1 ∧ aK e most = 1) := by
    intro e he
    induction he with
    | num h0 =>
     intro most _
     right
     refine ⟨by rw [ej], ?_⟩
     rw [aK, M_ (.inl rfl), K_ (by
      rintro (h' | ⟨_, h' | h'⟩ | ⟨h', _⟩)
      ·simp at h'
      ·omega
      ·exact h' rfl
      ·omega)]
    | name h0 =>
     intro most _
     right
     refine ⟨by rw [ej], ?_⟩
     rw [aK, M_ (.inr rfl), K_ (by
      rintro (h' | ⟨h', _⟩ | ⟨_, h' | h'⟩)
      ·simp at h'
      ·omega
      ·exact h' rfl
      ·rw [h0] at h'; cases h')]
    | @un op a ho ha ih =>
     intro most hm
     left
     rw [jK] at hm
     push_cast at hm
     by_cases h1 : 1 ≤ most
     ·rw [th ho h1]
      simp only [bp]
      rw [← oy]
      by_cases hc2 : (ej a : Int) ≤ most - 1
      ·rw [jL ha _ hc2, K_ (by omega), M_ (by omega)]
       decide
      ·rcases ih (most - 1) (by omega) with h2 | ⟨h2, h3⟩
       ·rw [M_ h2]; decide
       ·rw [h3, K_ (by decide), M_ (by omega)]; decide
     ·have hp : aE op = 1 := M_ ho
      unfold dp
      rw [aK, K_ (by omega), M_ (by omega)]
      decide
    | @bin op a b h4 h16 ha hb iha ihb =>
     intro most hm
     left
     rw [iH] at hm
     push_cast at hm
     by_cases h1 : 1 ≤ most
     ·rw [pS h4 h16 h1]
      simp only [bp]
      rw [← oy, ← oy, show (0 : Int) + 1 = 1 by rfl]
      by_cases hc2 : (ej a : Int) ≤ most - 1
      ·rw [jL ha _ hc2, K_ (by omega)]
       by_cases hc3 : most < 1 + (ej a : Int) + (wr (ag op a.op 0) : Nat)
       ·rw [M_ hc3]; decide
       ·rw [K_ hc3]
        by_cases hc4 : (ej b : Int) ≤ most - (1 + (ej a : Int) + (wr (ag op a.op 0) : Nat))
        ·rw [jL hb _ hc4, K_ (by omega), M_ (by omega)]
         decide
        ·rcases ihb (most - (1 + (ej a : Int) + (wr (ag op a.op 0) : Nat))) (by omega) with h2 | ⟨h2, h3⟩
         ·rw [M_ h2]; decide
         ·rw [h3, K_ (by decide), M_ (by omega)]; decide
      ·rcases iha (most - 1) (by omega) with h2 | ⟨h2, h3⟩
       ·rw [M_ h2]; decide
       ·rw [h3, K_ (by decide), M_ (by omega)]; decide
     ·have hp : aE op = 2 := K_ (by omega)
      unfold cA
      rw [aK, K_ (by omega), M_ (by omega)]
      decide
   rcases key hw 64 (by omega) with h2 | ⟨h2, _⟩ <;> omega
 ·rintro ⟨hw, hc⟩
  unfold gW
  have hp := jJ e
  rw [jL hw 64 (by omega), a_, decide_eq_true_eq, decide_eq_true_eq]
  omega
def zI (t : aZ) : Prop := (t.kind = 2 → 0 ≤ t.n) ∧ (t.kind = 1 → cg t.text = true)
theorem zX {n e ts} (h : fL n e ts) : (∀ t, t ∈ ts → zI t) → ic e := by
 induction h with
 | @num t hk => intro h; exact .num ((h t (by simp)).1 hk)
 | @name t hk => intro h; exact .name ((h t (by simp)).2 hk)
 | un ho _ _ ih => intro h; exact .un ho (ih (fun t ht => h t (by simp [ht])))
 | par _ _ _ ih => intro h; exact ih (fun t ht => h t (by simp [ht]))
 | up _ _ _ ih => exact ih
 | bin h4 h16 _ _ _ _ _ iha ihb => intro h; exact .bin h4 h16 (iha (fun t ht => h t (by simp [ht]))) (ihb (fun t ht => h t (by simp [ht])))
 | cmp h9 h14 _ _ _ iha ihb => intro h; exact .bin (by omega) (by omega) (iha (fun t ht => h t (by simp [ht]))) (ihb (fun t ht => h t (by simp [ht])))
theorem oz (op) : 1 ≤ aH op := by
 unfold aH
 repeat' split
 all_goals decide
theorem oA (op) : aH op ≤ 6 := by
 unfold aH
 repeat' split
 all_goals decide
def lw (n : Nat) (e : Ex) : Nat := if aH e.op < n then 2 else 0
theorem As {n m} (h : n ≤ m) (e) : lw n e ≤ lw m e := by
 unfold lw
 split
 ·rw [M_ (by omega)]; omega
 ·omega
theorem yN {n e ts} (h : fL n e ts) : ej e + lw n e ≤ ts.length := by
 induction h with
 | num hk => simp [ej, lw, Ex.op, aH]
 | name hk => simp [ej, lw, Ex.op, aH]
 | @un op t e ts ho _ _ ih =>
  rw [jK]
  have h1 : lw 6 (dp op e) = 0 := by
   rcases ho with rfl | rfl <;> rfl
  have h2 : wr (ag op e.op 0) ≤ lw 6 e := by
   unfold ag lw
   rcases ho with rfl | rfl
   all_goals
    have h6 : aH 2 = 6 := rfl
    have h7 : aH 3 = 6 := rfl
    simp only [h6, h7]
    by_cases hl : aH e.op < 6
    ·rw [M_ (by exact hl)]; unfold wr; split <;> omega
    ·rw [K_ (by exact hl)]; simp [hl, wr]
  simp only [P_]
  omega
 | @par t u e ts _ _ _ ih =>
  simp only [P_, O_, b_]
  have : lw 6 e ≤ 2 := by unfold lw; split <;> omega
  omega
 | @up n e ts _ _ _ ih =>
  have := As (show n ≤ n + 1 by omega) e
  omega
 | @bin n op t a b ts us h4 h16 hl h3 _ _ _ iha ihb =>
  rw [iH]
  have h1 : lw n (cA op a b) = 0 := by
   unfold lw
   rw [K_ (by show ¬ aH op < n; omega)]
  have h2 : wr (ag op a.op 0) ≤ lw n a := by
   unfold ag lw
   rw [hl]
   by_cases h : aH a.op < n
   ·rw [M_ h]; unfold wr; split <;> omega
   ·have h0 : ((n : Int) == 3) = false := by rw [beq_eq_false_iff_ne]; omega
    have h9 : ((0 : Int) == 1) = false := rfl
    rw [K_ h, h0, h9]
    simp [h, wr]
  have h5 : wr (ag op b.op 1) ≤ lw (n + 1) b := by
   unfold ag lw
   rw [hl]
   by_cases h : aH b.op < n
   ·rw [M_ (by push_cast; omega)]; unfold wr; split <;> omega
   ·by_cases h' : aH b.op = n
    ·rw [M_ (by push_cast; omega)]; unfold wr; split <;> omega
    ·rw [K_ (by push_cast; omega)]
     simp [h, wr, h']
  simp only [P_, O_]
  omega
 | @cmp op t a b ts us h9 h14 _ _ _ iha ihb =>
  rw [iH]
  have hl : aH op = (3 : Nat) := (iG op 3 (by omega) (by omega) h9 h14).2.2
  have h1 : lw 3 (cA op a b) = 0 := by
   unfold lw
   rw [K_ (by show ¬ aH op < (3 : Nat); omega)]
  have h2 : ∀ (x : Ex) (i : Int), wr (ag op x.op i) ≤ lw 4 x := by
   intro x i
   unfold ag lw
   rw [hl]
   by_cases h : aH x.op < 4
   ·rw [M_ (by exact h)]; unfold wr; split <;> omega
   ·rw [K_ (by exact h)]
    have e1 : decide (aH x.op < ((3 : Nat) : Int)) = false := V_ (by omega)
    have e2 : (aH x.op == ((3 : Nat) : Int)) = false := by rw [beq_eq_false_iff_ne]; omega
    rw [e1, e2]
    simp [wr]
  have h3 := h2 a 0
  have h4 := h2 b 1
  simp only [P_, O_]
  omega
end Go.Proofs.YtgcfjkfipkfijaaGreatDoor
namespace Go.Proofs.YtgcfjkfipkfijaaGreatDoor
open Go Go.RowKit Go.Lib Tryz
theorem uv (op i n most) : bp op [] i n most = n := rfl
theorem gC {op i n most k ks} : bp op (k :: ks) i n most =
  if aK k (most - n) < 0 then -1
  else if most < n + aK k (most - n) + (if ag op k.op i then 2 else 0) then -1
  else bp op ks (i + 1) (n + aK k (most - n) + (if ag op k.op i then 2 else 0)) most := by rw [bp]
theorem fR {α : Type} (l : List α) (j : Nat) (h : j < l.length) : l.drop j = l[j] :: l.drop (j + 1) := by simp
theorem pU (N) (ih : ∀ (e : Ex) (A : Option Addr) (c : Nat) (most : Int) (w : World), SizeOf.sizeOf e < N → dZ.Row [] w A e.kids → e.kids.length ≤ c → ch e → bq w → 0 ≤ most → most ≤ 1000 →
    Calls prog 158 #[cM e A c, .int .i64 most] w fun r w' => r = .returned (.int .i64 (aK e most)) ∧ Below w.heap.size w w') (o n nm ks A c most w) (hN : SizeOf.sizeOf (Ex.mk o n nm ks) ≤ N) (hr : dZ.Row [] w A ks) (hlc : ks.length ≤ c) (hk : ch (.mk o n nm ks)) (hT : bq w) (h0 : 0 ≤ most) (hm : most ≤ 1000) (hop : ¬ (o = 0 ∨ o = 1)) (hgood : ¬ (o < 0 ∨ 16 < o ∨ n ≠ 0 ∨ nm.size ≠ 0 ∨ ks.length ≠ aE o ∨ most < 1)) :
  Calls prog 158 #[.agg #[.int .i64 o, .int .i64 n, .string nm, .slice A ks.length c], .int .i64 most] w fun r w' => r = .returned (.int .i64 (bp o ks 0 1 most)) ∧ Below w.heap.size w w' := by
 have hok : ∀ (j : Nat) (hj : j < ks.length), ch ks[j] := fun j hj => hk.kid j hj
 have hsz : ∀ (j : Nat) (hj : j < ks.length), SizeOf.sizeOf ks[j] < N := fun j hj => Y_ (re (e := .mk o n nm ks) j hj) hN
 obtain ⟨P, hP⟩ : ∃ P : Int, (aE o : Int) = P := ⟨_, rfl⟩
 have hlen : (ks.length : Int) = P := by rw [← hP]; omega
 have hp1 : 1 ≤ ks.length := by
  have : aE o = 1 ∨ aE o = 2 := by unfold aE; split <;> simp
  omega
 have b0 : (o == 0) = false := aO (fun e => hop (.inl e))
 have b1 : (o == 1) = false := aO (fun e => hop (.inr e))
 have hc : ((o == 2) = true ∧ P = 1) ∨ ((o == 2) = false ∧ (o == 3) = true ∧ P = 1) ∨ ((o == 2) = false ∧ (o == 3) = false ∧ P = 2) := by
  unfold aE at hP
  by_cases h2 : o = 2
  ·exact .inl ⟨D_ h2, by rw [M_ (.inl h2)] at hP; omega⟩
  ·by_cases h3 : o = 3
   ·exact .inr (.inl ⟨aO h2, D_ h3, by rw [M_ (.inr h3)] at hP; omega⟩)
   ·exact .inr (.inr ⟨aO h2, aO h3, by rw [K_ (by omega)] at hP; omega⟩)
 have g1 : 0 ≤ o := by omega
 have g2 : o ≤ 16 := by omega
 obtain rfl : n = 0 := by omega
 have g4 : nm.toList.isEmpty = true := dG (by omega)
 have g5 : ((ks.length : Int) != P) = false := km hlen
 have g6 : 1 ≤ most := by omega
 have HOK := hid hok
 have HSZ := hid hsz
 have HIH := hid ih
 have HT := hid hT
 obtain ⟨ad, rfl⟩ : ∃ ad, A = some ad := by
  obtain ⟨ad, e, _⟩ := hr.2 hp1
  exact ⟨ad, e⟩
 have HW : Hid (∀ (W : World) (i : Nat), dZ.Row [] W (some ad) ks → (h : i < ks.length) → Calls prog 168 #[.agg #[.int .i64 o, .int .i64 0, .string nm, .slice (some ad) ks.length c], .int .i64 i] W fun r w' => r = .returned (.bool (ag o ks[i].op i)) ∧ Below W.heap.size W w') :=
  fun W i hr h => kS (.mk o 0 nm ks) (some ad) c i W hr h hlc
 have HROW := hid hr
 obtain ⟨ANS, hANS⟩ := nm_ (bp o ks 0 1 most)
 rw [hANS]
 have HANS := hid hANS
 have hlcz : (ks.length : Int) ≤ c := by omega
 have hlen2 : (ks.length : Int) ≤ 2 := by omega
 clear hok hsz ih hT hP hlen hr hANS hN hk hgood hop h0
 rcases hc with ⟨b2, rfl⟩ | ⟨b2, b3, rfl⟩ | ⟨b2, b3, rfl⟩
 all_goals
  go_enter func158, ntmps158
  go_wp2_with fail
  go_loopg [6, 7, 8, 9, 85] (ks.length + 1) (fun k s6 _ _ _ s85 w' => ∃ (j : Nat) (n' : Int), s85 = .int .i64 j ∧ j ≤ ks.length ∧ ks.length - j < k ∧ s6 = .int .i64 n' ∧ 1 ≤ n' ∧ n' ≤ most ∧
   w'.heap[w.heap.size]? = some (.cells #[.int .i64 o, .int .i64 0, .string nm, .slice (some ad) ks.length c] 41 (0, 0)) ∧ Below w.heap.size w w' ∧ bp o (ks.drop j) j n' most = ANS)
  case atStart => exact ⟨0, 1, rfl, by omega, by omega, rfl, by omega, by omega, I_ _ _, (J_ _ _).alloc le_ _, HANS.out⟩
  case round =>
   obtain ⟨j, n', rfl, hj, hjk, rfl, hn1, hn2, hbx, hbl, hans⟩ := hrel
   obtain ⟨gk, rfl⟩ := pk_ gk 1 (by omega)
   have HBX := hid hbx
   have HBL := hid hbl
   have HA := hid hans
   clear hans
   by_cases hlt : j < ks.length
   ·have hltz : (j : Int) < ks.length := by omega
    have hrow : dZ.Row [] wr (some ad) ks := HROW.out.keep (Same.of_below hbl)
    obtain ⟨A', c', x0, x1, x2, x3, hlc', hrow', _⟩ := lk hrow j hlt
    have HROWR := hid hrow
    have HROWK := hid hrow'
    obtain ⟨t, ht⟩ := nm_ (aK ks[j] (most - n'))
    have ht1 := yy ks[j] (most - n')
    have ht2 := yz ks[j] (most - n')
    have HKID : Hid (∀ W, dZ.Row [] W A' ks[j].kids → bq W → Calls prog 158 #[.agg #[.int .i64 ks[j].op, .int .i64 ks[j].n, .string ks[j].name, .slice A' ks[j].kids.length c'], .int .i64 (most - n')] W fun r w' => r = .returned (.int .i64 t) ∧ Below W.heap.size W w') := fun W hW hTW => by
     rw [← ht]; exact HIH.out ks[j] A' c' (most - n') W (HSZ.out j hlt) hW hlc' (HOK.out j hlt) hTW (by omega) (by omega)
    obtain ⟨b, hb⟩ := nm_ (ag o ks[j].op j)
    have HWR := hid (fun W h => HW.out W j h hlt)
    have h := HA.out
    rw [fR ks j hlt, gC, ht] at h
    rw [ht] at ht1 ht2
    rw [hb] at h HWR
    have HE := hid h
    have hadlt := N_ wr _ x0
    have hkl := ab hbx
    clear h ht hb hrow hrow' hbx hbl
    by_cases htn : t < 0
    ·go_wp2_with (go_at_call 158; refine (HKID.out _ (HROWK.out.keep ((Same.refl [] wr).alloc _)) ((HT.out.below HBL.out).alloc _)).mono ?_; rintro e w2 ⟨rfl, hb2⟩)
     go_ret
     refine ⟨bP ?_, (HBL.out.alloc HBL.out.size _).trans (hb2.mono (by simp; omega))⟩
     have h := HE.out
     rw [M_ htn] at h
     exact h
    ·have htn' : 0 ≤ t := by omega
     go_wp2_with fail
     refine (HKID.out _ (HROWK.out.keep ((Same.refl [] wr).alloc _)) ((HT.out.below HBL.out).alloc _)).mono ?_
     rintro e w2 ⟨rfl, hb2⟩
     have hbx2 := (hb2.block _ (by simp; omega)).trans ((((J_ wr.heap.size wr).alloc le_ _).block _ hkl).trans HBX.out)
     have hbl2 := (HBL.out.alloc HBL.out.size _).trans (hb2.mono (by simp; omega))
     have HROW2 := hid ((HROWR.out.keep ((Same.refl [] wr).alloc _)).keep (Same.of_below hb2))
     have HBX2 := hid hbx2
     have HBL2 := hid hbl2
     have q0 := (aa hbx2 0).trans rfl
     have q1 := (aa hbx2 1).trans rfl
     have q2 := (aa hbx2 2).trans rfl
     have q3 := (aa hbx2 3).trans rfl
     clear hb2 hbx2 hbl2
     go_wp2_with fail
     refine (HWR.out _ HROW2.out).mono ?_
     rintro e w3 ⟨rfl, hb3⟩
     have HBX3 := bl_ hb3 HBX2
     have HBL3 := tm_ HBL2 hb3
     have h := HE.out
     rw [K_ (by omega)] at h
     have HE2 := hid h
     clear h q0 q1 q2 q3 hb3 HE
     cases b
     ·have h := HE2.out
      simp only [Bool.false_eq_true, if_false, Int.add_zero] at h
      have HE3 := hid h
      clear h
      by_cases hgt : most < n' + t
      ·go_wp2_with fail
       go_ret
       refine ⟨bP ?_, HBL3.out⟩
       have h := HE3.out
       rw [M_ hgt] at h
       exact h
      ·have hgt' : n' + t ≤ most := by omega
       have h := HE3.out
       rw [K_ hgt] at h
       have HE4 := hid h
       clear h hgt
       go_wp2_with fail
       go_roundg gk
       case measure => omega
       case rel => exact ⟨j + 1, n' + t, by go_num, by omega, by omega, rfl, by omega, by omega, HBX3.out, HBL3.out, HE4.out⟩
     ·have h := HE2.out
      simp only [if_true] at h
      have HE3 := hid h
      clear h
      by_cases hgt : most < n' + t + 2
      ·go_wp2_with fail
       go_ret
       refine ⟨bP ?_, HBL3.out⟩
       have h := HE3.out
       rw [M_ hgt] at h
       exact h
      ·have hgt' : n' + t + 2 ≤ most := by omega
       have h := HE3.out
       rw [K_ hgt] at h
       have HE4 := hid h
       clear h hgt
       go_wp2_with fail
       go_roundg gk
       case measure => omega
       case rel => exact ⟨j + 1, n' + t + 2, by go_num, by omega, by omega, rfl, by omega, by omega, HBX3.out, HBL3.out, HE4.out⟩
   ·have hge : (ks.length : Int) ≤ j := by omega
    clear hbx hbl
    go_wp2_with fail
    go_ret
    refine ⟨bP ?_, HBL.out⟩
    have h := HA.out
    rw [List.drop_of_length_le (by omega), uv] at h
    exact h
theorem rB (N) : ∀ (e : Ex) (A : Option Addr) (c : Nat) (most : Int) (w : World), SizeOf.sizeOf e < N → dZ.Row [] w A e.kids → e.kids.length ≤ c → ch e → bq w → 0 ≤ most → most ≤ 1000 →
   Calls prog 158 #[cM e A c, .int .i64 most] w fun r w' => r = .returned (.int .i64 (aK e most)) ∧ Below w.heap.size w w' := by
 induction N with
 | zero => intro e A c most w h; omega
 | succ N ih =>
  intro e A c most w hN hr hlc hk hT h0 hm
  by_cases hop : e.op = 0 ∨ e.op = 1
  ·exact px e A c most w hop hk hT
  ·by_cases hb : e.op < 0 ∨ 16 < e.op ∨ e.n ≠ 0 ∨ e.name.size ≠ 0 ∨ e.kids.length ≠ aE e.op ∨ most < 1
   ·rw [wa hop hb]
    exact rl e.op e.n e.name e.kids A c most w hop hb
   ·rw [t7 hop hb]
    obtain ⟨o, n, nm, ks⟩ := e
    exact pU N ih o n nm ks A c most w (by omega) hr hlc hk hT h0 hm hop hb
theorem yO (e A c w) (hr : dZ.Row [] w A e.kids) (hlc : e.kids.length ≤ c) (hk : ch e) (hT : bq w) :
  Calls prog 140 #[cM e A c] w fun r w' => r = .returned (.bool (gW e)) ∧ Below w.heap.size w w' := by
 have HC := hid (fun W (h : dZ.Row [] W A e.kids) (hT : bq W) => rB (SizeOf.sizeOf e + 1) e A c 64 W (by omega) h hlc hk hT (by omega) (by omega))
 have HX : Hid (gW e = (decide (0 < aK e 64) && decide (aK e 64 ≤ 64))) := rfl
 obtain ⟨t, ht⟩ := nm_ (aK e 64)
 rw [ht] at HC HX
 clear ht
 have HR := hid (hr.keep ((Same.refl [] w).alloc (.cells #[.int .i64 e.op, .int .i64 e.n, .string e.name, .slice A e.kids.length c] 41)))
 have HT := hid hT
 clear hr hT
 go_enter func140, ntmps140
 go_wp2_with (go_at_call 158; refine (HC.out _ HR.out (HT.out.alloc _)).mono ?_; rintro r w2 ⟨rfl, hb2⟩)
 all_goals
  go_ret
  refine ⟨bS ?_, ((J_ _ _).alloc le_ _).trans (hb2.mono (by simp))⟩
  rw [HX.out]
  first
  | (simp [*]; done)
  | (simp [*]; omega)
inductive pV : Ex → Prop where
 | leaf {op n : Int} {nm : ByteArray} {ks : List Ex} (h : op = 0 ∨ op = 1) (h2 : ks = []) : pV (.mk op n nm ks)
 | node {op n : Int} {nm : ByteArray} {ks : List Ex} (h1 : 2 ≤ op) (h2 : op ≤ 16) (h3 : ks.length = aE op) (h4 : ∀ k, k ∈ ks → pV k) : pV (.mk op n nm ks)
theorem rC (N) : (∀ e : Ex, SizeOf.sizeOf e < N → ∀ most, 0 ≤ aK e most → pV e) ∧ (∀ ks : List Ex, SizeOf.sizeOf ks < N → ∀ op i n most, 0 ≤ bp op ks i n most → ∀ k, k ∈ ks → pV k) := by
 induction N with
 | zero => exact ⟨fun _ h => absurd h (by omega), fun _ h => absurd h (by omega)⟩
 | succ N ih =>
  refine ⟨fun e he most h => ?_, fun ks hk op i n most h k hm => ?_⟩
  ·obtain ⟨o, n, nm, ks⟩ := e
   by_cases h0 : o = 0 ∨ o = 1
   ·by_cases h1 : 0 < ks.length ∨ o = 0 ∧ (n < 0 ∨ nm.size ≠ 0) ∨ o = 1 ∧ (n ≠ 0 ∨ cg nm = false)
    ·rw [aK, M_ h0, M_ h1] at h
     omega
    ·exact .leaf h0 (X_ (by omega))
   ·by_cases h1 : o < 0 ∨ 16 < o ∨ n ≠ 0 ∨ nm.size ≠ 0 ∨ ks.length ≠ aE o ∨ most < 1
    ·rw [aK, K_ h0, M_ h1] at h
     omega
    ·rw [aK, K_ h0, K_ h1] at h
     refine .node (by omega) (by omega) (by omega) (ih.2 ks ?_ o 0 1 most h)
     simp at he
     omega
  ·cases ks with
   | nil => simp at hm
   | cons x xs =>
    simp at hk
    rw [gC] at h
    by_cases h1 : aK x (most - n) < 0
    ·rw [M_ h1] at h; omega
    ·rw [K_ h1] at h
     generalize (if ag op x.op i = true then (2 : Int) else 0) = z at h
     split at h
     ·omega
     ·rcases List.mem_cons.1 hm with rfl | hm
      ·exact ih.1 _ (by omega) (most - n) (by omega)
      ·exact ih.2 xs (by omega) _ _ _ _ h k hm
theorem ny {e} (h : gW e = true) : pV e := by
 unfold gW at h
 rw [a_, decide_eq_true_eq] at h
 exact (rC (SizeOf.sizeOf e + 1)).1 e (by omega) 64 (by omega)
def fS (b : Bool) (l : List UInt8) : List UInt8 := if b then [40] ++ l ++ [41] else l
def au : Ex → List UInt8
 | .mk op n nm ks =>
  if op = 0 then Lib.itoa n
  else if op = 1 then nm.data.toList
  else match ks with
   | [] => []
   | [a] => (aT op).data.toList ++ fS (ag op a.op 0) (au a)
   | a :: b :: _ => fS (ag op a.op 0) (au a) ++ [32] ++ (aT op).data.toList ++ [32] ++ fS (ag op b.op 1) (au b)
def dz (e : Ex) : List UInt8 := if gW e then au e else []
def str (l : List UInt8) : ByteArray := ⟨l.toArray⟩
theorem bH (a b) : str a ++ str b = str (a ++ b) := by
 apply ByteArray.ext
 simp [str]
theorem aY (l) : (str l).size = l.length := by
 rw [← ak]
 simp [str]
theorem bT (s) : str s.data.toList = s := by
 apply ByteArray.ext
 simp [str]
theorem jM (l) : (str l).data.toList = l := by simp [str]
theorem dm (b l) : (fS b l).length = l.length + (if b then 2 else 0) := by
 unfold fS
 split <;> simp_all
theorem yP {p : Prop} [Decidable p] {a b : List UInt8} {n : Nat} (h1 : a.length ≤ n) (h2 : b.length ≤ n) : (if p then a else b).length ≤ n := by split <;> assumption
theorem fT (op) : (aT op).data.toList.length ≤ 2 := by
 have h : ∀ l : List UInt8, (bytes l).data.toList = l := fun l => by simp [bytes]
 unfold aT
 rw [h]
 repeat' (refine yP ?_ ?_)
 all_goals decide
def fU (op : Int) : List Ex → Int → Nat
 | [], _ => 0
 | k :: ks, i => (fS (ag op k.op i) (au k)).length + fU op ks (i + 1)
theorem wG (N) : (∀ e : Ex, SizeOf.sizeOf e < N → ch e → ∀ m, 0 ≤ aK e m → ((au e).length : Int) ≤ 281474976710656 * aK e m) ∧
  (∀ ks : List Ex, SizeOf.sizeOf ks < N → (∀ k, k ∈ ks → ch k) → ∀ op i n m, 1 ≤ n → 0 ≤ bp op ks i n m → (fU op ks i : Int) ≤ 281474976710656 * (bp op ks i n m - n)) := by
 induction N with
 | zero => exact ⟨fun _ h => absurd h (by omega), fun _ h => absurd h (by omega)⟩
 | succ N ih =>
  refine ⟨fun e he hk m h => ?_, fun ks hs hk op i n m hn h => ?_⟩
  ·obtain ⟨o, n, nm, ks⟩ := e
   have hfn : gu n := hk.n
   have hnm : nm.size ≤ 140737488355328 := hk.name
   simp at he
   by_cases h0 : o = 0 ∨ o = 1
   ·by_cases h1 : 0 < ks.length ∨ o = 0 ∧ (n < 0 ∨ nm.size ≠ 0) ∨ o = 1 ∧ (n ≠ 0 ∨ cg nm = false)
    ·rw [aK, M_ h0, M_ h1] at h
     omega
    ·rw [aK, M_ h0, K_ h1, au.eq_def]
     simp only
     rcases h0 with rfl | rfl
     ·rw [M_ rfl]
      have := Lib.itoa_length_le n hfn.1 hfn.2
      omega
     ·rw [K_ (by decide), M_ rfl, ak]
      omega
   ·by_cases h1 : o < 0 ∨ 16 < o ∨ n ≠ 0 ∨ nm.size ≠ 0 ∨ ks.length ≠ aE o ∨ m < 1
    ·rw [aK, K_ h0, M_ h1] at h
     omega
    ·rw [aK, K_ h0, K_ h1] at h ⊢
     have h2 := ih.2 ks (by omega) hk.kids o 0 1 m (by omega) h
     have hsg := fT o
     rw [au.eq_def]
     simp only
     rw [K_ (by omega), K_ (by omega)]
     have hge := lD ks o 0 1 m (by omega)
     match ks, h2, h1, h with
     | [], _, h1, _ =>
      have : aE o = 1 ∨ aE o = 2 := by unfold aE; split <;> simp
      simp at h1
      omega
     | [a], h2, _, _ =>
      simp only [fU] at h2
      simp only [O_]
      omega
     | a :: b :: r, h2, _, _ =>
      simp only [fU] at h2
      simp only [O_, P_, b_]
      have hz : (0 : Int) + 1 = 1 := by omega
      rw [hz] at h2
      omega
  ·cases ks with
   | nil => simp [fU, bp]
   | cons x xs =>
    simp at hs
    rw [gC] at h ⊢
    have hx : 0 ≤ (if ag op x.op i = true then (2 : Int) else 0) := by split <;> omega
    by_cases h1 : aK x (m - n) < 0
    ·rw [M_ h1] at h; omega
    ·rw [K_ h1] at h ⊢
     by_cases h3 : m < n + aK x (m - n) + (if ag op x.op i = true then 2 else 0)
     ·rw [M_ h3] at h; omega
     ·rw [K_ h3] at h ⊢
      have a1 := ih.1 x (by omega) (hk x (by simp)) (m - n) (by omega)
      have a2 := ih.2 xs (by omega) (fun k hk' => hk k (by simp [hk'])) op (i + 1) _ m (by omega) h
      simp only [fU, dm]
      have hw : ((if ag op x.op i = true then 2 else 0 : Nat) : Int) = (if ag op x.op i = true then 2 else 0) := by split <;> rfl
      push_cast
      rw [hw]
      generalize (if ag op x.op i = true then (2 : Int) else 0) = z at *
      omega
theorem jN {e} (hk : ch e) (h : gW e = true) : (au e).length ≤ 18014398509481984 := by
 unfold gW at h
 rw [a_, decide_eq_true_eq, decide_eq_true_eq] at h
 have := (wG (SizeOf.sizeOf e + 1)).1 e (by omega) hk 64 (by omega)
 omega
end Go.Proofs.YtgcfjkfipkfijaaGreatDoor
