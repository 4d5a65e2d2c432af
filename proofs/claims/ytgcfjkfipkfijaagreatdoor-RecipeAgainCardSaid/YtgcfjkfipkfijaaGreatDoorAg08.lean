/- Part 8 of the proof of ragain_card; no conditions. -/
import Derived.Test.YtgcfjkfipkfijaaGreatDoorAg01
import Derived.Test.YtgcfjkfipkfijaaGreatDoorAg07
import Derived.Lib.ItoaNum
namespace Go.Proofs.YtgcfjkfipkfijaaGreatDoor
open Go Go.RowKit Go.Lib Tryz
theorem iI (s : ByteArray) : s.data.toList.length = s.size := by simp
def eN (f : Nat) (l : List UInt8) (a : Int) (out : List aZ) : List aZ × Int × Int := dS f (skip l a).1 (skip l a).2 out
theorem pW {f l a out} (hl : l ≠ []) (hs : cY l = 0) (ho : out.length ≠ 2000) (he : (bC l).2.2 = 0) :
  eN (f + 1) l a out = eN f (l.drop (bC l).2.1.toNat) (a + (ai (l.take (bC l).2.1.toNat)).length) (out ++ [{ (bC l).1 with at_ := a }]) := by
 have h : skip l a = (l, a) := by unfold skip; exact eT hs
 unfold eN
 rw [h]
 simp only [dS, K_ hl, K_ ho, he, ne_eq, not_true_eq_false, if_false]
theorem wH {f a out} : eN (f + 1) [] a out = (out ++ [⟨0, ⟨#[]⟩, 0, a⟩], 0, 0) := by
 have h : skip [] a = ([], a) := by unfold skip; exact eT rfl
 unfold eN
 rw [h]
 simp only [dS, if_true]
theorem pX {c l} (h : c = 32 ∨ c = 10) : cY (c :: l) = 1 := by
 rcases h with rfl | rfl <;> rfl
theorem jg {f c l a out} (h : c = 32 ∨ c = 10) : eN f (c :: l) a out = eN f l (a + 1) out := by
 have h1 := pX (l := l) h
 have h2 : skip (c :: l) a = skip l (a + 1) := by
  unfold skip
  rw [P_, ed (by rw [h1]; decide), h1]
  have h3 : ai [c] = [(c.toNat, 1)] := by
   rcases h with rfl | rfl <;> rfl
  simp only [List.drop_succ_cons, List.drop_zero, List.take_succ_cons, List.take_zero, h3, P_, b_]
  rfl
 unfold eN
 rw [h2]
def cF (r : List UInt8) : Prop := r = [] ∨ ∃ c t, r = c :: t ∧ (c = 32 ∨ c = 41 ∨ c = 10 ∨ c = 44 ∨ c = 59 ∨ c = 40)
theorem oB {n m b0 b1 b2 b3 c1 c2 c3} (hm : n ≤ m) (h1 : 1 < n → c1 = b1) (h2 : 2 < n → c2 = b2) (h3 : 3 < n → c3 = b3) (hv : decodeN n b0 b1 b2 b3 ≠ (65533, 1)) : decodeN m b0 c1 c2 c3 = decodeN n b0 b1 b2 b3 := by
 rcases decodeN_shape n b0 b1 b2 b3 with ⟨c, e⟩ | ⟨c1', c2', c3', cv, e⟩ | ⟨c1', c2', c3', c4', cv, cs, e⟩ | ⟨c1', c2', c3', c4', c5', cv, cw, e⟩ | e
 ·rw [e]; unfold decodeN; rw [M_ c]
 ·obtain rfl := h1 c2'
  rw [e]; unfold decodeN; rw [K_ (by omega), M_ ⟨c1', by omega, c3'⟩, M_ (by omega)]
 ·obtain rfl := h1 (by omega)
  obtain rfl := h2 (by omega)
  rw [e]; unfold decodeN; rw [K_ (by omega), K_ (by omega), M_ ⟨c1', ⟨by omega, c3'⟩, by omega, c4'⟩, M_ (by omega)]
 ·obtain rfl := h1 (by omega)
  obtain rfl := h2 (by omega)
  obtain rfl := h3 (by omega)
  rw [e]; unfold decodeN; rw [K_ (by omega), K_ (by omega), K_ (by omega), M_ ⟨c1', ⟨by omega, c3'⟩, ⟨by omega, c4'⟩, by omega, c5'⟩, M_ (by omega)]
 ·exact absurd e hv
theorem eE {w r : List UInt8} {i : Nat} (h : i < w.length) : (w ++ r).getD i 0 = w.getD i 0 := by
 simp [List.getD, List.getElem?_append_left h]
theorem kU {w r} (hw : w ≠ []) (hv : decodeL w ≠ (65533, 1)) : decodeL (w ++ r) = decodeL w := by
 have h0 : 0 < w.length := F_ hw
 rw [decodeL_N] at hv
 rw [decodeL_N, decodeL_N, eE h0]
 exact oB (by rw [O_]; omega) (fun h => by rw [eE h]) (fun h => by rw [eE h]) (fun h => by rw [eE h]) hv
def Vd (w : List UInt8) : Prop := ∀ x, x ∈ ai w → x ≠ (65533, 1)
theorem nz : ∀ (n : Nat) (w r : List UInt8), w.length ≤ n → Vd w → ai (w ++ r) = ai w ++ ai r := by
 intro n
 induction n with
 | zero => intro w r h _; rw [X_ (by omega : w.length = 0)]; rfl
 | succ n ih =>
  intro w r h hv
  by_cases hw : w = []
  ·subst hw; rfl
  ·have h0 : 0 < w.length := F_ hw
   have hc := aV w hw
   have hd : decodeL w ≠ (65533, 1) := hv _ (by rw [hc]; simp)
   have hwid := decodeL_width w
   have hle := decodeL_le w hw
   rw [aV (w ++ r) (by simp [hw]), kU hw hd, List.drop_append_of_le_length hle, hc, List.cons_append]
   rw [ih (w.drop (decodeL w).2) r (by rw [Q_]; omega) (fun x hx => hv x (by rw [hc]; simp [hx]))]
theorem ie {w r} (hw : Vd w) (hr : Vd r) : Vd (w ++ r) := fun x hx => by
 rw [nz _ w r le_ hw, List.mem_append] at hx
 exact hx.elim (hw x) (hr x)
theorem ig : ∀ (w : List UInt8), (∀ b, b ∈ w → b.toNat < 128) → ai w = w.map fun b => (b.toNat, 1)
 | [], _ => rfl
 | b :: t, h => by
  have hb := decodeL_ascii b t (h b (by simp))
  rw [aV _ (by simp), hb, List.map_cons]
  simp only [List.drop_succ_cons, List.drop_zero]
  rw [ig t (fun x hx => h x (by simp [hx]))]
theorem cQ {w} (h : ∀ b, b ∈ w → b.toNat < 128) : Vd w := fun x hx => by
 rw [ig w h, List.mem_map] at hx
 obtain ⟨b, hb, rfl⟩ := hx
 intro e
 have := h b hb
 simp only [Prod.mk.injEq] at e
 omega
theorem tj : ∀ (rs : List (Nat × Nat)) (k : Int), (∀ x, x ∈ rs → x ≠ (65533, 1)) → iS k rs = -1
 | [], _, _ => rfl
 | r :: rs, k, h => by
  rw [iS, K_ (h r (by simp))]
  exact tj rs (k + 1) (fun x hx => h x (by simp [hx]))
theorem uw : ∀ (n : Nat) (w : List UInt8) (rs : List (Nat × Nat)), w.length ≤ n → (∀ x, x ∈ ai w → lf x.1 = true) → bI (ai w ++ rs) = w.length + bI rs := by
 intro n
 induction n with
 | zero => intro w rs h _; rw [X_ (by omega : w.length = 0)]; simp [d9]
 | succ n ih =>
  intro w rs h hv
  by_cases hw : w = []
  ·subst hw; simp [d9]
  ·have h0 : 0 < w.length := F_ hw
   have hc := aV w hw
   have hwid := decodeL_width w
   have hle := decodeL_le w hw
   rw [hc, List.cons_append, bI, M_ (hv _ (by rw [hc]; simp)), ih (w.drop (decodeL w).2) rs (by rw [Q_]; omega) (fun x hx => hv x (by rw [hc]; simp [hx])), Q_]
   omega
theorem pY {r} (h : cF r) : bI (ai r) = 0 := by
 rcases h with rfl | ⟨c, t, rfl, h⟩
 ·rfl
 ·rw [aV _ (by simp), decodeL_ascii c t (by rcases h with rfl | rfl | rfl | rfl | rfl | rfl <;> decide), bI]
  rcases h with rfl | rfl | rfl | rfl | rfl | rfl <;> rfl
theorem lT {w r} (hv : Vd w) (hw : ∀ x, x ∈ ai w → lf x.1 = true) (hr : cF r) : bI (ai (w ++ r)) = w.length := by
 rw [nz _ w r le_ hv, uw _ w _ le_ hw, pY hr]
 omega
theorem nB {r} (h : cO r = 3) : 48 ≤ r ∧ r ≤ 57 := by
 unfold cO at h
 by_cases h1 : r = 32 ∨ r = 9 ∨ r = 13 ∨ r = 10
 ·rw [M_ h1] at h; omega
 ·rw [K_ h1] at h
  by_cases h2 : (97 ≤ r ∧ r ≤ 122) ∨ (65 ≤ r ∧ r ≤ 90) ∨ r = 95
  ·rw [M_ h2] at h; omega
  ·rw [K_ h2] at h
   by_cases h3 : 192 ≤ r ∧ r ≤ 591 ∧ r ≠ 215 ∧ r ≠ 247
   ·rw [M_ h3] at h; omega
   ·rw [K_ h3] at h
    by_cases h4 : 48 ≤ r ∧ r ≤ 57
    ·exact h4
    ·rw [K_ h4] at h
     repeat' split at h
     all_goals omega
theorem mW {l} (h : (decodeL l).1 < 128) : (decodeL l).1 = (l.getD 0 0).toNat := by
 rw [decodeL_N] at h ⊢
 rcases decodeN_shape l.length (l.getD 0 0).toNat (l.getD 1 0).toNat (l.getD 2 0).toNat (l.getD 3 0).toNat with ⟨c, e⟩ | ⟨c1, c2, c3, cv, e⟩ | ⟨c1, c2, c3, c4, cv, cs, e⟩ | ⟨c1, c2, c3, c4, c5, cv, cw, e⟩ | e
 ·rw [e]
 all_goals
  rw [e] at h
  simp only at h
  omega
theorem ij {s} (h : cg s = true) : Vd s.data.toList ∧ (∀ x, x ∈ ai s.data.toList → lf x.1 = true) ∧ s.data.toList ≠ [] ∧ ((s.data.toList.getD 0 0).toNat < 48 ∨ 57 < (s.data.toList.getD 0 0).toNat) ∧ (ai s.data.toList).length ≤ 12 := by
 unfold cg fC dR at h
 simp only [a_, Bool.or_eq_true, decide_eq_true_eq] at h
 obtain ⟨⟨⟨h1, h2, h3⟩, h4⟩, h5⟩ := h
 rw [gq, List.all_eq_true] at h1
 refine ⟨fun x hx e => ?_, List.all_eq_true.1 h2, fun e => h3 ?_, h4, h5⟩
 ·have := h1 x hx
  rw [e] at this
  simp at this
 ·rw [← iI, e]; rfl
theorem wI (s) : (⟨s.data.toList.toArray⟩ : ByteArray) = s := by
 apply ByteArray.ext
 simp
theorem jO (w r : List UInt8) : (w ++ r).take w.length = w := by simp
theorem nC {s r} (h : cg s = true) (hr : cF r) : bC (s.data.toList ++ r) = (⟨1, s, 0, 0⟩, (s.data.toList.length : Int), 0) := by
 obtain ⟨hv, hw, hne, h4, h5⟩ := ij h
 have hmem : decodeL s.data.toList ∈ ai s.data.toList := by rw [aV _ hne]; simp
 have hd := kU (r := r) hne (hv _ hmem)
 have hk : cO (decodeL s.data.toList).1 = 2 := by
  have := hw _ hmem
  unfold lf at this
  rw [Bool.or_eq_true, beq_iff_eq, beq_iff_eq] at this
  rcases this with h | h
  ·exact h
  ·have h6 := nB h
   have h7 := mW (l := s.data.toList) (by omega)
   omega
 have hn := lT hv hw hr
 unfold bC
 simp only
 rw [hd, hn, jO, hk, M_ rfl, K_ (by omega), wI]
theorem jP {d} (h : d < 10) : (UInt8.ofNat (48 + d)).toNat = 48 + d := by
 rw [UInt8.toNat_ofNat']
 omega
theorem gD (u) : ∀ b, b ∈ decDigits u → 48 ≤ b.toNat ∧ b.toNat ≤ 57 := by
 induction u using Nat.strongRecOn with
 | _ u ih =>
  intro b hb
  rw [decDigits] at hb
  by_cases h : u < 10
  ·rw [dif_pos h, List.mem_singleton] at hb
   subst hb
   rw [jP h]
   omega
  ·rw [dif_neg h, List.mem_append, List.mem_singleton] at hb
   rcases hb with hb | hb
   ·exact ih (u / 10) (by omega) b hb
   ·subst hb
    rw [jP (Nat.mod_lt _ (by decide))]
    have := Nat.mod_lt u (show 0 < 10 by decide)
    omega
theorem pZ : ∀ (rs ss : List (Nat × Nat)) (a b : Nat), iT a rs = some b → iT a (rs ++ ss) = iT b ss
 | [], _, a, b, h => by rw [iT] at h; rw [e_ h]; rfl
 | r :: rs, ss, a, b, h => by
  rw [iT] at h
  rw [List.cons_append, iT]
  split at h
  ·rename_i hc
   rw [M_ hc]
   exact pZ rs ss _ b h
  ·cases h
theorem el {b : Nat} (h1 : 48 ≤ b) (h2 : b ≤ 57) : cO (b : Int) = 3 := by
 unfold cO
 rw [K_ (by omega), K_ (by omega), K_ (by omega), M_ (by omega)]
theorem yQ (u) : iT 0 ((decDigits u).map fun b => (b.toNat, 1)) = some u := by
 induction u using Nat.strongRecOn with
 | _ u ih =>
  rw [decDigits]
  by_cases h : u < 10
  ·rw [dif_pos h]
   simp only [List.map_cons, List.map_nil, iT, jP h]
   rw [M_ (el (by omega) (by omega))]
   congr 1
   omega
  ·rw [dif_neg h, f_, pZ _ _ _ _ (ih (u / 10) (by omega))]
   have hm := Nat.mod_lt u (show 0 < 10 by decide)
   simp only [List.map_cons, List.map_nil, iT, jP hm]
   rw [M_ (el (by omega) (by omega))]
   congr 1
   omega
theorem lU (u) : decDigits u ≠ [] := fun e => by
 have := decDigits_length u
 have h2 := nDigits_pos u
 rw [e] at this
 simp at this
 omega
theorem ux (u) (h : 1 < (decDigits u).length) : (decDigits u).getD 0 0 ≠ 48 := by
 induction u using Nat.strongRecOn with
 | _ u ih =>
  by_cases h1 : u < 10
  ·rw [decDigits, dif_pos h1] at h
   simp at h
  ·rw [decDigits, dif_neg h1, eE (F_ (lU _))]
   by_cases h2 : u / 10 < 10
   ·rw [decDigits, dif_pos h2]
    intro e
    have h3 := c_ UInt8.toNat e
    simp only [List.getD_cons_zero] at h3
    rw [jP h2] at h3
    have : (48 : UInt8).toNat = 48 := rfl
    omega
   ·refine ih (u / 10) (by omega) ?_
    rw [decDigits_length, nDigits_big h2]
    have := nDigits_pos (u / 10 / 10)
    omega
theorem oC (u) (h : u ≤ 9223372036854775807) : (decDigits u).length ≤ 19 := by
 rw [decDigits_length]
 apply Nat.le_of_not_lt
 intro hlt
 have key : ∀ k v, k < nDigits v → 10 ^ k ≤ v ∨ k = 0 := by
  intro k
  induction k with
  | zero => intro v _; exact .inr rfl
  | succ k ih =>
   intro v hv
   by_cases h1 : v < 10
   ·rw [nDigits_small h1] at hv; omega
   ·rw [nDigits_big h1] at hv
    left
    rcases ih (v / 10) (by omega) with h2 | h2
    ·rw [Nat.pow_succ]; omega
    ·subst h2; simp; omega
 rcases key 19 u hlt with h2 | h2
 ·have : (10 : Nat) ^ 19 = 10000000000000000000 := by decide
  omega
 ·omega
theorem p6 {n r} (h0 : 0 ≤ n) (h1 : n ≤ 9223372036854775807) (hr : cF r) : bC (itoa n ++ r) = (⟨2, ⟨(itoa n).toArray⟩, n, 0⟩, ((itoa n).length : Int), 0) := by
 have hi : itoa n = decDigits n.toNat := by unfold itoa; rw [K_ (by omega)]
 rw [hi]
 obtain ⟨w, hwd⟩ := nm_ (decDigits n.toNat)
 have hdig := gD n.toNat
 have hnum := yQ n.toNat
 have hne := lU n.toNat
 have hfst := ux n.toNat
 have hlen := oC n.toNat (by omega)
 rw [hwd] at hdig hnum hne hfst hlen ⊢
 have hasc : ∀ b, b ∈ w → b.toNat < 128 := fun b hb => by have := hdig b hb; omega
 have hru := ig w hasc
 have hisw : ∀ x, x ∈ ai w → lf x.1 = true := fun x hx => by
  rw [hru, List.mem_map] at hx
  obtain ⟨b, hb, rfl⟩ := hx
  have := hdig b hb
  unfold lf
  rw [el this.1 this.2]
  rfl
 have hv := cQ hasc
 have hn := lT hv hisw hr
 obtain ⟨c, t, rfl⟩ : ∃ c t, w = c :: t := m_ hne
 have hc := hdig c (by simp)
 have hdec : decodeL (c :: t ++ r) = (c.toNat, 1) := decodeL_ascii c (t ++ r) (by omega)
 have hsz : (⟨(c :: t).toArray⟩ : ByteArray).size = (c :: t).length := by rw [← iI]
 have hB : hH ⟨(c :: t).toArray⟩ = (n, true) := by
  unfold hH
  rw [hsz, K_ (by
   rintro (h | h | ⟨h, h'⟩)
   ·simp at h
   ·omega
   ·exact hfst h h')]
  show rb (iT 0 (ai (c :: t))) = _
  rw [hru, hnum]
  unfold rb
  simp only
  rw [K_ (by omega)]
  simp only [Prod.mk.injEq, and_true]
  omega
 unfold bC
 simp only
 rw [hdec]
 simp only
 rw [hn, jO, el hc.1 hc.2, K_ (by decide), M_ rfl, hB, M_ rfl]
theorem fV {c r} (hc : cO c.toNat = 4) (ha : c.toNat < 128) (hr : r.getD 0 0 ≠ 61) : bC (c :: r) = (⟨4, ⟨#[c]⟩, 0, 0⟩, 1, 0) := by
 unfold bC
 simp only
 rw [decodeL_ascii c r ha]
 simp only
 rw [hc, K_ (by decide), K_ (by decide), K_ (by decide), M_ rfl, K_ (by
  rintro ⟨_, h, _⟩
  exact hr h)]
 rfl
theorem rD {c r} (hc : c = 60 ∨ c = 62 ∨ c = 61 ∨ c = 33) : bC (c :: 61 :: r) = (⟨4, ⟨#[c, 61]⟩, 0, 0⟩, 2, 0) := by
 have h4 : cO c.toNat = 4 := by rcases hc with rfl | rfl | rfl | rfl <;> rfl
 have ha : c.toNat < 128 := by rcases hc with rfl | rfl | rfl | rfl <;> decide
 have hi : 0 ≤ indexByte [60, 62, 61, 33, 58] c := by rcases hc with rfl | rfl | rfl | rfl <;> decide
 unfold bC
 simp only
 rw [decodeL_ascii c (61 :: r) ha]
 simp only
 rw [h4, K_ (by decide), K_ (by decide), K_ (by decide), M_ rfl, M_ ⟨by simp, rfl, hi⟩]
 rfl
end Go.Proofs.YtgcfjkfipkfijaaGreatDoor
namespace Go.Proofs.YtgcfjkfipkfijaaGreatDoor
open Go Go.RowKit Go.Lib Tryz
structure gY (s : List UInt8) (n : Nat) (D : List aZ → Prop) : Prop where
 len : n ≤ s.length
 ne : s.getD 0 0 ≠ 61
 vd : Vd s
 lex : ∀ (r : List UInt8), cF r → ∀ (f : Nat) (a : Int) (out : List aZ), out.length + n ≤ 2000 → ∃ ts a', ts.length = n ∧ D ts ∧ eN (f + n) (s ++ r) a out = eN f r a' (out ++ ts)
theorem gY.imp {s n D D'} (h : gY s n D) (hd : ∀ ts, D ts → D' ts) : gY s n D' :=
 ⟨h.len, h.ne, h.vd, fun r hr f a out ho => by
  obtain ⟨ts, a', h1, h2, h3⟩ := h.lex r hr f a out ho
  exact ⟨ts, a', h1, hd ts h2, h3⟩⟩
theorem tm {s t D} (hs : s ≠ []) (hn : s.getD 0 0 ≠ 61) (hv : Vd s) (hk : ∀ r, cY (s ++ r) = 0) (ht : ∀ r, cF r → bC (s ++ r) = (t, (s.length : Int), 0)) (hd : ∀ a, D [{ t with at_ := a }]) : gY s 1 D := by
 refine ⟨F_ hs, hn, hv, fun r hr f a out ho => ⟨[{ t with at_ := a }], a + (ai s).length, rfl, hd a, ?_⟩⟩
 have h := ht r hr
 rw [pW (by simp [hs]) (hk r) (by omega) (by rw [h]), h]
 simp only [Int.toNat_natCast]
 rw [jO, List.drop_left]
theorem cm {c t} (h1 : cO c.toNat ≠ 1) (h6 : cO c.toNat ≠ 6) : cY (c :: t) = 0 := by
 simp only [cY]
 rw [K_ h1, K_ h6]
theorem jQ {m n e ts} (h1 : 1 ≤ m) (h : fL n e ts) (hm : m ≤ n) (h6 : n ≤ 6) : fL m e ts := by
 obtain ⟨k, hk⟩ : ∃ k, n = m + k := ⟨n - m, by omega⟩
 subst hk
 induction k with
 | zero => exact h
 | succ k ih => exact ih (.up (by omega) (by omega) h) (by omega) (by omega)
theorem wJ {x} (h : lf x = true) : cO (x : Int) ≠ 1 ∧ cO (x : Int) ≠ 6 := by
 unfold lf at h
 rw [Bool.or_eq_true, beq_iff_eq, beq_iff_eq] at h
 rcases h with h | h <;> rw [h] <;> decide
theorem kv {s c t} (he : s = c :: t) (hw : lf (decodeL s).1 = true) : cO c.toNat ≠ 1 ∧ cO c.toNat ≠ 6 ∧ c ≠ 61 := by
 by_cases hc : c.toNat < 128
 ·rw [he, decodeL_ascii c t hc] at hw
  have h := wJ hw
  refine ⟨h.1, h.2, fun e => ?_⟩
  subst e
  exact absurd hw (by decide)
 ·have h0 : ∀ x : Int, 128 ≤ x → x ≤ 255 → cO x ≠ 1 ∧ cO x ≠ 6 := by
   intro x h1 h2
   unfold cO
   rw [K_ (by omega), K_ (by omega)]
   by_cases h3 : 192 ≤ x ∧ x ≤ 591 ∧ x ≠ 215 ∧ x ≠ 247
   ·rw [M_ h3]; decide
   ·rw [K_ h3, K_ (by omega), K_ (by omega), K_ (by omega), K_ (by omega)]; decide
  have h255 : c.toNat ≤ 255 := by have := c.toNat_lt; omega
  have h := h0 c.toNat (by omega) (by omega)
  refine ⟨h.1, h.2, fun e => ?_⟩
  subst e
  exact hc (by decide)
theorem wK {s} (h : cg s = true) : gY s.data.toList 1 (fL 6 (.mk 1 0 s [])) := by
 obtain ⟨hv, hw, hne, _, _⟩ := ij h
 have hmem : decodeL s.data.toList ∈ ai s.data.toList := by rw [aV _ hne]; simp
 obtain ⟨c, t, hct⟩ := m_ hne
 have hf := kv hct (hw _ hmem)
 refine tm hne (by rw [hct]; exact hf.2.2) hv (fun r => by rw [hct]; exact cm hf.1 hf.2.1) (fun r hr => nC h hr) (fun a => fL.name (t := ⟨1, s, 0, a⟩) rfl)
theorem yR {n} (h0 : 0 ≤ n) (h1 : n ≤ 9223372036854775807) : gY (itoa n) 1 (fL 6 (.mk 0 n ⟨#[]⟩ [])) := by
 have hi : itoa n = decDigits n.toNat := by unfold itoa; rw [K_ (by omega)]
 have hdig : ∀ b, b ∈ itoa n → 48 ≤ b.toNat ∧ b.toNat ≤ 57 := by rw [hi]; exact gD _
 have hne : itoa n ≠ [] := by rw [hi]; exact lU _
 obtain ⟨c, t, hct⟩ := m_ hne
 have hc := hdig c (by rw [hct]; simp)
 have h3 := el hc.1 hc.2
 refine tm hne (by rw [hct]; rintro rfl; exact absurd hc (by decide)) (cQ (fun b hb => by have := hdig b hb; omega)) (fun r => by rw [hct]; exact cm (by rw [h3]; decide) (by rw [h3]; decide)) (fun r hr => p6 h0 h1 hr) (fun a => fL.num (t := ⟨2, ⟨(itoa n).toArray⟩, n, a⟩) rfl)
theorem fW {f s r t a out} (hs : s ≠ []) (hk : cY (s ++ r) = 0) (ho : out.length ≠ 2000) (ht : bC (s ++ r) = (t, (s.length : Int), 0)) :
  eN (f + 1) (s ++ r) a out = eN f r (a + (ai s).length) (out ++ [{ t with at_ := a }]) := by
 rw [pW (by simp [hs]) hk ho (by rw [ht]), ht]
 simp only [Int.toNat_natCast]
 rw [jO, List.drop_left]
theorem rE (r) : cF ([41] ++ r) := .inr ⟨41, r, rfl, .inr (.inl rfl)⟩
theorem lV {r} (h : cF r) : r.getD 0 0 ≠ 61 := by
 rcases h with rfl | ⟨c, t, rfl, h⟩
 ·decide
 ·rcases h with rfl | rfl | rfl | rfl | rfl | rfl <;> (simp)
theorem yS {s n e} (h1 : gY s n (fL 1 e)) : gY ([40] ++ s ++ [41]) (n + 2) (fL 6 e) := by
 refine ⟨by have := h1.len; simp; omega, by simp, ie (ie (cQ (by simp)) h1.vd) (cQ (by simp)), fun r hr f a out ho => ?_⟩
 have e1 : [40] ++ s ++ [41] ++ r = [40] ++ (s ++ ([41] ++ r)) := by simp
 have hs0 : (s ++ ([41] ++ r)).getD 0 0 ≠ 61 := by
  by_cases hs : s = []
  ·subst hs; simp
  ·rw [eE (F_ hs)]; exact h1.ne
 have h2 : eN (f + 1 + n + 1) ([40] ++ (s ++ ([41] ++ r))) a out = _ := fW (f := f + 1 + n) (t := ⟨4, ⟨#[40]⟩, 0, 0⟩) (by simp) (cm (by decide) (by decide)) (by omega) (fV rfl (by decide) hs0)
 obtain ⟨ts, a', h3, h4, h5⟩ := h1.lex ([41] ++ r) (rE r) (f + 1) (a + (ai [40]).length) (out ++ [⟨4, ⟨#[40]⟩, 0, a⟩]) (by simp; omega)
 have h6 : eN (f + 1) ([41] ++ r) a' (out ++ [⟨4, ⟨#[40]⟩, 0, a⟩] ++ ts) = _ := fW (t := ⟨4, ⟨#[41]⟩, 0, 0⟩) (by simp) (cm (by decide) (by decide)) (by simp [h3]; omega) (fV rfl (by decide) (lV hr))
 refine ⟨⟨4, ⟨#[40]⟩, 0, a⟩ :: (ts ++ [⟨4, ⟨#[41]⟩, 0, a'⟩]), a' + (ai [41]).length, by simp [h3], fL.par rfl rfl h4, ?_⟩
 rw [e1, show f + (n + 2) = f + 1 + n + 1 by omega, h2, h5, h6]
 simp
theorem zY {s n e op} (ho : op = 2 ∨ op = 3) (h : gY s n (fL 6 e)) : gY ((aT op).data.toList ++ s) (n + 1) (fL 6 (dp op e)) := by
 obtain ⟨c, hc, hcl, hca, hcs⟩ : ∃ c, (aT op).data.toList = [c] ∧ cO (c : UInt8).toNat = 4 ∧ c.toNat < 128 ∧ aT op = ⟨#[c]⟩ ∧ c ≠ 61 := by
  rcases ho with rfl | rfl
  ·exact ⟨45, rfl, rfl, by decide, rfl, by decide⟩
  ·exact ⟨33, rfl, rfl, by decide, rfl, by decide⟩
 rw [hc]
 refine ⟨by have := h.len; simp; omega, by simpa using hcs.2, ie (cQ (by simpa using hca)) h.vd, fun r hr f a out hout => ?_⟩
 have hs0 : (s ++ r).getD 0 0 ≠ 61 := by
  by_cases hs : s = []
  ·subst hs; exact lV hr
  ·rw [eE (F_ hs)]; exact h.ne
 have e1 : [c] ++ s ++ r = [c] ++ (s ++ r) := by simp
 have h2 : eN (f + (n + 1)) ([c] ++ (s ++ r)) a out = _ := fW (f := f + n) (t := ⟨4, ⟨#[c]⟩, 0, 0⟩) (by simp) (cm (by rw [hcl]; decide) (by rw [hcl]; decide)) (by omega) (fV hcl hca hs0)
 obtain ⟨ts, a', h3, h4, h5⟩ := h.lex r hr f (a + (ai [c]).length) (out ++ [⟨4, ⟨#[c]⟩, 0, a⟩]) (by simp; omega)
 refine ⟨⟨4, ⟨#[c]⟩, 0, a⟩ :: ts, a', by simp [h3], fL.un ho ⟨rfl, by rw [hcs.1]; exact aQ.2 rfl⟩ h4, ?_⟩
 rw [e1, h2, h5]
 simp
theorem wL {op} (h4 : 4 ≤ op) (h16 : op ≤ 16) (f r a out) (ho : out.length ≠ 2000) :
  ∃ t a', nt op t ∧ eN (f + 1) ([32] ++ (aT op).data.toList ++ [32] ++ r) a out = eN f r a' (out ++ [t]) := by
 have e1 : [32] ++ (aT op).data.toList ++ [32] ++ r = 32 :: ((aT op).data.toList ++ (32 :: r)) := by simp
 have key : ∀ (s : List UInt8) (x : ByteArray), s ≠ [] → cY (s ++ (32 :: r)) = 0 → bC (s ++ (32 :: r)) = (⟨4, x, 0, 0⟩, (s.length : Int), 0) → (aT op).data.toList = s → aT op = x →
   ∃ t a', nt op t ∧ eN (f + 1) (32 :: ((aT op).data.toList ++ (32 :: r))) a out = eN f r a' (out ++ [t]) := by
  intro s x hs hk ht he hx
  refine ⟨⟨4, x, 0, a + 1⟩, a + 1 + (ai s).length + 1, ⟨rfl, by rw [hx]; exact aQ.2 rfl⟩, ?_⟩
  rw [jg (.inl rfl), he, fW hs hk ho ht, jg (.inl rfl)]
 rw [e1]
 have hop : op = 4 ∨ op = 5 ∨ op = 6 ∨ op = 7 ∨ op = 8 ∨ op = 9 ∨ op = 10 ∨ op = 11 ∨ op = 12 ∨ op = 13 ∨ op = 14 ∨ op = 15 ∨ op = 16 := by omega
 have k1 : ∀ c : UInt8, cO c.toNat = 4 → c.toNat < 128 → (aT op).data.toList = [c] → aT op = ⟨#[c]⟩ → ∃ t a', nt op t ∧ eN (f + 1) (32 :: ((aT op).data.toList ++ (32 :: r))) a out = eN f r a' (out ++ [t]) := fun c hc ha he hx =>
  key [c] ⟨#[c]⟩ (by simp) (cm (by rw [hc]; decide) (by rw [hc]; decide)) (fV hc ha (by simp)) he hx
 have k2 : ∀ c : UInt8, (c = 60 ∨ c = 62 ∨ c = 61 ∨ c = 33) → (aT op).data.toList = [c, 61] → aT op = ⟨#[c, 61]⟩ → ∃ t a', nt op t ∧ eN (f + 1) (32 :: ((aT op).data.toList ++ (32 :: r))) a out = eN f r a' (out ++ [t]) := fun c hc he hx =>
  key [c, 61] ⟨#[c, 61]⟩ (by simp) (cm (by rcases hc with rfl | rfl | rfl | rfl <;> decide) (by rcases hc with rfl | rfl | rfl | rfl <;> decide)) (rD hc) he hx
 rcases hop with rfl | rfl | rfl | rfl | rfl | rfl | rfl | rfl | rfl | rfl | rfl | rfl | rfl
 ·exact k1 43 rfl (by decide) rfl rfl
 ·exact k1 45 rfl (by decide) rfl rfl
 ·exact k1 42 rfl (by decide) rfl rfl
 ·exact k1 47 rfl (by decide) rfl rfl
 ·exact k1 37 rfl (by decide) rfl rfl
 ·exact k1 60 rfl (by decide) rfl rfl
 ·exact k2 60 (by decide) rfl rfl
 ·exact k1 62 rfl (by decide) rfl rfl
 ·exact k2 62 (by decide) rfl rfl
 ·exact k2 61 (by decide) rfl rfl
 ·exact k2 33 (by decide) rfl rfl
 ·exact k1 38 rfl (by decide) rfl rfl
 ·exact k1 124 rfl (by decide) rfl rfl
theorem rF (op) : ∀ b, b ∈ (aT op).data.toList → b.toNat < 128 := by
 have h : ∀ l : List UInt8, (bytes l).data.toList = l := fun l => by simp [bytes]
 have hi : ∀ (p : Prop) [Decidable p] (x y : List UInt8), (∀ b, b ∈ x → b.toNat < 128) → (∀ b, b ∈ y → b.toNat < 128) → ∀ b, b ∈ (if p then x else y) → b.toNat < 128 := fun p _ x y hx hy => by split <;> assumption
 unfold aT
 rw [h]
 repeat' (apply hi)
 all_goals decide
theorem tq {s s2 n n2 op D D2 D3} (h4 : 4 ≤ op) (h16 : op ≤ 16) (h : gY s n D) (h2 : gY s2 n2 D2) (hd : ∀ ts t us, D ts → nt op t → D2 us → D3 (ts ++ t :: us)) (hne : s ≠ []) : gY (s ++ [32] ++ (aT op).data.toList ++ [32] ++ s2) (n + 1 + n2) D3 := by
 refine ⟨?_, ?_, ?_, fun r hr f a out ho => ?_⟩
 ·have a1 := h.len
  have a2 := h2.len
  simp only [O_, P_, b_]
  omega
 ·rw [o_, o_, o_, eE (F_ hne)]
  exact h.ne
 ·exact ie (ie (ie (ie h.vd (cQ (by simp))) (cQ (rF op))) (cQ (by simp))) h2.vd
 ·have e1 : s ++ [32] ++ (aT op).data.toList ++ [32] ++ s2 ++ r = s ++ ([32] ++ (aT op).data.toList ++ [32] ++ (s2 ++ r)) := by simp
  obtain ⟨ts, a1, g1, g2, g3⟩ := h.lex ([32] ++ (aT op).data.toList ++ [32] ++ (s2 ++ r)) (.inr ⟨32, _, rfl, .inl rfl⟩) (f + n2 + 1) a out (by omega)
  obtain ⟨t, a2, g4, g5⟩ := wL h4 h16 (f + n2) (s2 ++ r) a1 (out ++ ts) (by rw [O_]; omega)
  obtain ⟨us, a3, g6, g7, g8⟩ := h2.lex r hr f a2 (out ++ ts ++ [t]) (by simp only [O_, P_, b_]; omega)
  refine ⟨ts ++ t :: us, a3, by simp only [O_, P_]; omega, hd _ _ _ g2 g4 g7, ?_⟩
  rw [e1, show f + (n + 1 + n2) = f + n2 + 1 + n by omega, g3, g5, g8]
  simp
theorem nD (op a) (ho : op = 2 ∨ op = 3) : au (dp op a) = (aT op).data.toList ++ fS (ag op a.op 0) (au a) := by
 unfold dp
 rw [au.eq_def]
 simp only
 rw [K_ (by omega), K_ (by omega)]
theorem nE (op a b) (h4 : 4 ≤ op) : au (cA op a b) = fS (ag op a.op 0) (au a) ++ [32] ++ (aT op).data.toList ++ [32] ++ fS (ag op b.op 1) (au b) := by
 unfold cA
 rw [au.eq_def]
 simp only
 rw [K_ (by omega), K_ (by omega)]
theorem jR {e : Ex} {m : Nat} {b : Bool} (h : gY (au e) (ej e) (fL (aH e.op).toNat e)) (h1 : 1 ≤ m) (h6 : m ≤ 6) (hb : b = false → (m : Int) ≤ aH e.op) : gY (fS b (au e)) (ej e + wr b) (fL m e) := by
 have g1 := oz e.op
 have g6 := oA e.op
 cases b with
 | true => exact (yS (h.imp fun ts ht => jQ (by decide) ht (by omega) (by omega))).imp fun ts ht => jQ h1 ht h6 (by decide)
 | false => exact h.imp fun ts ht => jQ h1 ht (by have := hb rfl; omega) (by omega)
theorem wM {b l} (h : l ≠ []) : fS b l ≠ [] := by
 cases b
 ·exact h
 ·simp [fS]
theorem wN {e} (h : ic e) (hk : ch e) : gY (au e) (ej e) (fL (aH e.op).toNat e) := by
 induction h with
 | @num n h0 =>
  rw [show au (.mk 0 n ⟨#[]⟩ []) = itoa n by rw [au.eq_def]; exact rfl]
  exact yR h0 hk.n.2
 | @name s h0 =>
  rw [show au (.mk 1 0 s []) = s.data.toList by rw [au.eq_def]; exact rfl]
  exact wK h0
 | @un op a ho _ ih =>
  have ha := ih (hk.kids a (by simp [dp, Ex.kids]))
  rw [nD op a ho, jK, Nat.add_comm 1]
  have hl : aH op = 6 := by rcases ho with rfl | rfl <;> rfl
  show gY _ _ (fL (aH op).toNat (dp op a))
  rw [hl]
  refine zY ho (jR ha (by decide) (by decide) (fun hb => ?_))
  unfold ag at hb
  rw [hl] at hb
  have := oA a.op
  simp at hb
  omega
 | @bin op a b h4 h16 _ _ iha ihb =>
  have ha := iha (hk.kids a (by simp [cA, Ex.kids]))
  have hb := ihb (hk.kids b (by simp [cA, Ex.kids]))
  rw [nE op a b h4, iH]
  show gY _ _ (fL (aH op).toNat (cA op a b))
  obtain ⟨n, hn⟩ : ∃ n : Nat, aH op = n := ⟨(aH op).toNat, by have := oz op; omega⟩
  have hlo := ta op n h4 h16 hn
  have hle : (au a) ≠ [] := by
   intro e
   have g1 := ha.len
   have g2 := jJ a
   rw [e] at g1
   simp at g1
   omega
  rw [hn, Int.toNat_natCast, show 1 + (ej a + wr (ag op a.op 0)) + (ej b + wr (ag op b.op 1)) = (ej a + wr (ag op a.op 0)) + 1 + (ej b + wr (ag op b.op 1)) by omega]
  by_cases h3 : n = 3
  ·subst h3
   have h9 := hlo.1
   have h14 := hlo.2.1
   refine tq h4 h16 (jR (m := 4) ha (by decide) (by decide) (fun hw => ?_)) (jR (m := 4) hb (by decide) (by decide) (fun hw => ?_)) (fun ts t us d1 d2 d3 => .cmp h9 h14 d2 d1 d3) (wM hle)
   ·unfold ag at hw
    rw [hn] at hw
    simp at hw
    omega
   ·unfold ag at hw
    rw [hn] at hw
    simp at hw
    omega
  ·refine tq h4 h16 (jR (m := n) ha (by omega) (by omega) (fun hw => ?_)) (jR (m := n + 1) hb (by omega) (by omega) (fun hw => ?_)) (fun ts t us d1 d2 d3 => .bin h4 h16 hn h3 d2 d1 d3) (wM hle)
   ·unfold ag at hw
    rw [hn] at hw
    simp at hw
    omega
   ·unfold ag at hw
    rw [hn] at hw
    simp at hw
    omega
end Go.Proofs.YtgcfjkfipkfijaaGreatDoor
namespace Go.Proofs.YtgcfjkfipkfijaaGreatDoor
open Go Go.RowKit Go.Lib Tryz
theorem oD (l) : (decodeL l).2 ≤ 4 := by
 rw [decodeL_N]
 rcases decodeN_shape l.length (l.getD 0 0).toNat (l.getD 1 0).toNat (l.getD 2 0).toNat (l.getD 3 0).toNat with ⟨c, e⟩ | ⟨c1, c2, c3, cv, e⟩ | ⟨c1, c2, c3, c4, cv, cs, e⟩ | ⟨c1, c2, c3, c4, c5, cv, cw, e⟩ | e
 all_goals
  rw [e]
  simp only
  omega
theorem rG : ∀ (n : Nat) (w : List UInt8), w.length ≤ n → w.length ≤ 4 * (ai w).length := by
 intro n
 induction n with
 | zero => intro w h; omega
 | succ n ih =>
  intro w h
  by_cases hw : w = []
  ·subst hw; exact H_ _
  ·have h0 : 0 < w.length := F_ hw
   have h1 := decodeL_width w
   have h4 := oD w
   have := ih (w.drop (decodeL w).2) (by rw [Q_]; omega)
   rw [aV w hw, P_]
   rw [Q_] at this
   omega
theorem jS {s} (h : cg s = true) : s.data.toList.length ≤ 48 := by
 have h1 := rG _ s.data.toList le_
 have h2 := (ij h).2.2.2.2
 omega
theorem rH {e} (h : ic e) (hk : ch e) : (au e).length + 3 ≤ 51 * ej e := by
 induction h with
 | @num n h0 =>
  rw [show au (.mk 0 n ⟨#[]⟩ []) = itoa n by rw [au.eq_def]; exact rfl, show itoa n = decDigits n.toNat by unfold itoa; rw [K_ (by omega)]]
  have h1 : n ≤ 9223372036854775807 := hk.n.2
  have := oC n.toNat (by omega)
  rw [ej]
  omega
 | @name s h0 =>
  rw [show au (.mk 1 0 s []) = s.data.toList by rw [au.eq_def]; exact rfl]
  have := jS h0
  rw [ej]
  omega
 | @un op a ho _ ih =>
  have ha := ih (hk.kids a (by simp [dp, Ex.kids]))
  have hs := fT op
  rw [nD op a ho, jK, O_, dm]
  unfold wr
  omega
 | @bin op a b h4 h16 _ _ iha ihb =>
  have ha := iha (hk.kids a (by simp [cA, Ex.kids]))
  have hb := ihb (hk.kids b (by simp [cA, Ex.kids]))
  have hs := fT op
  rw [nE op a b h4, iH]
  simp only [O_, dm, P_, b_]
  unfold wr
  omega
theorem rI (l) : (str l).size = l.length := by rw [← iI, jM]
theorem uy (ts us : List aZ) (j : Nat) (h : j < ts.length) : ah (ts ++ us) j = ts[j] := by
 unfold ah
 rw [K_ (by simp; omega), Int.toNat_natCast]
 simp [List.getD, List.getElem?_append_left h, h]
theorem uz (ts t) : ah (ts ++ [t]) (ts.length : Int) = t := by
 unfold ah
 rw [K_ (by simp; omega), Int.toNat_natCast]
 simp
def eP (t : aZ) : Prop := t.kind ≠ 0 ∧ zI t ∧ gu t.n
theorem lW {t k} (hk : t.kind = k) (h0 : k ≠ 0) (h1 : k ≠ 1) (h2 : k ≠ 2) (hz : gu t.n) : eP t := ⟨by omega, ⟨fun h => by omega, fun h => by omega⟩, hz⟩
theorem uB {t} (hk : t.kind = 1) (h : cg t.text = true) (hz : gu t.n) : eP t := ⟨by omega, ⟨fun h => by omega, fun _ => h⟩, hz⟩
theorem wO {t} (hk : t.kind = 2) (h : 0 ≤ t.n ∧ t.n ≤ 9223372036854775807) : eP t := ⟨by omega, ⟨fun _ => h.1, fun h => by omega⟩, by omega, h.2⟩
theorem nF {x} (h : lf x.1 = true) : x ≠ (65533, 1) := fun e => by
 rw [e] at h
 exact absurd h (by decide)
theorem oE {n m b0 b1 b2 b3 c1 c2 c3} (hw : (decodeN n b0 b1 b2 b3).2 ≤ m) (h1 : 1 < m → c1 = b1) (h2 : 2 < m → c2 = b2) (h3 : 3 < m → c3 = b3) (hv : decodeN n b0 b1 b2 b3 ≠ (65533, 1)) : decodeN m b0 c1 c2 c3 = decodeN n b0 b1 b2 b3 := by
 rcases decodeN_shape n b0 b1 b2 b3 with ⟨c, e⟩ | ⟨c1', c2', c3', cv, e⟩ | ⟨c1', c2', c3', c4', cv, cs, e⟩ | ⟨c1', c2', c3', c4', c5', cv, cw, e⟩ | e
 ·rw [e]; unfold decodeN; rw [M_ c]
 ·rw [e] at hw
  simp only at hw
  obtain rfl := h1 (by omega)
  rw [e]; unfold decodeN; rw [K_ (by omega), M_ ⟨c1', by omega, c3'⟩, M_ (by omega)]
 ·rw [e] at hw
  simp only at hw
  obtain rfl := h1 (by omega)
  obtain rfl := h2 (by omega)
  rw [e]; unfold decodeN; rw [K_ (by omega), K_ (by omega), M_ ⟨c1', ⟨by omega, c3'⟩, by omega, c4'⟩, M_ (by omega)]
 ·rw [e] at hw
  simp only at hw
  obtain rfl := h1 (by omega)
  obtain rfl := h2 (by omega)
  obtain rfl := h3 (by omega)
  rw [e]; unfold decodeN; rw [K_ (by omega), K_ (by omega), K_ (by omega), M_ ⟨c1', ⟨by omega, c3'⟩, ⟨by omega, c4'⟩, by omega, c5'⟩, M_ (by omega)]
 ·exact absurd e hv
theorem fX {l : List UInt8} {m i : Nat} (h : i < m) : (l.take m).getD i 0 = l.getD i 0 := by
 simp [List.getD, List.getElem?_take_of_lt h]
theorem oF {l m} (hm : m ≤ l.length) (hw : (decodeL l).2 ≤ m) (hv : decodeL l ≠ (65533, 1)) : decodeL (l.take m) = decodeL l := by
 have h1 := decodeL_width l
 rw [decodeL_N] at hv hw
 rw [decodeL_N, decodeL_N, fX (by have := decodeL_width l; rw [decodeL_N] at this; omega), k_, Nat.min_eq_left hm]
 exact oE hw (fun h => by rw [fX h]) (fun h => by rw [fX h]) (fun h => by rw [fX h]) hv
theorem rJ : ∀ (n : Nat) (l : List UInt8), l.length ≤ n → ∀ x, x ∈ ai (l.take (bI (ai l))) → lf x.1 = true := by
 intro n
 induction n with
 | zero => intro l h x hx; rw [X_ (by omega : l.length = 0)] at hx; simp [d9] at hx
 | succ n ih =>
  intro l h x hx
  by_cases hl : l = []
  ·subst hl; simp [d9] at hx
  ·have h0 : 0 < l.length := F_ hl
   have h1 := decodeL_width l
   have hle := decodeL_le l hl
   rw [aV l hl, bI] at hx
   by_cases hw : lf (decodeL l).1 = true
   ·rw [M_ hw] at hx
    have hv := nF hw
    have hwl := kh _ (l.drop (decodeL l).2) le_
    rw [Q_] at hwl
    have hd := oF (l := l) (m := (decodeL l).2 + bI (ai (l.drop (decodeL l).2))) (by omega) (by omega) hv
    rw [aV _ (by intro e; have := c_ List.length e; rw [k_, b_] at this; omega), hd, List.mem_cons, List.drop_take, Nat.add_sub_cancel_left] at hx
    rcases hx with rfl | hx
    ·exact hw
    ·exact ih _ (by rw [Q_]; omega) x hx
   ·rw [K_ hw] at hx
    simp [d9] at hx
theorem uC {l} (hl : l ≠ []) (h : (bC l).2.2 = 0) : eP (bC l).1 := by
 have h0 : 0 < l.length := F_ hl
 have hz : gu 0 := ⟨by decide, by decide⟩
 have hn0 : ∀ s : ByteArray, 0 ≤ (hH s).1 ∧ (hH s).1 ≤ 9223372036854775807 := by
  intro s
  unfold hH
  split
  ·exact ⟨by decide, by decide⟩
  ·unfold rb
   split
   ·exact ⟨by decide, by decide⟩
   ·split
    ·exact ⟨by decide, by decide⟩
    ·constructor <;> simp only <;> omega
 have hbytes : ∀ w : List UInt8, (⟨w.toArray⟩ : ByteArray).data.toList = w := fun w => by simp
 unfold bC at h ⊢
 simp only at h ⊢
 by_cases h2 : cO (decodeL l).1 = 2
 ·rw [M_ h2] at h ⊢
  by_cases h12 : 12 < (ai (l.take (bI (ai l)))).length
  ·rw [M_ h12] at h; simp at h
  ·rw [K_ h12]
   refine uB rfl ?_ hz
   have hw := rJ _ l le_
   have hpos := kj hl (.inl h2)
   have hle := kh _ l le_
   show cg ⟨(l.take (bI (ai l))).toArray⟩ = true
   unfold cg fC dR
   rw [hbytes, gq]
   simp only [a_, Bool.or_eq_true, decide_eq_true_eq, List.all_eq_true]
   refine ⟨⟨⟨fun x hx => ?_, hw, ?_⟩, ?_⟩, by omega⟩
   ·have := nF (hw x hx)
    simpa using this
   ·rw [← iI, hbytes, k_]
    omega
   ·rw [fX (by omega)]
    by_cases hd : (l.getD 0 0).toNat < 48 ∨ 57 < (l.getD 0 0).toNat
    ·exact hd
    ·exfalso
     obtain ⟨c, t, rfl⟩ := m_ hl
     simp only [List.getD_cons_zero] at hd
     rw [decodeL_ascii c t (by omega)] at h2
     simp only at h2
     rw [el (by omega) (by omega)] at h2
     exact absurd h2 (by decide)
 ·rw [K_ h2] at h ⊢
  by_cases h3 : cO (decodeL l).1 = 3
  ·rw [M_ h3] at h ⊢
   cases hb : (hH ⟨(l.take (bI (ai l))).toArray⟩).2 with
   | false => rw [hb] at h; simp at h
   | true =>
    exact wO rfl (hn0 ⟨(l.take (bI (ai l))).toArray⟩)
  ·rw [K_ h3] at h ⊢
   by_cases h5 : cO (decodeL l).1 = 5
   ·rw [M_ h5] at h ⊢
    unfold hQ at h ⊢
    simp only at h ⊢
    by_cases c1 : (cut (cut (l.drop 1) [10]).1 [34]).2.2 = false
    ·rw [M_ c1] at h; simp at h
    ·rw [K_ c1] at h ⊢
     split at h
     ·simp at h
     ·rename_i c2
      rw [K_ c2]
      split at h
      ·simp at h
      ·rename_i c3
       rw [K_ c3]
       exact lW (k := 3) rfl (by decide) (by decide) (by decide) hz
   ·rw [K_ h5] at h ⊢
    by_cases h4 : cO (decodeL l).1 = 4
    ·rw [M_ h4]
     exact lW (k := 4) rfl (by decide) (by decide) (by decide) hz
    ·rw [K_ h4] at h
     simp at h
theorem kx : ∀ (f : Nat) (l : List UInt8) (a : Int) (out : List aZ), l.length < f → (dS f l a out).2.1 = 0 →
  ∃ ks a', (dS f l a out).1 = out ++ ks ++ [⟨0, ⟨#[]⟩, 0, a'⟩] ∧ (dS f l a out).2.2 = 0 ∧ ∀ t, t ∈ ks → eP t
 | 0, _, _, _, h, _ => by omega
 | f + 1, l, a, out, h, he => by
  rw [dS] at he ⊢
  by_cases hl : l = []
  ·rw [M_ hl]
   exact ⟨[], a, by simp, rfl, fun t ht => by simp at ht⟩
  ·rw [K_ hl] at he ⊢
   simp only at he ⊢
   by_cases h2 : (if out.length = 2000 then (2 : Int) else (bC l).2.2) = 0
   ·rw [K_ (by simpa using h2)] at he ⊢
    have h3 : (bC l).2.2 = 0 := by
     by_cases ho : out.length = 2000
     ·rw [M_ ho] at h2; omega
     ·rw [K_ ho] at h2; exact h2
    have h4 := ow hl h3
    have h5 := uC hl h3
    obtain ⟨ks, a', g1, g2, g3⟩ := kx f _ _ _ (by
     refine Nat.lt_of_le_of_lt (skipN_drop _ _ _) ?_
     rw [Q_]
     omega) he
    refine ⟨{ (bC l).1 with at_ := a } :: ks, a', by rw [g1]; simp, g2, fun t ht => ?_⟩
    rcases List.mem_cons.1 ht with rfl | ht
    ·exact h5
    ·exact g3 t ht
   ·rw [M_ h2] at he
    exact absurd he h2
where
 skipN_drop (l : List UInt8) (a : Int) (f : Nat) : (hI f l a).1.length ≤ l.length := by
  induction f generalizing l a with
  | zero => exact H_ _
  | succ f ih =>
   by_cases h : cY l = 0
   ·rw [eT h]; exact H_ _
   ·rw [ed h]
    exact d_ (ih _ _) (by simp)
theorem uD {s} (h : (cd s).2.1 = 0) : Vd s.data.toList ∧ ∃ ks a, cd s = (ks ++ [⟨0, ⟨#[]⟩, 0, a⟩], 0, 0) ∧ ∀ t, t ∈ ks → eP t := by
 unfold cd at h ⊢
 by_cases h1 : 8192 < s.size
 ·rw [M_ h1] at h; simp at h
 ·rw [K_ h1] at h ⊢
  by_cases h2 : 0 ≤ iS 0 (ai s.data.toList)
  ·rw [M_ h2] at h; simp at h
  ·rw [K_ h2] at h ⊢
   have hbad : ∀ (rs : List (Nat × Nat)) (k : Int), 0 ≤ k → iS k rs < 0 → ∀ x, x ∈ rs → x ≠ (65533, 1) := by
    intro rs
    induction rs with
    | nil => intro k _ _ x hx; simp at hx
    | cons r rs ih =>
     intro k hk hb x hx
     rw [iS] at hb
     by_cases hr : r = (65533, 1)
     ·rw [M_ hr] at hb; omega
     ·rw [K_ hr] at hb
      rcases List.mem_cons.1 hx with rfl | hx
      ·exact hr
      ·exact ih (k + 1) (by omega) hb x hx
   refine ⟨hbad _ 0 (by omega) (by omega), ?_⟩
   obtain ⟨ks, a', g1, g2, g3⟩ := kx _ _ _ _ (by
    refine Nat.lt_of_le_of_lt (kx.skipN_drop _ _ _) ?_
    have := iI s
    omega) h
   refine ⟨ks, a', ?_, g3⟩
   rw [List.nil_append] at g1
   exact Prod.ext g1 (Prod.ext h g2)
theorem wP {n e ts} (h : fL n e ts) : ∀ t, t ∈ ts → t.kind ≠ 0 := by
 induction h with
 | num hk => intro t ht; simp at ht; subst ht; omega
 | name hk => intro t ht; simp at ht; subst ht; omega
 | un _ hs _ ih =>
  intro t ht
  rcases List.mem_cons.1 ht with rfl | ht
  ·have := hs.1; omega
  ·exact ih t ht
 | @par u v _ _ hu hv _ ih =>
  intro t ht
  have hv4 : v.kind = 4 := by unfold eK at hv; rw [a_, beq_iff_eq] at hv; exact hv.1
  simp only [List.mem_cons, List.mem_append, List.not_mem_nil, or_false] at ht
  rcases ht with rfl | ht | rfl
  ·have := nv hu; omega
  ·exact ih t ht
  ·omega
 | up _ _ _ ih => exact ih
 | bin _ _ _ _ hs _ _ iha ihb =>
  intro t ht
  rw [List.mem_append, List.mem_cons] at ht
  rcases ht with ht | rfl | ht
  ·exact iha t ht
  ·have := hs.1; omega
  ·exact ihb t ht
 | cmp _ _ hs _ _ iha ihb =>
  intro t ht
  rw [List.mem_append, List.mem_cons] at ht
  rcases ht with ht | rfl | ht
  ·exact iha t ht
  ·have := hs.1; omega
  ·exact ihb t ht
theorem uE {s} (h : cg s = true) : s.size ≤ 140737488355328 := by
 have := jS h
 rw [iI] at this
 omega
theorem zZ {n e ts} (h : fL n e ts) : (∀ t, t ∈ ts → eP t) → ch e := by
 have hz : gu 0 := ⟨by decide, by decide⟩
 induction h with
 | @num t hk => intro h; exact .mk hz (h t (by simp)).2.2 (by decide) (fun k hk => by simp at hk)
 | @name t hk => intro h; exact .mk ⟨by decide, by decide⟩ hz (uE ((h t (by simp)).2.1.2 hk)) (fun k hk => by simp at hk)
 | @un op t e ts ho _ _ ih =>
  intro h
  exact .mk ⟨by omega, by omega⟩ hz (by decide) (fun k hk => by simp at hk; subst hk; exact ih (fun t ht => h t (by simp [ht])))
 | par _ _ _ ih => intro h; exact ih (fun t ht => h t (by simp [ht]))
 | up _ _ _ ih => exact ih
 | bin h4 h16 _ _ _ _ _ iha ihb =>
  intro h
  refine .mk ⟨by omega, by omega⟩ hz (by decide) (fun k hk => ?_)
  simp at hk
  rcases hk with rfl | rfl
  ·exact iha (fun t ht => h t (by simp [ht]))
  ·exact ihb (fun t ht => h t (by simp [ht]))
 | cmp h9 h14 _ _ _ iha ihb =>
  intro h
  refine .mk ⟨by omega, by omega⟩ hz (by decide) (fun k hk => ?_)
  simp at hk
  rcases hk with rfl | rfl
  ·exact iha (fun t ht => h t (by simp [ht]))
  ·exact ihb (fun t ht => h t (by simp [ht]))
end Go.Proofs.YtgcfjkfipkfijaaGreatDoor
