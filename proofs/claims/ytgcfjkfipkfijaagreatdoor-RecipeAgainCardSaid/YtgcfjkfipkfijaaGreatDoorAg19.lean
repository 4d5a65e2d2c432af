/- Part 19 of the proof of ragain_card; no conditions. -/
import Derived.Test.YtgcfjkfipkfijaaGreatDoorAg01
import Derived.Test.YtgcfjkfipkfijaaGreatDoorAg18
import Derived.Test.YtgcfjkfipkfijaaGreatDoorAg11
import Derived.Test.YtgcfjkfipkfijaaGreatDoorAg03
import Derived.Test.YtgcfjkfipkfijaaGreatDoorAg07
import Derived.Test.YtgcfjkfipkfijaaGreatDoorAg08
import Derived.Deep.DeepCutAuto
import Derived.Deep.CutBlock
import Derived.ChangeAlike
import Derived.RegionTactic
set_option maxRecDepth 100000
set_option maxHeartbeats 4000000
namespace Go.Proofs.YtgcfjkfipkfijaaGreatDoor
open Go Go.RowKit Go.Lib Tryz
def pz (x : Int) : Int := if 0 ≤ x then x else 0
theorem js {x} (h : 0 ≤ x) : pz x = x := M_ h
theorem Ae {x} (h : x < 0) : pz x = 0 := K_ (by omega)
theorem qw (x) : 0 ≤ pz x := by unfold pz; split <;> omega
def sg (a L : Int) (t : List UInt8 × Int) : Prop := (t.1.length : Int) + 8589934592 * pz t.2 ≤ a + 8589934592 * L ∧ t.2 ≤ L ∧ -1 ≤ t.2
theorem ly {a L} (ha : 0 ≤ a) (hL : 0 ≤ L) : sg a L ([], -1) := ⟨by show (0 : Int) + 8589934592 * pz (-1) ≤ _; rw [Ae (by decide)]; omega, by show (-1 : Int) ≤ L; omega, by decide⟩
theorem gL {n len nd} (hnd : ∀ k L, 0 ≤ L → sg 8589934592 L (nd k L)) : ∀ (ks : List Int) (s : List UInt8) (L : Int), 0 ≤ L → sg s.length L (cS n len nd ks s L)
 | [], s, L, hL => ⟨by show (s.length : Int) + 8589934592 * pz L ≤ _; rw [js hL]; omega, by show L ≤ L; omega, by show -1 ≤ L; omega⟩
 | k :: ks, s, L, hL => by
  rw [cS]
  by_cases hc : L - 1 < 0 ∨ k ≤ n ∨ len ≤ k
  ·rw [M_ hc]; exact ly (by omega) hL
  ·rw [K_ hc]
   have h1 := hnd k (L - 1) (by omega)
   obtain ⟨t, ht⟩ := nm_ (nd k (L - 1))
   rw [ht] at h1 ⊢
   by_cases h0 : t.2 < 0
   ·rw [M_ h0]; exact ly (by omega) hL
   ·rw [K_ h0]
    obtain ⟨a1, a2, a3⟩ := h1
    rw [js (by omega)] at a1
    obtain ⟨b1, b2, b3⟩ := gL hnd ks (s ++ t.1) t.2 (by omega)
    rw [O_] at b1
    exact ⟨by omega, by omega, b3⟩
theorem n8 {x} (h : g9 x) : (la x).length ≤ 400000 := by
 have h1 := il [44, 32] 65536 ((x.units.take 6).map dh) (fun y hy => by
  obtain ⟨u, hu, rfl⟩ := List.mem_map.1 hy
  rw [bm]
  exact h.unit u (List.mem_of_mem_take hu))
 have h2 : ((x.units.take 6).map dh).length ≤ 6 := by rw [U_]; exact List.length_take_le _ _
 have h3 := Nat.mul_le_mul_right (65536 + 2) h2
 simp only [P_, b_] at h1
 unfold la
 split
 ·decide
 ·split
  ·simp only [O_, P_, b_]; omega
  ·decide
theorem xq {l K} (hN : ∀ x, x ∈ l → g9 x) {k ind L} (hi : ind.length ≤ 1000) (hL : 0 ≤ L) (hK : ∀ k L, 0 ≤ L → sg 0 L (K k (ind ++ [32, 32]) L)) : sg 8589934592 L (u' l K k ind L) := by
 have hx := xg hN k
 unfold u'
 by_cases h3 : (bf l k).kind = 3
 ·rw [M_ h3]
  have h1 := ml (ind := ind) hx
  exact ⟨by show ((ep (bf l k) ind).length : Int) + 8589934592 * pz L ≤ _; rw [js hL]; omega, by show L ≤ L; omega, by show -1 ≤ L; omega⟩
 ·rw [K_ h3]
  by_cases h4 : (bf l k).kind = 4
  ·rw [M_ h4]
   unfold gK
   split
   ·exact ly (by decide) hL
   ·rename_i hc
    have hL2 : 0 ≤ L - 2 := by
     have : ¬ L < 2 := fun h => hc (.inr (.inl h))
     omega
    obtain ⟨a1, a2, a3⟩ := hK (k0 (bf l k)) (L - 2) hL2
    obtain ⟨a, ha⟩ := nm_ (K (k0 (bf l k)) (ind ++ [32, 32]) (L - 2))
    rw [ha] at a1 a2 a3 ⊢
    split
    ·exact ly (by decide) hL
    ·rename_i h0
     rw [js (by omega)] at a1
     obtain ⟨b1, b2, b3⟩ := hK (k1 (bf l k)) a.2 (by omega)
     obtain ⟨b, hb⟩ := nm_ (K (k1 (bf l k)) (ind ++ [32, 32]) a.2)
     rw [hb] at b1 b2 b3 ⊢
     have h1 := tC (ind := ind) hx
     have h2 : (n6 l (bf l k) ind b.1).length ≤ ind.length + 9 + b.1.length := by
      unfold n6
      split
      ·exact h_ _
      ·simp only [O_, P_, b_]; omega
     refine ⟨?_, by show b.2 ≤ L; omega, b3⟩
     simp only [O_, P_, b_]
     omega
  ·rw [K_ h4]
   have h1 := n8 hx
   obtain ⟨a1, a2, a3⟩ := hK k L hL
   refine ⟨?_, a2, a3⟩
   simp only [O_, P_, b_]
   omega
theorem mu {l} (hN : ∀ x, x ∈ l → g9 x) : ∀ (f : Nat) (k : Int) (ind : List UInt8) (L : Int), ind.length + 2 * f ≤ 1000 → 0 ≤ L → sg 8589934592 L (cH l f k ind L)
 | 0, k, ind, L, _, hL => ⟨by show (0 : Int) + 8589934592 * pz L ≤ _; rw [js hL]; omega, by show L ≤ L; omega, by show -1 ≤ L; omega⟩
 | f + 1, k, ind, L, hi, hL => by
  rw [cH]
  exact xq hN (by omega) hL (fun k L hL => gL (fun k L hL => mu hN f k _ L (by simp; omega) hL) _ [] L hL)
theorem eS {l} (hN : ∀ x, x ∈ l → g9 x) {f k ind L} (hi : ind.length + 2 * f ≤ 1000) (hL : 0 ≤ L) : sg 0 L (aL l (cH l f) k ind L) :=
 gL (fun k L hL => mu hN f k _ L hi hL) _ [] L hL
theorem n9 (sep xs y) : Lib.join (xs ++ [y]) sep = Lib.join xs sep ++ ((if xs.isEmpty = true then [] else sep) ++ y) := by
 cases xs with
 | nil => simp [Lib.join_nil, Lib.join_one]
 | cons x xs =>
  rw [List.cons_append, Lib.join_cons, Lib.join_cons, K_ (by simp)]
  unfold Lib.joinTail
  simp
end Go.Proofs.YtgcfjkfipkfijaaGreatDoor
namespace Go.Proofs.YtgcfjkfipkfijaaGreatDoor
open Go Go.RowKit Tryz
mutual
def cL : Ex → Int → Int
 | .mk op n nm ks, most =>
  if most < 1 ∨ op < 0 ∨ 16 < op then -1
  else if op = 0 ∨ op = 1 then (if 0 < ks.length ∨ op = 0 ∧ (n < 0 ∨ nm.size ≠ 0) ∨ op = 1 ∧ (n ≠ 0 ∨ cg nm = false) then -1 else most - 1)
  else if ks.length ≠ aE op ∨ n ≠ 0 ∨ nm.size ≠ 0 then -1
  else dv op ks 0 (most - 1)
def dv (op : Int) : List Ex → Int → Int → Int
 | [], _, most => most
 | k :: ks, i, most => if cL k most < 0 then -1 else dv op ks (i + 1) (cL k most - (if ag op k.op i then 2 else 0))
end
theorem mv (op i most) : dv op [] i most = most := rfl
theorem eG {op i most k ks} : dv op (k :: ks) i most = if cL k most < 0 then -1 else dv op ks (i + 1) (cL k most - (if ag op k.op i then 2 else 0)) := by rw [dv]
theorem kI (e) {most} (h : most < 1) : cL e most = -1 := by
 obtain ⟨o, n, nm, ks⟩ := e
 rw [cL, M_ (.inl h)]
theorem si (op i ks) {most} (h : most < 0) : dv op ks i most < 0 := by
 cases ks with
 | nil => exact h
 | cons k ks => rw [eG, kI k (by omega), M_ (by decide)]; decide
theorem ld {op i n most k ks} : bp op (k :: ks) i n most =
  if aK k (most - n) < 0 then -1
  else if most < n + aK k (most - n) + (if ag op k.op i then 2 else 0) then -1
  else bp op ks (i + 1) (n + aK k (most - n) + (if ag op k.op i then 2 else 0)) most := by rw [bp]
theorem xr (N) : (∀ e : Ex, SizeOf.sizeOf e < N → ∀ most, 0 ≤ most → (0 ≤ aK e most → aK e most ≤ most → cL e most = most - aK e most) ∧ (aK e most < 0 ∨ most < aK e most → cL e most < 0)) ∧
  (∀ ks : List Ex, SizeOf.sizeOf ks < N → ∀ op i n most, n ≤ most → (0 ≤ bp op ks i n most → dv op ks i (most - n) = most - bp op ks i n most) ∧ (bp op ks i n most < 0 → 0 ≤ n → dv op ks i (most - n) < 0)) := by
 induction N with
 | zero => exact ⟨fun _ h => absurd h (by omega), fun _ h => absurd h (by omega)⟩
 | succ N ih =>
  refine ⟨fun e he most hm => ?_, fun ks hk op i n most hn => ?_⟩
  ·obtain ⟨o, n, nm, ks⟩ := e
   have hs : SizeOf.sizeOf ks < N := by simp at he; omega
   rw [aK, cL]
   by_cases h0 : o = 0 ∨ o = 1
   ·rw [M_ h0, M_ h0]
    by_cases hm1 : most < 1
    ·rw [M_ (show most < 1 ∨ o < 0 ∨ 16 < o from .inl hm1)]
     split <;> omega
    ·rw [K_ (show ¬ (most < 1 ∨ o < 0 ∨ 16 < o) by omega)]
     split <;> omega
   ·rw [K_ h0, K_ h0]
    by_cases h1 : o < 0 ∨ 16 < o ∨ n ≠ 0 ∨ nm.size ≠ 0 ∨ ks.length ≠ aE o ∨ most < 1
    ·rw [M_ h1]
     refine ⟨fun h => absurd h (by decide), fun _ => ?_⟩
     split
     ·decide
     ·rw [M_ (by omega)]; decide
    ·rw [K_ h1, K_ (show ¬ (most < 1 ∨ o < 0 ∨ 16 < o) by omega), K_ (show ¬ (ks.length ≠ aE o ∨ n ≠ 0 ∨ nm.size ≠ 0) by omega)]
     have h := ih.2 ks hs o 0 1 most (by omega)
     have hle := lC ks o 0 1 most (.inl (by omega))
     refine ⟨fun h2 _ => h.1 h2, fun h2 => h.2 (by omega) (by decide)⟩
  ·cases ks with
   | nil =>
    rw [show bp op [] i n most = n from rfl, mv]
    exact ⟨fun _ => rfl, fun h h' => by omega⟩
   | cons x xs =>
    have hx : SizeOf.sizeOf x < N := by simp at hk; omega
    have hxs : SizeOf.sizeOf xs < N := by simp at hk; omega
    rw [ld, eG]
    have h1 := ih.1 x hx (most - n) (by omega)
    have hz : (0 : Int) ≤ (if ag op x.op i = true then 2 else 0) := by split <;> omega
    generalize (if ag op x.op i = true then (2 : Int) else 0) = z at hz ⊢
    obtain ⟨t, ht⟩ := nm_ (aK x (most - n))
    rw [ht] at h1 ⊢
    by_cases ht0 : t < 0
    ·rw [M_ ht0, M_ (h1.2 (.inl ht0))]
     exact ⟨fun h => absurd h (by decide), fun _ _ => by decide⟩
    ·rw [K_ ht0]
     by_cases htm : most - n < t
     ·rw [M_ (by omega), M_ (h1.2 (.inr htm))]
      exact ⟨fun h => absurd h (by decide), fun _ _ => by decide⟩
     ·have h2 := h1.1 (by omega) (by omega)
      rw [h2, K_ (show ¬ most - n - t < 0 by omega)]
      by_cases hw : most < n + t + z
      ·rw [M_ hw]
       exact ⟨fun h => absurd h (by decide), fun _ _ => si op _ xs (by omega)⟩
      ·rw [K_ hw, show most - n - t - z = most - (n + t + z) by omega]
       have h3 := ih.2 xs hxs op (i + 1) (n + t + z) most (by omega)
       exact ⟨h3.1, fun h h' => h3.2 h (by omega)⟩
theorem zk (e most) : aK e most ≠ 0 := by
 obtain ⟨o, n, nm, ks⟩ := e
 rw [aK]
 have key : ∀ (ks : List Ex) (op i n most : Int), 1 ≤ n → bp op ks i n most ≠ 0 := by
  intro ks
  induction ks with
  | nil => intro op i n most h; rw [show bp op [] i n most = n from rfl]; omega
  | cons k ks ih =>
   intro op i n most h
   rw [ld]
   have hz : (0 : Int) ≤ (if ag op k.op i = true then 2 else 0) := by split <;> omega
   generalize (if ag op k.op i = true then (2 : Int) else 0) = z at hz ⊢
   split
   ·decide
   ·split
    ·decide
    ·exact ih _ _ _ _ (by omega)
 split
 ·split <;> decide
 ·split
  ·decide
  ·exact key _ _ _ _ _ (by decide)
theorem xt (e) : decide (0 ≤ cL e 64) = gW e := by
 have h := (xr (SizeOf.sizeOf e + 1)).1 e (by omega) 64 (by decide)
 have hn := zk e 64
 unfold gW
 by_cases h1 : 0 < aK e 64
 ·by_cases h2 : aK e 64 ≤ 64
  ·rw [W_ h1, W_ h2, h.1 (by omega) h2, W_ (by omega)]; rfl
  ·have := h.2 (.inr (by omega))
   rw [W_ h1, V_ h2, V_ (by omega)]; rfl
 ·have := h.2 (.inl (by omega))
  rw [V_ h1, V_ (by omega)]; rfl
theorem xv (N) : (∀ e : Ex, SizeOf.sizeOf e < N → ∀ most, -1 ≤ most → cL e most ≤ most) ∧ (∀ ks : List Ex, SizeOf.sizeOf ks < N → ∀ op i most, dv op ks i most ≤ most ∨ dv op ks i most = -1) := by
 induction N with
 | zero => exact ⟨fun _ h => absurd h (by omega), fun _ h => absurd h (by omega)⟩
 | succ N ih =>
  refine ⟨fun e he most hm => ?_, fun ks hk op i most => ?_⟩
  ·obtain ⟨o, n, nm, ks⟩ := e
   have hs : SizeOf.sizeOf ks < N := by simp at he; omega
   rw [cL]
   split
   ·omega
   ·split
    ·split <;> omega
    ·split
     ·omega
     ·have := ih.2 ks hs o 0 (most - 1)
      omega
  ·cases ks with
   | nil => exact .inl (l_ _)
   | cons x xs =>
    have hx : SizeOf.sizeOf x < N := by simp at hk; omega
    have hxs : SizeOf.sizeOf xs < N := by simp at hk; omega
    rw [eG]
    have hz : (0 : Int) ≤ (if ag op x.op i = true then 2 else 0) := by split <;> omega
    generalize (if ag op x.op i = true then (2 : Int) else 0) = z at hz ⊢
    split
    ·exact .inr rfl
    ·rename_i h
     have h1 : cL x most ≤ most := by
      by_cases hm : most < 1
      ·have := kI x hm; omega
      ·exact ih.1 x hx most (by omega)
     have h2 := ih.2 xs hxs op (i + 1) (cL x most - z)
     omega
theorem xw (N) : (∀ e : Ex, SizeOf.sizeOf e < N → ∀ most, -2 ≤ cL e most) ∧ (∀ ks : List Ex, SizeOf.sizeOf ks < N → ∀ op i most, -2 ≤ most → -2 ≤ dv op ks i most) := by
 induction N with
 | zero => exact ⟨fun _ h => absurd h (by omega), fun _ h => absurd h (by omega)⟩
 | succ N ih =>
  refine ⟨fun e he most => ?_, fun ks hk op i most hm => ?_⟩
  ·obtain ⟨o, n, nm, ks⟩ := e
   have hs : SizeOf.sizeOf ks < N := by simp at he; omega
   rw [cL]
   split
   ·omega
   ·split
    ·split <;> omega
    ·split
     ·omega
     ·exact ih.2 ks hs o 0 (most - 1) (by omega)
  ·cases ks with
   | nil => exact hm
   | cons x xs =>
    have hxs : SizeOf.sizeOf xs < N := by simp at hk; omega
    rw [eG]
    have hz : (if ag op x.op i = true then (2 : Int) else 0) ≤ 2 := by split <;> omega
    generalize (if ag op x.op i = true then (2 : Int) else 0) = z at hz ⊢
    split
    ·omega
    ·exact ih.2 xs hxs op (i + 1) _ (by omega)
end Go.Proofs.YtgcfjkfipkfijaaGreatDoor
namespace Go.Proofs.YtgcfjkfipkfijaaGreatDoor
open Go Go.RowKit Go.Lib Tryz
theorem gf {w : World} {k : Nat} {v0 v1 v2 v3 : Value} {t : TypeId} (h : w.heap[k]? = some (.cells #[v0, v1, v2, v3] t (0, 0))) :
  (w.cell? ⟨k, 0, none⟩ = some v0 ∧ w.cell? ⟨k, 1, none⟩ = some v1 ∧ w.cell? ⟨k, 2, none⟩ = some v2 ∧ w.cell? ⟨k, 3, none⟩ = some v3) ∧ True :=
 ⟨⟨aa h 0, aa h 1, aa h 2, aa h 3⟩, trivial⟩
theorem oa (op w) : Calls prog 143 #[.int .i64 op] w fun e w' => e = .returned (.int .i64 (aH op)) ∧ w' = w := by
 go_enter func143, ntmps143
 go_wp2
 all_goals
  go_ret
  refine ⟨bP ?_, rfl⟩
  simp only [beq_iff_eq, beq_eq_false_iff_ne, ne_eq] at *
  unfold aH
  (repeat (first | rw [M_ (by omega)] | rw [K_ (by omega)]))
def AJ : Array Value := #[.string ⟨#[]⟩, .string ⟨#[]⟩, .string ⟨#[45]⟩, .string ⟨#[33]⟩, .string ⟨#[43]⟩, .string ⟨#[45]⟩, .string ⟨#[42]⟩, .string ⟨#[47]⟩, .string ⟨#[37]⟩, .string ⟨#[60]⟩, .string ⟨#[60, 61]⟩, .string ⟨#[62]⟩, .string ⟨#[62, 61]⟩, .string ⟨#[61, 61]⟩, .string ⟨#[33, 61]⟩, .string ⟨#[38]⟩, .string ⟨#[124]⟩]
theorem zl (i) (h2 : 2 ≤ i) (h : i < 17) : AJ[i]? = some (.string (aT i)) := by
 have hi : i = 2 ∨ i = 3 ∨ i = 4 ∨ i = 5 ∨ i = 6 ∨ i = 7 ∨ i = 8 ∨ i = 9 ∨ i = 10 ∨ i = 11 ∨ i = 12 ∨ i = 13 ∨ i = 14 ∨ i = 15 ∨ i = 16 := by omega
 rcases hi with rfl | rfl | rfl | rfl | rfl | rfl | rfl | rfl | rfl | rfl | rfl | rfl | rfl | rfl | rfl <;> rfl
theorem ve (i : Nat) (h2 : 2 ≤ i) (h : i < 17) (w : World) : Calls prog 128 #[.int .i64 i] w fun e w' => e = .returned (.string (aT i)) ∧ Below w.heap.size w w' := by
 have hz : (i : Int) < 17 := by omega
 have hz0 : (0 : Int) ≤ i := by omega
 have hs := zl i h2 h
 unfold AJ at hs
 clear h2 h
 go_enter func128, ntmps128
 go_wp2_with fail
 go_ret
 exact ⟨rfl, (J_ _ _).alloc le_ _⟩
def bz (s : ByteArray) (j : Nat) : Int := ((s.data.toList.getD j 0).toNat : Int)
theorem gg (s j) (h : j < s.size) : bz s j = ((s.get! j).toNat : Int) := by
 have h1 : j < s.data.size := h
 unfold bz
 rw [S_]
 have h2 : s.get! j = s.data[j]! := rfl
 rw [h2, getElem!_pos s.data j h1, R_ (by simpa using h1)]
 simp
def dL (s : ByteArray) (i : Nat) : Nat → Nat → Int → Int
 | 0, _, b => b
 | m + 1, k, b => if bz s (i + k) < 128 ∨ 192 ≤ bz s (i + k) then -1 else dL s i m (k + 1) (64 * b + bz s (i + k) - 128)
def gQ (n least c : Int) : Int × Int := if c < least ∨ 1114111 < c ∨ 55296 ≤ c ∧ c ≤ 57343 then (0, 0) else (c, n)
def dx (s : ByteArray) (i : Nat) (m : Nat) (least b : Int) : Int × Int := if (s.size : Int) - i < m + 1 then (0, 0) else gQ (m + 1) least (dL s i m 1 b)
def gR (s : ByteArray) (i : Nat) : Int × Int :=
 if bz s i < 128 then (bz s i, 1)
 else if 192 ≤ bz s i ∧ bz s i < 224 then dx s i 1 128 (bz s i - 192)
 else if 224 ≤ bz s i ∧ bz s i < 240 then dx s i 2 2048 (bz s i - 224)
 else if 240 ≤ bz s i ∧ bz s i < 248 then dx s i 3 65536 (bz s i - 240)
 else (0, 0)
def oc (p : Nat × Nat) : Int × Int := if p = (65533, 1) then (0, 0) else ((p.1 : Int), (p.2 : Int))
theorem vf : oc (65533, 1) = (0, 0) := rfl
theorem iw {a b} (h : ¬ (a = 65533 ∧ b = 1)) : oc (a, b) = ((a : Int), (b : Int)) := by
 unfold oc
 rw [K_ (fun e => h (by simpa using e))]
theorem od (s i) : Utf8.decode s i =
  if (s.get! i).toNat < 128 then ((s.get! i).toNat, 1)
  else if (s.get! i).toNat / 32 = 6 ∧ (i + 1 < s.size ∧ (s.get! (i + 1)).toNat / 64 = 2) then
   (if 128 ≤ (s.get! i).toNat % 32 * 64 + (s.get! (i + 1)).toNat % 64 then ((s.get! i).toNat % 32 * 64 + (s.get! (i + 1)).toNat % 64, 2) else (65533, 1))
  else if (s.get! i).toNat / 16 = 14 ∧ (i + 1 < s.size ∧ (s.get! (i + 1)).toNat / 64 = 2) ∧ (i + 2 < s.size ∧ (s.get! (i + 2)).toNat / 64 = 2) then
   (if 2048 ≤ (s.get! i).toNat % 16 * 4096 + (s.get! (i + 1)).toNat % 64 * 64 + (s.get! (i + 2)).toNat % 64 ∧ Utf8.valid (((s.get! i).toNat % 16 * 4096 + (s.get! (i + 1)).toNat % 64 * 64 + (s.get! (i + 2)).toNat % 64 : Nat) : Int) = true
     then ((s.get! i).toNat % 16 * 4096 + (s.get! (i + 1)).toNat % 64 * 64 + (s.get! (i + 2)).toNat % 64, 3) else (65533, 1))
  else if (s.get! i).toNat / 8 = 30 ∧ (i + 1 < s.size ∧ (s.get! (i + 1)).toNat / 64 = 2) ∧ (i + 2 < s.size ∧ (s.get! (i + 2)).toNat / 64 = 2) ∧ (i + 3 < s.size ∧ (s.get! (i + 3)).toNat / 64 = 2) then
   (if 65536 ≤ (s.get! i).toNat % 8 * 262144 + (s.get! (i + 1)).toNat % 64 * 4096 + (s.get! (i + 2)).toNat % 64 * 64 + (s.get! (i + 3)).toNat % 64 ∧ Utf8.valid (((s.get! i).toNat % 8 * 262144 + (s.get! (i + 1)).toNat % 64 * 4096 + (s.get! (i + 2)).toNat % 64 * 64 + (s.get! (i + 3)).toNat % 64 : Nat) : Int) = true
     then ((s.get! i).toNat % 8 * 262144 + (s.get! (i + 1)).toNat % 64 * 4096 + (s.get! (i + 2)).toNat % 64 * 64 + (s.get! (i + 3)).toNat % 64, 4) else (65533, 1))
  else (65533, 1) := by
 unfold Utf8.decode Utf8.runeError
 simp only [Nat.add_zero, a_, beq_iff_eq, decide_eq_true_eq, and_assoc, ge_iff_le]
theorem iN (c : Nat) : Utf8.valid (c : Int) = true ↔ c < 55296 ∨ (57344 ≤ c ∧ c ≤ 1114111) := by
 unfold Utf8.valid
 simp only [Bool.or_eq_true, a_, decide_eq_true_eq]
 omega
theorem xx (s i) (h : i < s.size) : gR s i = oc (Utf8.decode s i) := by
 rw [od]
 have hb0 := (s.get! i).toNat_lt
 have hb1 := (s.get! (i + 1)).toNat_lt
 have hb2 := (s.get! (i + 2)).toNat_lt
 have hb3 := (s.get! (i + 3)).toNat_lt
 have e0 := gg s i h
 have e1 := gg s (i + 1)
 have e2 := gg s (i + 2)
 have e3 := gg s (i + 3)
 unfold gR
 rw [e0]
 generalize (s.get! i).toNat = b0 at *
 generalize (s.get! (i + 1)).toNat = b1 at *
 generalize (s.get! (i + 2)).toNat = b2 at *
 generalize (s.get! (i + 3)).toNat = b3 at *
 by_cases h1 : b0 < 128
 ·rw [M_ h1, M_ (by omega), iw (by omega)]; rfl
 rw [K_ h1, K_ (by omega)]
 by_cases h2 : 192 ≤ b0 ∧ b0 < 224
 ·rw [M_ (show 192 ≤ (b0 : Int) ∧ (b0 : Int) < 224 by omega)]
  unfold dx
  by_cases hs1 : i + 1 < s.size
  ·rw [K_ (show ¬ ((s.size : Int) - i < ((1 : Nat) : Int) + 1) by omega)]
   simp only [dL]
   rw [e1 hs1]
   by_cases hc1 : b1 / 64 = 2
   ·rw [K_ (show ¬ ((b1 : Int) < 128 ∨ 192 ≤ (b1 : Int)) by omega), M_ ⟨by omega, hs1, hc1⟩]
    unfold gQ
    split
    ·rw [K_ (by omega)]; rfl
    ·rw [M_ (by omega), iw (by omega)]
     refine Prod.ext ?_ rfl
     show _ = _
     simp only
     omega
   ·rw [M_ (show ((b1 : Int) < 128 ∨ 192 ≤ (b1 : Int)) by omega), K_ (fun h => hc1 h.2.2), K_ (by omega), K_ (by omega)]
    rfl
  ·rw [M_ (show ((s.size : Int) - i < ((1 : Nat) : Int) + 1) by omega), K_ (fun h => hs1 h.2.1), K_ (by omega), K_ (by omega)]
   rfl
 rw [K_ (show ¬ (192 ≤ (b0 : Int) ∧ (b0 : Int) < 224) by omega), K_ (show ¬ (b0 / 32 = 6 ∧ i + 1 < s.size ∧ b1 / 64 = 2) by omega)]
 by_cases h3 : 224 ≤ b0 ∧ b0 < 240
 ·rw [M_ (show 224 ≤ (b0 : Int) ∧ (b0 : Int) < 240 by omega)]
  unfold dx
  by_cases hs2 : i + 2 < s.size
  ·rw [K_ (show ¬ ((s.size : Int) - i < ((2 : Nat) : Int) + 1) by omega)]
   simp only [dL]
   rw [e1 (by omega), e2 hs2]
   by_cases hc1 : b1 / 64 = 2
   ·rw [K_ (show ¬ ((b1 : Int) < 128 ∨ 192 ≤ (b1 : Int)) by omega)]
    by_cases hc2 : b2 / 64 = 2
    ·rw [K_ (show ¬ ((b2 : Int) < 128 ∨ 192 ≤ (b2 : Int)) by omega), M_ ⟨by omega, ⟨by omega, hc1⟩, hs2, hc2⟩]
     unfold gQ
     split
     ·rw [K_ (by rw [iN]; omega)]; rfl
     ·rw [M_ (by rw [iN]; omega), iw (by omega)]
      refine Prod.ext ?_ rfl
      simp only
      omega
    ·rw [M_ (show ((b2 : Int) < 128 ∨ 192 ≤ (b2 : Int)) by omega), K_ (fun h => hc2 h.2.2.2), K_ (by omega)]
     rfl
   ·rw [M_ (show ((b1 : Int) < 128 ∨ 192 ≤ (b1 : Int)) by omega), K_ (fun h => hc1 h.2.1.2), K_ (by omega)]
    rfl
  ·rw [M_ (show ((s.size : Int) - i < ((2 : Nat) : Int) + 1) by omega), K_ (fun h => hs2 h.2.2.1), K_ (by omega)]
   rfl
 rw [K_ (show ¬ (224 ≤ (b0 : Int) ∧ (b0 : Int) < 240) by omega), K_ (show ¬ (b0 / 16 = 14 ∧ (i + 1 < s.size ∧ b1 / 64 = 2) ∧ i + 2 < s.size ∧ b2 / 64 = 2) by omega)]
 by_cases h4 : 240 ≤ b0 ∧ b0 < 248
 ·rw [M_ (show 240 ≤ (b0 : Int) ∧ (b0 : Int) < 248 by omega)]
  unfold dx
  by_cases hs3 : i + 3 < s.size
  ·rw [K_ (show ¬ ((s.size : Int) - i < ((3 : Nat) : Int) + 1) by omega)]
   simp only [dL]
   rw [e1 (by omega), e2 (by omega), e3 hs3]
   by_cases hc1 : b1 / 64 = 2
   ·rw [K_ (show ¬ ((b1 : Int) < 128 ∨ 192 ≤ (b1 : Int)) by omega)]
    by_cases hc2 : b2 / 64 = 2
    ·rw [K_ (show ¬ ((b2 : Int) < 128 ∨ 192 ≤ (b2 : Int)) by omega)]
     by_cases hc3 : b3 / 64 = 2
     ·rw [K_ (show ¬ ((b3 : Int) < 128 ∨ 192 ≤ (b3 : Int)) by omega), M_ ⟨by omega, ⟨by omega, hc1⟩, ⟨by omega, hc2⟩, hs3, hc3⟩]
      unfold gQ
      split
      ·rw [K_ (by rw [iN]; omega)]; rfl
      ·rw [M_ (by rw [iN]; omega), iw (by omega)]
       refine Prod.ext ?_ rfl
       simp only
       omega
     ·rw [M_ (show ((b3 : Int) < 128 ∨ 192 ≤ (b3 : Int)) by omega), K_ (fun h => hc3 h.2.2.2.2)]
      rfl
    ·rw [M_ (show ((b2 : Int) < 128 ∨ 192 ≤ (b2 : Int)) by omega), K_ (fun h => hc2 h.2.2.1.2)]
     rfl
   ·rw [M_ (show ((b1 : Int) < 128 ∨ 192 ≤ (b1 : Int)) by omega), K_ (fun h => hc1 h.2.1.2)]
    rfl
  ·rw [M_ (show ((s.size : Int) - i < ((3 : Nat) : Int) + 1) by omega), K_ (fun h => hs3 h.2.2.2.1)]
   rfl
 rw [K_ (show ¬ (240 ≤ (b0 : Int) ∧ (b0 : Int) < 248) by omega), K_ (fun h => by omega)]
 rfl
def gS : List (Nat × Nat) → Nat → List Int
 | [], _ => []
 | r :: rs, p => if r = (65533, 1) then [] else (r.1 : Int) :: gS rs (p + r.2)
def j4 : List (Nat × Nat) → Nat → List Int
 | [], p => [(p : Int)]
 | r :: rs, p => if r = (65533, 1) then [] else (p : Int) :: j4 rs (p + r.2)
def dC : List (Nat × Nat) → Bool
 | [] => true
 | r :: rs => if r = (65533, 1) then false else dC rs
theorem oW (l) : dC l = l.all (fun r => !(r == (65533, 1))) := by
 induction l with
 | nil => rfl
 | cons r rs ih =>
  rw [dC, List.all_cons, ih]
  by_cases h : r = (65533, 1)
  ·rw [M_ h, D_ h]; rfl
  ·rw [K_ h, A_ h]; rfl
theorem qx : ∀ (l : List (Nat × Nat)) (p : Nat), dC l = true → gS l p = l.map (fun r => (r.1 : Int))
 | [], _, _ => rfl
 | r :: rs, p, h => by
  rw [dC] at h
  rw [gS]
  by_cases e : r = (65533, 1)
  ·rw [M_ e] at h; cases h
  ·rw [K_ e] at h
   rw [K_ e, qx rs _ h]; rfl
theorem sj (s i) : ((s.get! i).toNat < 128 → (Utf8.decode s i).1 = (s.get! i).toNat) ∧ (128 ≤ (s.get! i).toNat → 128 ≤ (Utf8.decode s i).1) := by
 rw [od]
 refine ⟨fun h => by rw [M_ h], fun h => ?_⟩
 rw [K_ (by omega)]
 split
 ·split
  ·assumption
  ·decide
 ·split
  ·split
   ·rename_i h2; exact d_ (by decide) h2.1
   ·decide
  ·split
   ·split
    ·rename_i h2; exact d_ (by decide) h2.1
    ·decide
   ·decide
theorem zm {r} (h : cO r = 2) : ¬ (48 ≤ r ∧ r ≤ 57) := by
 intro hr
 unfold cO at h
 rw [K_ (by omega), K_ (by omega), K_ (by omega), M_ (by omega)] at h
 cases h
def gT (rs : List (Nat × Nat)) : Bool := dC rs && (decide (0 < rs.length) && (decide (rs.length ≤ 12) && (cO ((rs.headD (0, 0)).1 : Int) == 2 && dR rs)))
theorem xy (s) : gT (ai s.data.toList) = cg s := by
 unfold gT cg fC
 rw [gq, ← oW]
 by_cases h0 : s.size = 0
 ·have hr : ai s.data.toList = [] := by
   have := di s 0 (by omega)
   simpa using this
  rw [hr, h0]
  simp
 ·have hp : 0 < s.size := by omega
  have hr := dQ s 0 hp
  rw [List.drop_zero] at hr
  obtain ⟨p, hp1⟩ := nm_ (Utf8.decode s 0)
  have hlow := sj s 0
  have hb := gg s 0 hp
  unfold bz at hb
  have hb' : (s.data.toList.getD 0 0).toNat = (s.get! 0).toNat := by omega
  rw [hp1] at hr hlow
  rw [hb']
  generalize (s.get! 0).toNat = b0 at *
  generalize ai (s.data.toList.drop (0 + p.2)) = rest at hr
  rw [hr]
  have hlen : decide (0 < (p :: rest).length) = true := by simp
  have hsz : decide (s.size ≠ 0) = true := W_ h0
  rw [hlen, hsz, Bool.true_and, Bool.and_true]
  cases hw : dR (p :: rest) with
  | false => simp
  | true =>
   have hwp : lf p.1 = true := by
    unfold dR at hw
    rw [List.all_cons, a_] at hw
    exact hw.1
   have hc : (cO ((((p :: rest).headD (0, 0)).1 : Nat) : Int) == 2) = (decide (b0 < 48) || decide (57 < b0)) := by
    show (cO (p.1 : Int) == 2) = _
    unfold lf at hwp
    rw [Bool.or_eq_true, beq_iff_eq, beq_iff_eq] at hwp
    rcases hwp with h2 | h3
    ·have := zm h2
     rw [h2]
     have h : b0 < 48 ∨ 57 < b0 := by omega
     rcases h with h | h <;> simp [h]
    ·have := nB h3
     rw [h3]
     have h : ¬ b0 < 48 ∧ ¬ 57 < b0 := by omega
     simp [h.1, h.2]
   rw [hc]
   cases dC (p :: rest) <;> cases (decide (b0 < 48) || decide (57 < b0)) <;> simp
def oX (r : Int) : Bool := cO r == 2 || cO r == 3
def zN (r : Int) : List UInt8 → Int
 | [] => 0
 | c :: cs => if (c.toNat : Int) = r then 4 else zN r cs
theorem zn (r) (h : ¬ (r = 32 ∨ r = 9 ∨ r = 13 ∨ r = 10)) (h2 : ¬ ((97 ≤ r ∧ r ≤ 122) ∨ (65 ≤ r ∧ r ≤ 90) ∨ r = 95)) (h3 : ¬ (192 ≤ r ∧ r ≤ 591 ∧ r ≠ 215 ∧ r ≠ 247)) (h4 : ¬ (48 ≤ r ∧ r ≤ 57)) (h5 : ¬ r = 34) (h6 : ¬ r = 35) : zN r gN = cO r := by
 unfold cO
 rw [K_ h, K_ h2, K_ h3, K_ h4, K_ h5, K_ h6]
 by_cases hr : 32 < r ∧ r < 127
 ·have hd : ((List.range 127).all fun k => zN (k : Int) gN == if 32 < (k : Int) ∧ (k : Int) < 127 ∧ 0 ≤ indexByte gN k.toUInt8 then 4 else 0) = true := by kernel_rfl
  have := List.all_eq_true.1 hd r.toNat (List.mem_range.2 (by omega))
  rw [beq_iff_eq] at this
  rw [show ((r.toNat : Nat) : Int) = r by omega] at this
  exact this
 ·rw [K_ (fun e => hr ⟨e.1, e.2.1⟩)]
  have hs : ∀ l : List UInt8, (∀ c, c ∈ l → (c.toNat : Int) ≠ r) → zN r l = 0 := by
   intro l
   induction l with
   | nil => intro _; rfl
   | cons c cs ih => intro hc; rw [zN, K_ (hc c (by simp)), ih (fun x hx => hc x (by simp [hx]))]
  refine hs gN (fun c hc => ?_)
  have hd : (gN.all fun c => decide (32 < c.toNat) && decide (c.toNat < 127)) = true := by kernel_rfl
  have := List.all_eq_true.1 hd c hc
  simp only [a_, decide_eq_true_eq] at this
  omega
theorem qy (r w) (h : ¬ (r = 32 ∨ r = 9 ∨ r = 13 ∨ r = 10)) (h2 : ¬ ((97 ≤ r ∧ r ≤ 122) ∨ (65 ≤ r ∧ r ≤ 90) ∨ r = 95)) (h3 : ¬ (192 ≤ r ∧ r ≤ 591 ∧ r ≠ 215 ∧ r ≠ 247)) (h4 : ¬ (48 ≤ r ∧ r ≤ 57)) (h5 : ¬ r = 34) (h6 : ¬ r = 35) :
  Calls prog 87 #[.int .i64 r] w fun e w' => e = .returned (.int .i64 (cO r)) ∧ w' = w := by
 rw [← zn r h h2 h3 h4 h5 h6]
 obtain ⟨ANS, hANS⟩ := nm_ (zN r gN)
 have HANS := hid hANS
 rw [hANS]
 have hb : (r == 32) = false ∧ (r == 9) = false ∧ (r == 13) = false ∧ (r == 10) = false ∧ (r == 95) = false ∧ (r == 34) = false ∧ (r == 35) = false := ⟨aO (by omega), aO (by omega), aO (by omega), aO (by omega), aO (by omega), aO (by omega), aO (by omega)⟩
 obtain ⟨b0, b1, b2, b3, b4, b5, b6⟩ := hb
 have hi : r < 48 ∨ (57 < r ∧ r < 65) ∨ (90 < r ∧ r < 97) ∨ (122 < r ∧ r < 192) ∨ (192 ≤ r ∧ r ≤ 591 ∧ (r != 215) = false) ∨ (192 ≤ r ∧ r ≤ 591 ∧ (r != 215) = true ∧ (r != 247) = false) ∨ 591 < r := by
  by_cases e1 : r = 215
  ·exact .inr (.inr (.inr (.inr (.inl ⟨by omega, by omega, km e1⟩))))
  ·by_cases e2 : r = 247
   ·exact .inr (.inr (.inr (.inr (.inr (.inl ⟨by omega, by omega, jA e1, km e2⟩)))))
   ·omega
 clear h h2 h3 h4 h5 h6 hANS
 rcases hi with i1 | ⟨i1, i2⟩ | ⟨i1, i2⟩ | ⟨i1, i2⟩ | ⟨i1, i2, i3⟩ | ⟨i1, i2, i3, i4⟩ | i1
 all_goals
  go_enter func87, ntmps87
  go_wp2_with fail
  go_loopg [4] 19 (fun k s4 w' => ∃ i : Nat, s4 = .int .i64 i ∧ i ≤ 18 ∧ 18 - i < k ∧ zN r (gN.drop i) = ANS ∧ w' = w)
  case atStart => exact ⟨0, rfl, by omega, by omega, HANS.out, rfl⟩
  case round =>
   obtain ⟨i, rfl, hi, hik, hans, rfl⟩ := hrel
   obtain ⟨gk, rfl⟩ := pk_ gk 1 (by omega)
   by_cases hlt : i < 18
   ·have hltz : (i : Int) < 18 := by omega
    obtain ⟨c, hc⟩ := nm_ (gN[i]'hlt)
    have hh : (⟨#[40, 41, 123, 125, 44, 59, 58, 61, 43, 45, 42, 47, 37, 60, 62, 33, 38, 124]⟩ : ByteArray)[i]'hlt = c := hc
    have hclt := c.toNat_lt
    rw [fR gN i hlt, zN, hc] at hans
    by_cases e : (c.toNat : Int) = r
    ·have eb : ((c.toNat : Int) == r) = true := D_ e
     rw [M_ e] at hans
     have HN := hid hans
     clear hans e hc
     go_wp2_with fail
     go_ret
     exact ⟨bP HN.out, rfl⟩
    ·have eb : ((c.toNat : Int) == r) = false := aO e
     rw [K_ e] at hans
     have HN := hid hans
     clear hans e hc
     go_wp2_with fail
     go_roundg gk
     case measure => omega
     case rel => exact ⟨i + 1, by go_num, by omega, by omega, HN.out, rfl⟩
   ·obtain rfl : i = 18 := by omega
    have HN := hid hans
    clear hans
    go_wp2_with fail
    go_ret
    exact ⟨bP HN.out, rfl⟩
theorem mw (r w) : Calls prog 87 #[.int .i64 r] w fun e w' => e = .returned (.int .i64 (cO r)) ∧ w' = w := by
 by_cases h : r = 32 ∨ r = 9 ∨ r = 13 ∨ r = 10
 ·have HX : Hid (cO r = 1) := hid (M_ h)
  rcases h with rfl | rfl | rfl | rfl
  all_goals
   go_enter func87, ntmps87
   go_wp2_with fail
   go_ret
   exact ⟨bP HX.out.symm, rfl⟩
 have hb : (r == 32) = false ∧ (r == 9) = false ∧ (r == 13) = false ∧ (r == 10) = false := ⟨aO (by omega), aO (by omega), aO (by omega), aO (by omega)⟩
 obtain ⟨b0, b1, b2, b3⟩ := hb
 by_cases h2 : (97 ≤ r ∧ r ≤ 122) ∨ (65 ≤ r ∧ r ≤ 90) ∨ r = 95
 ·have HX : Hid (cO r = 2) := hid (by unfold cO; rw [K_ h, M_ h2])
  clear h
  rcases h2 with ⟨h2, h3⟩ | ⟨h2, h3⟩ | rfl
  all_goals
   go_enter func87, ntmps87
   go_wp2_with fail
   go_ret
   exact ⟨bP HX.out.symm, rfl⟩
 by_cases h3 : 192 ≤ r ∧ r ≤ 591 ∧ r ≠ 215 ∧ r ≠ 247
 ·have HX : Hid (cO r = 2) := hid (by unfold cO; rw [K_ h, K_ h2, M_ h3])
  obtain ⟨h4, h5, h6, h7⟩ := h3
  have c4 : (r == 95) = false := aO (by omega)
  have c5 : (r != 215) = true := jA h6
  have c6 : (r != 247) = true := jA h7
  clear h h2 h6 h7
  go_enter func87, ntmps87
  go_wp2_with fail
  go_ret
  exact ⟨bP HX.out.symm, rfl⟩
 by_cases h4 : 48 ≤ r ∧ r ≤ 57
 ·have HX : Hid (cO r = 3) := hid (by unfold cO; rw [K_ h, K_ h2, K_ h3, M_ h4])
  obtain ⟨h5, h6⟩ := h4
  have c4 : (r == 95) = false := aO (by omega)
  clear h h2 h3
  go_enter func87, ntmps87
  go_wp2_with fail
  go_ret
  exact ⟨bP HX.out.symm, rfl⟩
 by_cases h5 : r = 34
 ·subst h5
  clear h h2 h3 h4
  go_enter func87, ntmps87
  go_wp2_with fail
  go_ret
  exact ⟨rfl, rfl⟩
 by_cases h6 : r = 35
 ·subst h6
  clear h h2 h3 h4 h5
  go_enter func87, ntmps87
  go_wp2_with fail
  go_ret
  exact ⟨rfl, rfl⟩
 exact qy r w h h2 h3 h4 h5 h6
theorem sk (r w) : Calls prog 109 #[.int .i64 r] w fun e w' => e = .returned (.bool (oX r)) ∧ w' = w := by
 have HC := hid (mw r w)
 obtain ⟨c, hc⟩ := nm_ (cO r)
 have HX : Hid (oX r = (c == 2 || c == 3)) := hid (by unfold oX; rw [hc])
 rw [hc] at HC
 clear hc
 rcases dF c with rfl | rfl | ⟨n2, n3⟩
 all_goals
  (try rw [bne, Bool.not_eq_true'] at n2 n3)
  go_enter func109, ntmps109
  go_wp2_with (go_at_call 87; refine HC.out.mono ?_; rintro e w' ⟨rfl, rfl⟩)
  go_ret
  exact ⟨bS (by rw [HX.out]; simp [*]), rfl⟩
def xz (j : Nat) (v : Int) : Prop := j = 1 ∧ v < 32 ∨ j = 2 ∧ v < 2048 ∨ j = 3 ∧ v < 131072 ∨ j = 4 ∧ v < 8388608
theorem mx {j v} (h : xz j v) : v < 8388608 := by unfold xz at h; omega
theorem my {j v c} (h : xz j v) (hj : j ≤ 3) (hc : c < 192) : xz (j + 1) (64 * v + c - 128) := by unfold xz at h ⊢; omega
theorem fp (s j) (h : j < s.size) : bz s j = ((s[j]'h).toNat : Int) := by
 unfold bz
 rw [S_, R_ (by simpa using h)]
 rfl
theorem eY {n least c} (h : c < least ∨ 1114111 < c ∨ 55296 ≤ c ∧ c ≤ 57343) : gQ n least c = (0, 0) := M_ h
theorem mz {n least c} (h : ¬ (c < least ∨ 1114111 < c ∨ 55296 ≤ c ∧ c ≤ 57343)) : gQ n least c = (c, n) := K_ h
theorem zo (s i w) (hi : i < s.size) (hs : s.size ≤ 4611686018427387904) (hlo : 192 ≤ bz s i) (hhi : bz s i < 224) :
  Calls prog 86 #[.string s, .int .i64 i] w fun e w' => e = .returned (.tuple #[.int .i64 (dx s i 1 128 (bz s i - 192)).1, .int .i64 (dx s i 1 128 (bz s i - 192)).2]) ∧ w' = w := by
 have hiz : (i : Int) < s.size := by omega
 have hi0 : (0 : Int) ≤ i := by omega
 have hsz : (s.size : Int) ≤ 4611686018427387904 := by omega
 obtain ⟨c, hc⟩ := nm_ (s[i])
 have hb : bz s i = (c.toNat : Int) := by rw [fp s i hi, hc]
 rw [hb] at hlo hhi ⊢
 have HX : Hid (dx s i 1 128 (c.toNat - 192) = if (s.size : Int) - i < 2 then (0, 0) else gQ 2 128 (dL s i 1 1 (c.toNat - 192))) := hid rfl
 generalize dx s i 1 128 (c.toNat - 192) = G at HX ⊢
 clear hb
 by_cases hn : (s.size : Int) - i < 2
 ·have HX2 : Hid (G = (0, 0)) := hid (by rw [HX.out, M_ hn])
  go_enter func86, ntmps86
  go_wp2_with fail
  go_ret2
  exact ⟨by rw [HX2.out]; first | done | rfl, rfl⟩
 obtain ⟨ANS, hANS⟩ := nm_ (dL s i 1 1 (c.toNat - 192))
 have HX2 : Hid (G = gQ 2 128 ANS) := hid (by rw [HX.out, K_ hn, hANS])
 have HANS := hid hANS
 have hn' : 2 ≤ (s.size : Int) - i := by omega
 clear hn hANS
 go_enter func86, ntmps86
 go_wp2_with fail
 go_loopg [6, 9] 2 (fun k s6 s9 w' => ∃ (j : Nat) (v : Int), s9 = .int .i64 j ∧ s6 = .int .i64 v ∧ 1 ≤ j ∧ j ≤ 2 ∧ 2 - j < k ∧ 0 ≤ v ∧ Hid (xz j v) ∧ Hid (dL s i (2 - j) j v = ANS) ∧ w' = w)
 case atStart => exact ⟨1, _, rfl, rfl, by omega, by omega, by omega, by omega, hid (by unfold xz; omega), HANS, rfl⟩
 case round =>
  obtain ⟨j, v, rfl, rfl, hj1, hj2, hjk, hv0, HBIG, hans, rfl⟩ := hrel
  obtain ⟨gk, rfl⟩ := pk_ gk 1 (by omega)
  have hv9 := mx HBIG.out
  by_cases hlt : j < 2
  ·have hltz : (j : Int) < 2 := by omega
   have hp : i + j < s.size := by omega
   obtain ⟨q, hq⟩ : ∃ q : Nat, q = i + j := ⟨_, rfl⟩
   have hqz : (i : Int) + (j : Int) = (q : Int) := by omega
   have hqs : q < s.size := by omega
   have hqs' : (q : Int) < s.size := by omega
   obtain ⟨d, hd⟩ := nm_ (s[q])
   have hdl := d.toNat_lt
   have hbd : bz s (i + j) = (d.toNat : Int) := by rw [← hq, fp s q hqs, hd]
   have ht := hans.out
   rw [show 2 - j = (1 - j) + 1 by omega, dL, hbd] at ht
   by_cases hbad : (d.toNat : Int) < 128 ∨ 192 ≤ (d.toNat : Int)
   ·rw [M_ hbad] at ht
    have HT : Hid (G = (0, 0)) := hid (by rw [HX2.out, ← ht]; exact eY (.inl (by decide)))
    clear ht hbd hq
    rcases hbad with hbad | hbad
    ·go_wp2_with fail
     go_ret2
     exact ⟨by rw [HT.out]; first | done | rfl, rfl⟩
    ·have hb2 : 128 ≤ (d.toNat : Int) := by omega
     go_wp2_with fail
     go_ret2
     exact ⟨by rw [HT.out]; first | done | rfl, rfl⟩
   ·rw [K_ hbad] at ht
    have hb1 : 128 ≤ (d.toNat : Int) := by omega
    have hb2 : (d.toNat : Int) < 192 := by omega
    have HT := hid ht
    have HN := hid (my HBIG.out (by omega) hb2)
    clear ht hbd hbad hq
    go_wp2_with fail
    go_roundg gk
    case measure => omega
    case rel => exact ⟨j + 1, 64 * v + d.toNat - 128, by go_num, by go_num, by omega, by omega, by omega, by omega, HN, hid (by rw [show 2 - (j + 1) = 1 - j by omega]; exact HT.out), rfl⟩
  ·obtain rfl : j = 2 := by omega
   have ht := hans.out
   rw [show 2 - 2 = 0 from rfl, dL] at ht
   subst ht
   by_cases hbad : v < 128 ∨ 1114111 < v ∨ 55296 ≤ v ∧ v ≤ 57343
   ·have HT : Hid (G = (0, 0)) := hid (by rw [HX2.out]; exact eY hbad)
    have hw : v < 128 ∨ (128 ≤ v ∧ 1114111 < v) ∨ (128 ≤ v ∧ v ≤ 1114111 ∧ 55296 ≤ v ∧ v ≤ 57343) := by omega
    clear hbad hans
    rcases hw with hw | ⟨hw, hw2⟩ | ⟨hw, hw2, hw3, hw4⟩
    all_goals
     go_wp2_with fail
     go_ret2
     exact ⟨by rw [HT.out]; first | done | rfl, rfl⟩
   ·have HT : Hid (G = (v, 2)) := hid (by rw [HX2.out]; exact mz hbad)
    have hw : 128 ≤ v ∧ v ≤ 1114111 ∧ (v < 55296 ∨ (55296 ≤ v ∧ 57343 < v)) := by omega
    obtain ⟨hw1, hw2, hw3⟩ := hw
    clear hbad hans
    rcases hw3 with hw3 | ⟨hw3, hw4⟩
    all_goals first | (exfalso; omega) | skip
    all_goals
     go_wp2_with fail
     go_ret2
     exact ⟨by rw [HT.out]; first | done | rfl, rfl⟩
theorem zp (s i w) (hi : i < s.size) (hs : s.size ≤ 4611686018427387904) (hlo : 224 ≤ bz s i) (hhi : bz s i < 240) :
  Calls prog 86 #[.string s, .int .i64 i] w fun e w' => e = .returned (.tuple #[.int .i64 (dx s i 2 2048 (bz s i - 224)).1, .int .i64 (dx s i 2 2048 (bz s i - 224)).2]) ∧ w' = w := by
 have hiz : (i : Int) < s.size := by omega
 have hi0 : (0 : Int) ≤ i := by omega
 have hsz : (s.size : Int) ≤ 4611686018427387904 := by omega
 obtain ⟨c, hc⟩ := nm_ (s[i])
 have hb : bz s i = (c.toNat : Int) := by rw [fp s i hi, hc]
 rw [hb] at hlo hhi ⊢
 have HX : Hid (dx s i 2 2048 (c.toNat - 224) = if (s.size : Int) - i < 3 then (0, 0) else gQ 3 2048 (dL s i 2 1 (c.toNat - 224))) := hid rfl
 generalize dx s i 2 2048 (c.toNat - 224) = G at HX ⊢
 clear hb
 by_cases hn : (s.size : Int) - i < 3
 ·have HX2 : Hid (G = (0, 0)) := hid (by rw [HX.out, M_ hn])
  go_enter func86, ntmps86
  go_wp2_with fail
  go_ret2
  exact ⟨by rw [HX2.out]; first | done | rfl, rfl⟩
 obtain ⟨ANS, hANS⟩ := nm_ (dL s i 2 1 (c.toNat - 224))
 have HX2 : Hid (G = gQ 3 2048 ANS) := hid (by rw [HX.out, K_ hn, hANS])
 have HANS := hid hANS
 have hn' : 3 ≤ (s.size : Int) - i := by omega
 clear hn hANS
 go_enter func86, ntmps86
 go_wp2_with fail
 go_loopg [6, 9] 3 (fun k s6 s9 w' => ∃ (j : Nat) (v : Int), s9 = .int .i64 j ∧ s6 = .int .i64 v ∧ 1 ≤ j ∧ j ≤ 3 ∧ 3 - j < k ∧ 0 ≤ v ∧ Hid (xz j v) ∧ Hid (dL s i (3 - j) j v = ANS) ∧ w' = w)
 case atStart => exact ⟨1, _, rfl, rfl, by omega, by omega, by omega, by omega, hid (by unfold xz; omega), HANS, rfl⟩
 case round =>
  obtain ⟨j, v, rfl, rfl, hj1, hj2, hjk, hv0, HBIG, hans, rfl⟩ := hrel
  obtain ⟨gk, rfl⟩ := pk_ gk 1 (by omega)
  have hv9 := mx HBIG.out
  by_cases hlt : j < 3
  ·have hltz : (j : Int) < 3 := by omega
   have hp : i + j < s.size := by omega
   obtain ⟨q, hq⟩ : ∃ q : Nat, q = i + j := ⟨_, rfl⟩
   have hqz : (i : Int) + (j : Int) = (q : Int) := by omega
   have hqs : q < s.size := by omega
   have hqs' : (q : Int) < s.size := by omega
   obtain ⟨d, hd⟩ := nm_ (s[q])
   have hdl := d.toNat_lt
   have hbd : bz s (i + j) = (d.toNat : Int) := by rw [← hq, fp s q hqs, hd]
   have ht := hans.out
   rw [show 3 - j = (2 - j) + 1 by omega, dL, hbd] at ht
   by_cases hbad : (d.toNat : Int) < 128 ∨ 192 ≤ (d.toNat : Int)
   ·rw [M_ hbad] at ht
    have HT : Hid (G = (0, 0)) := hid (by rw [HX2.out, ← ht]; exact eY (.inl (by decide)))
    clear ht hbd hq
    rcases hbad with hbad | hbad
    ·go_wp2_with fail
     go_ret2
     exact ⟨by rw [HT.out]; first | done | rfl, rfl⟩
    ·have hb2 : 128 ≤ (d.toNat : Int) := by omega
     go_wp2_with fail
     go_ret2
     exact ⟨by rw [HT.out]; first | done | rfl, rfl⟩
   ·rw [K_ hbad] at ht
    have hb1 : 128 ≤ (d.toNat : Int) := by omega
    have hb2 : (d.toNat : Int) < 192 := by omega
    have HT := hid ht
    have HN := hid (my HBIG.out (by omega) hb2)
    clear ht hbd hbad hq
    go_wp2_with fail
    go_roundg gk
    case measure => omega
    case rel => exact ⟨j + 1, 64 * v + d.toNat - 128, by go_num, by go_num, by omega, by omega, by omega, by omega, HN, hid (by rw [show 3 - (j + 1) = 2 - j by omega]; exact HT.out), rfl⟩
  ·obtain rfl : j = 3 := by omega
   have ht := hans.out
   rw [show 3 - 3 = 0 from rfl, dL] at ht
   subst ht
   by_cases hbad : v < 2048 ∨ 1114111 < v ∨ 55296 ≤ v ∧ v ≤ 57343
   ·have HT : Hid (G = (0, 0)) := hid (by rw [HX2.out]; exact eY hbad)
    have hw : v < 2048 ∨ (2048 ≤ v ∧ 1114111 < v) ∨ (2048 ≤ v ∧ v ≤ 1114111 ∧ 55296 ≤ v ∧ v ≤ 57343) := by omega
    clear hbad hans
    rcases hw with hw | ⟨hw, hw2⟩ | ⟨hw, hw2, hw3, hw4⟩
    all_goals
     go_wp2_with fail
     go_ret2
     exact ⟨by rw [HT.out]; first | done | rfl, rfl⟩
   ·have HT : Hid (G = (v, 3)) := hid (by rw [HX2.out]; exact mz hbad)
    have hw : 2048 ≤ v ∧ v ≤ 1114111 ∧ (v < 55296 ∨ (55296 ≤ v ∧ 57343 < v)) := by omega
    obtain ⟨hw1, hw2, hw3⟩ := hw
    clear hbad hans
    rcases hw3 with hw3 | ⟨hw3, hw4⟩
    all_goals first | (exfalso; omega) | skip
    all_goals
     go_wp2_with fail
     go_ret2
     exact ⟨by rw [HT.out]; first | done | rfl, rfl⟩
theorem zq (s i w) (hi : i < s.size) (hs : s.size ≤ 4611686018427387904) (hlo : 240 ≤ bz s i) (hhi : bz s i < 248) :
  Calls prog 86 #[.string s, .int .i64 i] w fun e w' => e = .returned (.tuple #[.int .i64 (dx s i 3 65536 (bz s i - 240)).1, .int .i64 (dx s i 3 65536 (bz s i - 240)).2]) ∧ w' = w := by
 have hiz : (i : Int) < s.size := by omega
 have hi0 : (0 : Int) ≤ i := by omega
 have hsz : (s.size : Int) ≤ 4611686018427387904 := by omega
 obtain ⟨c, hc⟩ := nm_ (s[i])
 have hb : bz s i = (c.toNat : Int) := by rw [fp s i hi, hc]
 rw [hb] at hlo hhi ⊢
 have HX : Hid (dx s i 3 65536 (c.toNat - 240) = if (s.size : Int) - i < 4 then (0, 0) else gQ 4 65536 (dL s i 3 1 (c.toNat - 240))) := hid rfl
 generalize dx s i 3 65536 (c.toNat - 240) = G at HX ⊢
 clear hb
 by_cases hn : (s.size : Int) - i < 4
 ·have HX2 : Hid (G = (0, 0)) := hid (by rw [HX.out, M_ hn])
  go_enter func86, ntmps86
  go_wp2_with fail
  go_ret2
  exact ⟨by rw [HX2.out]; first | done | rfl, rfl⟩
 obtain ⟨ANS, hANS⟩ := nm_ (dL s i 3 1 (c.toNat - 240))
 have HX2 : Hid (G = gQ 4 65536 ANS) := hid (by rw [HX.out, K_ hn, hANS])
 have HANS := hid hANS
 have hn' : 4 ≤ (s.size : Int) - i := by omega
 clear hn hANS
 go_enter func86, ntmps86
 go_wp2_with fail
 go_loopg [6, 9] 4 (fun k s6 s9 w' => ∃ (j : Nat) (v : Int), s9 = .int .i64 j ∧ s6 = .int .i64 v ∧ 1 ≤ j ∧ j ≤ 4 ∧ 4 - j < k ∧ 0 ≤ v ∧ Hid (xz j v) ∧ Hid (dL s i (4 - j) j v = ANS) ∧ w' = w)
 case atStart => exact ⟨1, _, rfl, rfl, by omega, by omega, by omega, by omega, hid (by unfold xz; omega), HANS, rfl⟩
 case round =>
  obtain ⟨j, v, rfl, rfl, hj1, hj2, hjk, hv0, HBIG, hans, rfl⟩ := hrel
  obtain ⟨gk, rfl⟩ := pk_ gk 1 (by omega)
  have hv9 := mx HBIG.out
  by_cases hlt : j < 4
  ·have hltz : (j : Int) < 4 := by omega
   have hp : i + j < s.size := by omega
   obtain ⟨q, hq⟩ : ∃ q : Nat, q = i + j := ⟨_, rfl⟩
   have hqz : (i : Int) + (j : Int) = (q : Int) := by omega
   have hqs : q < s.size := by omega
   have hqs' : (q : Int) < s.size := by omega
   obtain ⟨d, hd⟩ := nm_ (s[q])
   have hdl := d.toNat_lt
   have hbd : bz s (i + j) = (d.toNat : Int) := by rw [← hq, fp s q hqs, hd]
   have ht := hans.out
   rw [show 4 - j = (3 - j) + 1 by omega, dL, hbd] at ht
   by_cases hbad : (d.toNat : Int) < 128 ∨ 192 ≤ (d.toNat : Int)
   ·rw [M_ hbad] at ht
    have HT : Hid (G = (0, 0)) := hid (by rw [HX2.out, ← ht]; exact eY (.inl (by decide)))
    clear ht hbd hq
    rcases hbad with hbad | hbad
    ·go_wp2_with fail
     go_ret2
     exact ⟨by rw [HT.out]; first | done | rfl, rfl⟩
    ·have hb2 : 128 ≤ (d.toNat : Int) := by omega
     go_wp2_with fail
     go_ret2
     exact ⟨by rw [HT.out]; first | done | rfl, rfl⟩
   ·rw [K_ hbad] at ht
    have hb1 : 128 ≤ (d.toNat : Int) := by omega
    have hb2 : (d.toNat : Int) < 192 := by omega
    have HT := hid ht
    have HN := hid (my HBIG.out (by omega) hb2)
    clear ht hbd hbad hq
    go_wp2_with fail
    go_roundg gk
    case measure => omega
    case rel => exact ⟨j + 1, 64 * v + d.toNat - 128, by go_num, by go_num, by omega, by omega, by omega, by omega, HN, hid (by rw [show 4 - (j + 1) = 3 - j by omega]; exact HT.out), rfl⟩
  ·obtain rfl : j = 4 := by omega
   have ht := hans.out
   rw [show 4 - 4 = 0 from rfl, dL] at ht
   subst ht
   by_cases hbad : v < 65536 ∨ 1114111 < v ∨ 55296 ≤ v ∧ v ≤ 57343
   ·have HT : Hid (G = (0, 0)) := hid (by rw [HX2.out]; exact eY hbad)
    have hw : v < 65536 ∨ (65536 ≤ v ∧ 1114111 < v) ∨ (65536 ≤ v ∧ v ≤ 1114111 ∧ 55296 ≤ v ∧ v ≤ 57343) := by omega
    clear hbad hans
    rcases hw with hw | ⟨hw, hw2⟩ | ⟨hw, hw2, hw3, hw4⟩
    all_goals
     go_wp2_with fail
     go_ret2
     exact ⟨by rw [HT.out]; first | done | rfl, rfl⟩
   ·have HT : Hid (G = (v, 4)) := hid (by rw [HX2.out]; exact mz hbad)
    have hw : 65536 ≤ v ∧ v ≤ 1114111 ∧ (v < 55296 ∨ (55296 ≤ v ∧ 57343 < v)) := by omega
    obtain ⟨hw1, hw2, hw3⟩ := hw
    clear hbad hans
    rcases hw3 with hw3 | ⟨hw3, hw4⟩
    all_goals first | (exfalso; omega) | skip
    all_goals
     go_wp2_with fail
     go_ret2
     exact ⟨by rw [HT.out]; first | done | rfl, rfl⟩
theorem vg (s : ByteArray) (i : Nat) (w : World) (hi : i < s.size) (hs : s.size ≤ 4611686018427387904) :
  Calls prog 86 #[.string s, .int .i64 i] w fun e w' => e = .returned (.tuple #[.int .i64 (oc (Utf8.decode s i)).1, .int .i64 (oc (Utf8.decode s i)).2]) ∧ w' = w := by
 rw [← xx s i hi]
 have hiz : (i : Int) < s.size := by omega
 have hi0 : (0 : Int) ≤ i := by omega
 obtain ⟨c, hc⟩ := nm_ (s[i])
 have hb : bz s i = (c.toNat : Int) := by rw [fp s i hi, hc]
 have hclt := c.toNat_lt
 by_cases h1 : c.toNat < 128
 ·have h1z : (c.toNat : Int) < 128 := by omega
  have HX : Hid (gR s i = ((c.toNat : Int), 1)) := hid (by unfold gR; rw [hb, M_ h1z])
  clear hb h1
  go_enter func86, ntmps86
  go_wp2_with fail
  go_ret2
  exact ⟨by rw [HX.out]; first | done | rfl, rfl⟩
 by_cases h2 : c.toNat < 192 ∨ 248 ≤ c.toNat
 ·have HX : Hid (gR s i = (0, 0)) := hid (by unfold gR; rw [hb, K_ (by omega), K_ (by omega), K_ (by omega), K_ (by omega)])
  have h3 : (128 ≤ (c.toNat : Int) ∧ (c.toNat : Int) < 192) ∨ 248 ≤ (c.toNat : Int) := by omega
  clear hb h1 h2
  rcases h3 with ⟨h3, h4⟩ | h3
  all_goals
   go_enter func86, ntmps86
   go_wp2_with fail
   go_ret2
   exact ⟨by rw [HX.out]; first | done | rfl, rfl⟩
 by_cases g1 : c.toNat < 224
 ·have HX : gR s i = dx s i 1 128 (bz s i - 192) := by unfold gR; rw [hb, K_ (by omega), M_ (by omega)]
  rw [HX]
  exact zo s i w hi hs (by omega) (by omega)
 by_cases g2 : c.toNat < 240
 ·have HX : gR s i = dx s i 2 2048 (bz s i - 224) := by unfold gR; rw [hb, K_ (by omega), K_ (by omega), M_ (by omega)]
  rw [HX]
  exact zp s i w hi hs (by omega) (by omega)
 ·have HX : gR s i = dx s i 3 65536 (bz s i - 240) := by unfold gR; rw [hb, K_ (by omega), K_ (by omega), K_ (by omega), M_ (by omega)]
  rw [HX]
  exact zq s i w hi hs (by omega) (by omega)
end Go.Proofs.YtgcfjkfipkfijaaGreatDoor
