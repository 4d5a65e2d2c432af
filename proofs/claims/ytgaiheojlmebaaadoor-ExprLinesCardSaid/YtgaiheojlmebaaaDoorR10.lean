/- Walks: Take. -/
import Derived.Test.YtgaiheojlmebaaaDoorR9
namespace Go.Proofs.YtgaiheojlmebaaaDoor
open Go Go.RowKit Go.Lib

def TakePost (b : Nat) (p : Ex × Int × Int) (w : World) (r : Ending) (w' : World) : Prop :=
  ∃ B d, r = .returned (.tuple #[exV p.1 B d, .int .i64 p.2.1, .int .i64 p.2.2]) ∧ ExF (fun k => k < b) w' p.1 B d ∧ Below b w w'

theorem take_end {g K : Nat} {B : Option Addr} {d : Nat} {e : Ex} {x y : Int} {w w2 w3 w4 W : World} (hb : Below w.heap.size w w2) (hK : w.heap.size = K) (hg : K < g) (hs3 : Same [g] w2 w3) (hx : ExF (fun k => k < w2.heap.size) w3 e B d) (hk2 : g < w2.heap.size)
    (hb4 : Below w3.heap.size w3 w4) (h4 : Same [K] w4 W) : TakePost K (e, x, y) w (.returned (.tuple #[exV e B d, .int .i64 x, .int .i64 y])) W := by
  rw [← hK]
  refine ⟨B, d, rfl, ((hx.below hb4).keep h4 (fun k hk => by simp at hk; omega)).more (fun k hk => .inl (by show k < w2.heap.size; omega)), ?_⟩
  exact (((Same.of_below (M := [g, K]) hb).trans hs3 (fun x hx => by simp at hx; subst hx; simp)).trans (Same.of_below (M := []) hb4) (fun x hx => by simp at hx)).trans h4 (fun x hx => by simp at hx; subst hx; simp)
    |>.below_of (fun k hk => by simp at hk; omega)

set_option maxHeartbeats 4000000 in
set_option maxRecDepth 100000 in
theorem take_any (l : List Tok) (A : Option Addr) (c : Nat) (a : Int) (w : World) (hr : tokK.Row [] w A l) (hlc : l.length ≤ c) (ha : -9223372036854775808 ≤ a) :
    Calls Tryd.prog 17 #[.slice A l.length c, .int .i64 a] w (TakePost w.heap.size (takeP l a) w) := by
  obtain ⟨ANS, hANS⟩ : ∃ r, takeP l a = r := ⟨_, rfl⟩
  rw [hANS]
  unfold takeP at hANS
  have HE := Lib.hid (fun g s W => expr_any l g A c a hlc ha s W)
  obtain ⟨⟨e, at2, bad2⟩, hp⟩ : ∃ p, orOf l a (unP l a 66) ⟨a, 0⟩ = p := ⟨_, rfl⟩
  simp only [hp] at hANS
  have HANS := Lib.hid hANS
  obtain ⟨w1, hw1⟩ : ∃ w1, w.alloc (.cells #[.int .i64 0, .int .i64 0, .string ⟨#[]⟩, .slice none 0 0] 25 (0, 0)) = w1 := ⟨_, rfl⟩
  obtain ⟨w2, hw2⟩ : ∃ w2, w1.alloc (.cells #[.slice A l.length c, .int .i64 a, .int .i64 a, .int .i64 0] 55 (0, 0)) = w2 := ⟨_, rfl⟩
  have hb1 : Below w.heap.size w w1 := hw1 ▸ (Below.refl _ _).alloc (Nat.le_refl _) _
  have hb2 : Below w1.heap.size w1 w2 := hw2 ▸ (Below.refl _ _).alloc (Nat.le_refl _) _
  have hbw : Below w.heap.size w w2 := hb1.trans (hb2.mono hb1.size)
  have hz1 : w1.heap[w.heap.size]? = some (.cells #[.int .i64 0, .int .i64 0, .string ⟨#[]⟩, .slice none 0 0] 25 (0, 0)) := hw1 ▸ heap_alloc_new _ _
  have hrd2 : RdB w2 w1.heap.size A l.length c a ⟨a, 0⟩ := hw2 ▸ heap_alloc_new _ _
  have hz2 := (hb2.block _ (blk_lt hz1)).trans hz1
  obtain ⟨g, hg⟩ : ∃ g, w1.heap.size = g := ⟨_, rfl⟩
  obtain ⟨K, hK⟩ : ∃ g, w.heap.size = g := ⟨_, rfl⟩
  have hKg : w.heap.size < w1.heap.size := blk_lt hz1
  rw [hg] at hrd2 hKg
  rw [hK] at hz2 hKg
  have hr2 : tokK.Row [g] w2 A l := (hr.less (M' := [g]) (fun k hk => by simp at hk; omega)).keep (Same.of_below hbw)
  have H2 := Lib.hid (⟨hrd2, hr2, hz2, hbw⟩ : _ ∧ _ ∧ _ ∧ _)
  have HP := Lib.hid hp
  have hgk : K + 1 = g := by rw [← hg, ← hw1, ← hK]; simp
  have HW := Lib.hid (⟨hw1, hw2, hgk⟩ : _ ∧ _ ∧ _)
  clear hw1 hw2 hb1 hb2 hbw hz1 hrd2 hz2 hr2 hANS hp hg hr hgk
  by_cases h0 : bad2 = 0
  · have h0b : (bad2 != 0) = false := by rw [h0]; rfl
    have h0c : (bad2 == 0) = true := by rw [h0]; rfl
    go_enter Tryd.func17, Tryd.ntmps17
    go_wp2_with fail
    rw [HW.out.1, HW.out.2.1, show K + 1 = g from HW.out.2.2]
    refine (HE.out g ⟨a, 0⟩ w2 H2.out.1 H2.out.2.1 (Int.le_refl _) (Int.le_refl _) (by show a ≤ a + 64; omega)).mono ?_
    rw [HP.out]
    rintro r w3 ⟨B, d, rfl, hx3, hrd3, hs3⟩
    simp only at hx3 hrd3
    have hz3 := hs3.heap (k := K) (by simp; omega) H2.out.2.2.1
    have H3 := Lib.hid (⟨hx3, hrd3, hs3, hz3⟩ : _ ∧ _ ∧ _ ∧ _)
    obtain ⟨⟨_, _, r2, r3⟩, _⟩ := blk4 hrd3
    obtain ⟨⟨z0, z1, z2, z3⟩, f0, f1, f2, f3⟩ := blk4 hz3
    have hgs : g < w3.heap.size := blk_lt hrd3
    have hks : K < w3.heap.size := blk_lt hz3
    obtain ⟨w4, hw4⟩ : ∃ w4, w3.alloc (.cells #[.int .i64 e.op, .int .i64 e.n, .string e.name, .slice B e.kids.length d] 25 (0, 0)) = w4 := ⟨_, rfl⟩
    have hb4 : Below w3.heap.size w3 w4 := hw4 ▸ (Below.refl _ _).alloc (Nat.le_refl _) _
    have hx4 : w4.heap[w3.heap.size]? = some (.cells #[.int .i64 e.op, .int .i64 e.n, .string e.name, .slice B e.kids.length d] 25 (0, 0)) := hw4 ▸ heap_alloc_new _ _
    have H4 := Lib.hid (⟨hb4, hrd3.same hb4, (hb4.block _ hks).trans hz3, hx4⟩ : _ ∧ _ ∧ _ ∧ _)
    have HW4 := Lib.hid hw4
    have HK := Lib.hid hK
    have HG2 := Lib.hid (blk_lt H2.out.1)
    obtain ⟨Kx, hKx⟩ : ∃ K, w3.heap.size = K := ⟨_, rfl⟩
    have HKx := Lib.hid hKx
    clear hx3 hrd3 hs3 hz3 hw4 hb4 hx4 hKx
    go_wp2_with fail
    clear r2 r3 z0 z1 z2 z3 f0 f1 f2 f3
    rw [HW4.out]
    obtain ⟨⟨_, _, r2, r3⟩, _⟩ := blk4 H4.out.2.1
    obtain ⟨⟨z0, z1, z2, z3⟩, f0, f1, f2, f3⟩ := blk4 H4.out.2.2.1
    obtain ⟨⟨x0, x1, x2, x3⟩, _⟩ := blk4 H4.out.2.2.2
    go_region_with (fail)
    all_goals
      go_wp2
      refine bodyPost_ret (v := .tuple #[exV e B d, .int .i64 0, .int .i64 at2]) (by simp [results, Tryd.results17, go_sem, *] <;> exact ⟨rfl, rfl, rfl, rfl⟩) rfl ?_
      have h4 : ∀ a b c d, Same [K] w4 (((((w4.setCell ⟨K, 0, none⟩ a).setCell ⟨K, 1, none⟩ b).setCell ⟨K, 2, none⟩ c).setCell ⟨K, 3, none⟩ d)) := same_set4 w4 K
      rw [← HANS.out, if_neg (by simp [h0])]
      have hK := HK.out
      first
        | exact take_end H2.out.2.2.2 hK hKg H3.out.2.2.1 H3.out.1 HG2.out H4.out.1 (h4 _ _ _ _)
        | exact take_end H2.out.2.2.2 hK hKg H3.out.2.2.1 H3.out.1 HG2.out H4.out.1 ((h4 _ _ _ _).drew)
        | exact take_end H2.out.2.2.2 hK hKg H3.out.2.2.1 H3.out.1 HG2.out H4.out.1 ((Same.drew (Same.refl [K] w4)).then_ (same_set4 _ K _ _ _ _))
  · have h0b : (bad2 != 0) = true := bne_iff_ne.2 h0
    have h0c : (bad2 == 0) = false := beq_eq_false_iff_ne.2 h0
    go_enter Tryd.func17, Tryd.ntmps17
    go_wp2_with fail
    rw [HW.out.1, HW.out.2.1, show K + 1 = g from HW.out.2.2]
    refine (HE.out g ⟨a, 0⟩ w2 H2.out.1 H2.out.2.1 (Int.le_refl _) (Int.le_refl _) (by show a ≤ a + 64; omega)).mono ?_
    rw [HP.out]
    rintro r w3 ⟨B, d, rfl, hx3, hrd3, hs3⟩
    simp only at hx3 hrd3
    have hz3 := hs3.heap (k := K) (by simp; omega) H2.out.2.2.1
    have H3 := Lib.hid (⟨hx3, hrd3, hs3, hz3⟩ : _ ∧ _ ∧ _ ∧ _)
    obtain ⟨⟨_, _, r2, r3⟩, _⟩ := blk4 hrd3
    obtain ⟨⟨z0, z1, z2, z3⟩, f0, f1, f2, f3⟩ := blk4 hz3
    have hgs : g < w3.heap.size := blk_lt hrd3
    have hks : K < w3.heap.size := blk_lt hz3
    obtain ⟨w4, hw4⟩ : ∃ w4, w3.alloc (.cells #[.int .i64 e.op, .int .i64 e.n, .string e.name, .slice B e.kids.length d] 25 (0, 0)) = w4 := ⟨_, rfl⟩
    have hb4 : Below w3.heap.size w3 w4 := hw4 ▸ (Below.refl _ _).alloc (Nat.le_refl _) _
    have hx4 : w4.heap[w3.heap.size]? = some (.cells #[.int .i64 e.op, .int .i64 e.n, .string e.name, .slice B e.kids.length d] 25 (0, 0)) := hw4 ▸ heap_alloc_new _ _
    have H4 := Lib.hid (⟨hb4, hrd3.same hb4, (hb4.block _ hks).trans hz3, hx4⟩ : _ ∧ _ ∧ _ ∧ _)
    have HW4 := Lib.hid hw4
    have HK := Lib.hid hK
    have HG2 := Lib.hid (blk_lt H2.out.1)
    obtain ⟨Kx, hKx⟩ : ∃ K, w3.heap.size = K := ⟨_, rfl⟩
    have HKx := Lib.hid hKx
    clear hx3 hrd3 hs3 hz3 hw4 hb4 hx4 hKx
    go_wp2_with fail
    clear r2 r3 z0 z1 z2 z3 f0 f1 f2 f3
    rw [HW4.out]
    obtain ⟨⟨_, _, r2, r3⟩, _⟩ := blk4 H4.out.2.1
    obtain ⟨⟨z0, z1, z2, z3⟩, f0, f1, f2, f3⟩ := blk4 H4.out.2.2.1
    obtain ⟨⟨x0, x1, x2, x3⟩, _⟩ := blk4 H4.out.2.2.2
    go_region_with (fail)
    all_goals
      go_wp2
      refine bodyPost_ret (v := .tuple #[exV zEx none 0, .int .i64 bad2, .int .i64 at2]) (by simp [results, Tryd.results17, go_sem, *] <;> exact ⟨rfl, rfl, rfl, rfl⟩) rfl ?_
      have h4 : ∀ a b c d, Same [K] w4 (((((w4.setCell ⟨K, 0, none⟩ a).setCell ⟨K, 1, none⟩ b).setCell ⟨K, 2, none⟩ c).setCell ⟨K, 3, none⟩ d)) := same_set4 w4 K
      rw [← HANS.out, if_pos h0]
      have hK := HK.out
      first
        | exact take_end H2.out.2.2.2 hK hKg H3.out.2.2.1 (ExF.leaf (e := zEx) rfl) HG2.out H4.out.1 (h4 _ _ _ _)
        | exact take_end H2.out.2.2.2 hK hKg H3.out.2.2.1 (ExF.leaf (e := zEx) rfl) HG2.out H4.out.1 ((h4 _ _ _ _).drew)
        | exact take_end H2.out.2.2.2 hK hKg H3.out.2.2.1 (ExF.leaf (e := zEx) rfl) HG2.out H4.out.1 ((Same.drew (Same.refl [K] w4)).then_ (same_set4 _ K _ _ _ _))
end Go.Proofs.YtgaiheojlmebaaaDoor
