/- Walks: Parse. -/
import Derived.Test.YtgaiheojlmebaaaGreatDoorR10
import Derived.Test.YtgaiheojlmebaaaGreatDoorPure6
import Derived.Test.YtgaiheojlmebaaaGreatDoorC5
namespace Go.Proofs.YtgaiheojlmebaaaGreatDoor
open Go Go.RowKit Go.Lib

theorem parse_end {K : Nat} {B : Option Addr} {d b : Nat} {e : Ex} {x y : Int} {w W0 W : World} (hK : w.heap.size = K) (hx : ExF (fun k => k < b) W0 e B d) (hb : K < b) (hw : Below w.heap.size w W0)
    (h4 : Same [K] W0 W) : TakePost K (e, x, y) w (.returned (.tuple #[exV e B d, .int .i64 x, .int .i64 y])) W := by
  rw [← hK]
  refine ⟨B, d, rfl, (hx.keep h4 (fun k hk => by simp at hk; omega)).more (fun k hk => .inl (by show k < b; omega)), ?_⟩
  exact (((Same.of_below (M := [K]) hw).trans h4 (fun x hx => .inl hx))).below_of (fun k hk => by simp at hk; omega)

set_option maxHeartbeats 4000000 in
set_option maxRecDepth 100000 in
theorem parse_any (s : ByteArray) (w : World) (hT : Tabs w) (hs : s.size ≤ 9223372036854775806) :
    Calls Tryz.prog 19 #[.string s] w (TakePost w.heap.size (parseP s) w) := by
  obtain ⟨ANS, hANS⟩ : ∃ r, parseP s = r := ⟨_, rfl⟩
  rw [hANS]
  unfold parseP at hANS
  obtain ⟨w1, hw1⟩ : ∃ w1, w.alloc (.cells #[.int .i64 0, .int .i64 0, .string ⟨#[]⟩, .slice none 0 0] 24 (0, 0)) = w1 := ⟨_, rfl⟩
  have hb1 : Below w.heap.size w w1 := hw1 ▸ (Below.refl _ _).alloc (Nat.le_refl _) _
  have hz1 : w1.heap[w.heap.size]? = some (.cells #[.int .i64 0, .int .i64 0, .string ⟨#[]⟩, .slice none 0 0] 24 (0, 0)) := hw1 ▸ heap_alloc_new _ _
  have HCUT := Lib.hid (cut_any s w1 (hT.below hb1) hs)
  obtain ⟨K, hK⟩ : ∃ g, w.heap.size = g := ⟨_, rfl⟩
  obtain ⟨⟨tk, ce, ca⟩, hc⟩ : ∃ c, cutB s = c := ⟨_, rfl⟩
  have HC := Lib.hid hc
  simp only [hc] at hANS
  have HANS := Lib.hid hANS
  have HK := Lib.hid hK
  rw [hK] at hz1 ⊢
  have H1 := Lib.hid (⟨hb1, hz1⟩ : _ ∧ _)
  have HW1 := Lib.hid hw1
  have hk1 : K < w1.heap.size := blk_lt hz1
  clear hb1 hz1 hw1 hK hc hANS hT
  by_cases h0 : ce = 0
  · have h0b : (ce != 0) = false := by rw [h0]; rfl
    have hend := cutB_ended s (by rw [HC.out]; exact h0)
    rw [HC.out] at hend
    simp only at hend
    have hin := takeP_in 0 hend ⟨by omega, by have := hend.1; omega⟩
    obtain ⟨⟨e, te, tp⟩, hp⟩ : ∃ p, takeP tk 0 = p := ⟨_, rfl⟩
    rw [hp] at hin
    simp only at hin
    obtain ⟨k, rfl⟩ := Int.eq_ofNat_of_zero_le hin.1
    have hk : k < tk.length := by omega
    have hkz : (k : Int) < tk.length := by omega
    have hk0 : (0 : Int) ≤ k := by omega
    have hta : tokAt tk (k : Int) = tk[k] := by
      unfold tokAt
      rw [if_neg (by omega), Int.toNat_natCast, List.getD_eq_getElem?_getD, List.getElem?_eq_getElem hk]
      exact rfl
    have h := HANS.out
    rw [if_neg (by simp [h0]), hp] at h
    simp only [hta] at h
    have HP := Lib.hid hp
    clear hp hend hin hta HANS
    by_cases ht : te = 0
    · have htb : (te == 0) = true := by rw [ht]; rfl
      by_cases hkd : tk[k].kind = 0
      · have hkb : (tk[k].kind != 0) = false := by rw [hkd]; rfl
        rw [show (if te = 0 ∧ tk[k].kind ≠ 0 then (11 : Int) else te) = te from if_neg (fun hc => hc.2 hkd), if_neg (by simp [ht])] at h
        have HA := Lib.hid h
        have htn : (te != 0) = false := by rw [ht]; rfl
        clear h
        go_enter Tryz.func19, Tryz.ntmps19
        go_wp2_with (rw [HW1.out, HK.out]; refine HCUT.out.mono ?_; unfold CutPost; rw [HC.out]; rintro r w2 ⟨A, c, rfl, hlc, hrow, hb2⟩; simp only at hlc hrow; have H2 := Lib.hid (⟨hlc, hrow, hb2⟩ : _ ∧ _ ∧ _); clear hlc hrow hb2)
        refine (take_any tk A c 0 w2 (H2.out.2.1 [] (fun k hk => by simp at hk)) H2.out.1 (by omega)).mono ?_
        rw [HP.out]
        rintro r w3 ⟨B, d, rfl, hx3, hb3⟩
        simp only at hx3
        obtain ⟨w4, hw4⟩ : ∃ w4, w3.alloc (.cells #[.int .i64 e.op, .int .i64 e.n, .string e.name, .slice B e.kids.length d] 24 (0, 0)) = w4 := ⟨_, rfl⟩
        have hb4 : Below w3.heap.size w3 w4 := hw4 ▸ (Below.refl _ _).alloc (Nat.le_refl _) _
        have hx4 : w4.heap[w3.heap.size]? = some (.cells #[.int .i64 e.op, .int .i64 e.n, .string e.name, .slice B e.kids.length d] 24 (0, 0)) := hw4 ▸ heap_alloc_new _ _
        have hb24 : Below w2.heap.size w2 w4 := hb3.trans (hb4.mono hb3.size)
        have hrow := (H2.out.2.1 [K] (fun k hk => by simp at hk; omega)).keep (Same.of_below hb24)
        obtain ⟨ad, rfl, hadK, _, _⟩ := hrow.2 (by omega)
        obtain ⟨x0, x1, x2, x3⟩ := tok_some hrow k hk
        have hlt := World.block_lt_of_cell? w4 _ x0
        have hadK' : (ad.add (k * 4)).block ≠ K := by rw [Kind.block_add]; simpa using hadK
        have hz4 := (hb24.block K (blk_lt ((H2.out.2.2.block _ hk1).trans H1.out.2))).trans ((H2.out.2.2.block _ hk1).trans H1.out.2)
        obtain ⟨⟨z0, z1, z2, z3⟩, f0, f1, f2, f3⟩ := blk4 hz4
        obtain ⟨⟨y0, y1, y2, y3⟩, _⟩ := blk4 hx4
        have H4 := Lib.hid (⟨hx3.below hb4, H1.out.1.trans ((H2.out.2.2.trans (hb24.mono H2.out.2.2.size)).mono H1.out.1.size)⟩ : _ ∧ _)
        have hlcz : (tk.length : Int) ≤ c := by have := H2.out.1; omega
        have hkw2 : K < w2.heap.size := Nat.lt_of_lt_of_le hk1 H2.out.2.2.size
        have HW4 := Lib.hid hw4
        obtain ⟨Kx, hKx⟩ : ∃ K, w3.heap.size = K := ⟨_, rfl⟩
        rw [hKx] at y0 y1 y2 y3
        have HKx := Lib.hid hKx
        clear hx3 hb3 hw4 hb4 hx4 hb24 hrow hadK hz4 hKx
        go_wp2_with (rw [HW4.out, HKx.out])
        refine bodyPost_ret (v := .tuple #[exV e B d, .int .i64 0, .int .i64 0]) (by simp [results, Tryz.results19, go_sem, *]) rfl ?_
        rw [← HA.out]
        exact parse_end HK.out (b := w2.heap.size) H4.out.1 hkw2 H4.out.2 (same_set4 w4 K _ _ _ _)
      · have hkb : (tk[k].kind != 0) = true := bne_iff_ne.2 hkd
        rw [show (if te = 0 ∧ tk[k].kind ≠ 0 then (11 : Int) else te) = 11 from if_pos ⟨ht, hkd⟩, if_pos (by decide)] at h
        have HA := Lib.hid h
        clear h
        go_enter Tryz.func19, Tryz.ntmps19
        go_wp2_with (rw [HW1.out, HK.out]; refine HCUT.out.mono ?_; unfold CutPost; rw [HC.out]; rintro r w2 ⟨A, c, rfl, hlc, hrow, hb2⟩; simp only at hlc hrow; have H2 := Lib.hid (⟨hlc, hrow, hb2⟩ : _ ∧ _ ∧ _); clear hlc hrow hb2)
        refine (take_any tk A c 0 w2 (H2.out.2.1 [] (fun k hk => by simp at hk)) H2.out.1 (by omega)).mono ?_
        rw [HP.out]
        rintro r w3 ⟨B, d, rfl, hx3, hb3⟩
        simp only at hx3
        obtain ⟨w4, hw4⟩ : ∃ w4, w3.alloc (.cells #[.int .i64 e.op, .int .i64 e.n, .string e.name, .slice B e.kids.length d] 24 (0, 0)) = w4 := ⟨_, rfl⟩
        have hb4 : Below w3.heap.size w3 w4 := hw4 ▸ (Below.refl _ _).alloc (Nat.le_refl _) _
        have hx4 : w4.heap[w3.heap.size]? = some (.cells #[.int .i64 e.op, .int .i64 e.n, .string e.name, .slice B e.kids.length d] 24 (0, 0)) := hw4 ▸ heap_alloc_new _ _
        have hb24 : Below w2.heap.size w2 w4 := hb3.trans (hb4.mono hb3.size)
        have hrow := (H2.out.2.1 [K] (fun k hk => by simp at hk; omega)).keep (Same.of_below hb24)
        obtain ⟨ad, rfl, hadK, _, _⟩ := hrow.2 (by omega)
        obtain ⟨x0, x1, x2, x3⟩ := tok_some hrow k hk
        have hlt := World.block_lt_of_cell? w4 _ x0
        have hadK' : (ad.add (k * 4)).block ≠ K := by rw [Kind.block_add]; simpa using hadK
        have hz4 := (hb24.block K (blk_lt ((H2.out.2.2.block _ hk1).trans H1.out.2))).trans ((H2.out.2.2.block _ hk1).trans H1.out.2)
        obtain ⟨⟨z0, z1, z2, z3⟩, f0, f1, f2, f3⟩ := blk4 hz4
        obtain ⟨⟨y0, y1, y2, y3⟩, _⟩ := blk4 hx4
        have H4 := Lib.hid (⟨hx3.below hb4, H1.out.1.trans ((H2.out.2.2.trans (hb24.mono H2.out.2.2.size)).mono H1.out.1.size)⟩ : _ ∧ _)
        have hlcz : (tk.length : Int) ≤ c := by have := H2.out.1; omega
        have hkw2 : K < w2.heap.size := Nat.lt_of_lt_of_le hk1 H2.out.2.2.size
        have HW4 := Lib.hid hw4
        obtain ⟨Kx, hKx⟩ : ∃ K, w3.heap.size = K := ⟨_, rfl⟩
        rw [hKx] at y0 y1 y2 y3
        have HKx := Lib.hid hKx
        clear hx3 hb3 hw4 hb4 hx4 hb24 hrow hadK hz4 hKx
        go_wp2_with (rw [HW4.out, HKx.out])
        go_region_with (fail)
        all_goals
          go_wp2
          refine bodyPost_ret (v := .tuple #[exV zEx none 0, .int .i64 11, .int .i64 tk[k].at_]) (by simp [results, Tryz.results19, go_sem, *] <;> exact ⟨rfl, rfl, rfl, rfl⟩) rfl ?_
          have h4 : ∀ a b c d, Same [K] w4 (((((w4.setCell ⟨K, 0, none⟩ a).setCell ⟨K, 1, none⟩ b).setCell ⟨K, 2, none⟩ c).setCell ⟨K, 3, none⟩ d)) := same_set4 w4 K
          rw [← HA.out]
          first
            | exact parse_end HK.out (b := K + 1) (ExF.leaf (e := zEx) rfl) (by omega) H4.out.2 (h4 _ _ _ _)
            | exact parse_end HK.out (b := K + 1) (ExF.leaf (e := zEx) rfl) (by omega) H4.out.2 ((h4 _ _ _ _).drew)
            | exact parse_end HK.out (b := K + 1) (ExF.leaf (e := zEx) rfl) (by omega) H4.out.2 ((Same.drew (Same.refl [K] w4)).then_ (same_set4 _ K _ _ _ _))
    · have htb : (te == 0) = false := beq_eq_false_iff_ne.2 ht
      have htn : (te != 0) = true := bne_iff_ne.2 ht
      rw [show (if te = 0 ∧ tk[k].kind ≠ 0 then (11 : Int) else te) = te from if_neg (fun hc => ht hc.1), if_pos ht] at h
      have HA := Lib.hid h
      clear h
      go_enter Tryz.func19, Tryz.ntmps19
      go_wp2_with (rw [HW1.out, HK.out]; refine HCUT.out.mono ?_; unfold CutPost; rw [HC.out]; rintro r w2 ⟨A, c, rfl, hlc, hrow, hb2⟩; simp only at hlc hrow; have H2 := Lib.hid (⟨hlc, hrow, hb2⟩ : _ ∧ _ ∧ _); clear hlc hrow hb2)
      refine (take_any tk A c 0 w2 (H2.out.2.1 [] (fun k hk => by simp at hk)) H2.out.1 (by omega)).mono ?_
      rw [HP.out]
      rintro r w3 ⟨B, d, rfl, hx3, hb3⟩
      simp only at hx3
      obtain ⟨w4, hw4⟩ : ∃ w4, w3.alloc (.cells #[.int .i64 e.op, .int .i64 e.n, .string e.name, .slice B e.kids.length d] 24 (0, 0)) = w4 := ⟨_, rfl⟩
      have hb4 : Below w3.heap.size w3 w4 := hw4 ▸ (Below.refl _ _).alloc (Nat.le_refl _) _
      have hx4 : w4.heap[w3.heap.size]? = some (.cells #[.int .i64 e.op, .int .i64 e.n, .string e.name, .slice B e.kids.length d] 24 (0, 0)) := hw4 ▸ heap_alloc_new _ _
      have hb24 : Below w2.heap.size w2 w4 := hb3.trans (hb4.mono hb3.size)
      have hrow := (H2.out.2.1 [K] (fun k hk => by simp at hk; omega)).keep (Same.of_below hb24)
      obtain ⟨ad, rfl, hadK, _, _⟩ := hrow.2 (by omega)
      obtain ⟨x0, x1, x2, x3⟩ := tok_some hrow k hk
      have hlt := World.block_lt_of_cell? w4 _ x0
      have hadK' : (ad.add (k * 4)).block ≠ K := by rw [Kind.block_add]; simpa using hadK
      have hz4 := (hb24.block K (blk_lt ((H2.out.2.2.block _ hk1).trans H1.out.2))).trans ((H2.out.2.2.block _ hk1).trans H1.out.2)
      obtain ⟨⟨z0, z1, z2, z3⟩, f0, f1, f2, f3⟩ := blk4 hz4
      obtain ⟨⟨y0, y1, y2, y3⟩, _⟩ := blk4 hx4
      have H4 := Lib.hid (⟨hx3.below hb4, H1.out.1.trans ((H2.out.2.2.trans (hb24.mono H2.out.2.2.size)).mono H1.out.1.size)⟩ : _ ∧ _)
      have hlcz : (tk.length : Int) ≤ c := by have := H2.out.1; omega
      have hkw2 : K < w2.heap.size := Nat.lt_of_lt_of_le hk1 H2.out.2.2.size
      have HW4 := Lib.hid hw4
      obtain ⟨Kx, hKx⟩ : ∃ K, w3.heap.size = K := ⟨_, rfl⟩
      rw [hKx] at y0 y1 y2 y3
      have HKx := Lib.hid hKx
      clear hx3 hb3 hw4 hb4 hx4 hb24 hrow hadK hz4 hKx
      go_wp2_with (rw [HW4.out, HKx.out])
      go_region_with (fail)
      all_goals
        go_wp2
        refine bodyPost_ret (v := .tuple #[exV zEx none 0, .int .i64 te, .int .i64 tk[k].at_]) (by simp [results, Tryz.results19, go_sem, *] <;> exact ⟨rfl, rfl, rfl, rfl⟩) rfl ?_
        have h4 : ∀ a b c d, Same [K] w4 (((((w4.setCell ⟨K, 0, none⟩ a).setCell ⟨K, 1, none⟩ b).setCell ⟨K, 2, none⟩ c).setCell ⟨K, 3, none⟩ d)) := same_set4 w4 K
        rw [← HA.out]
        first
          | exact parse_end HK.out (b := K + 1) (ExF.leaf (e := zEx) rfl) (by omega) H4.out.2 (h4 _ _ _ _)
          | exact parse_end HK.out (b := K + 1) (ExF.leaf (e := zEx) rfl) (by omega) H4.out.2 ((h4 _ _ _ _).drew)
          | exact parse_end HK.out (b := K + 1) (ExF.leaf (e := zEx) rfl) (by omega) H4.out.2 ((Same.drew (Same.refl [K] w4)).then_ (same_set4 _ K _ _ _ _))
  · have h0b : (ce != 0) = true := bne_iff_ne.2 h0
    go_enter Tryz.func19, Tryz.ntmps19
    go_wp2_with (rw [HW1.out, HK.out]; refine HCUT.out.mono ?_; unfold CutPost; rw [HC.out]; rintro r w2 ⟨A, c, rfl, hlc, hrow, hb2⟩; obtain ⟨⟨z0, z1, z2, z3⟩, f0, f1, f2, f3⟩ := blk4 ((hb2.block _ hk1).trans H1.out.2); have H2 := Lib.hid hb2; clear hlc hrow hb2)
    refine bodyPost_ret (v := .tuple #[exV zEx none 0, .int .i64 ce, .int .i64 ca]) (by simp [results, Tryz.results19, go_sem, *] <;> exact ⟨rfl, rfl, rfl, rfl⟩) rfl ?_
    rw [← HANS.out, if_pos h0]
    exact parse_end HK.out (b := K + 1) (ExF.leaf rfl) (by omega) (H1.out.1.trans (H2.out.mono H1.out.1.size)) (same_set4 _ _ _ _ _ _)
end Go.Proofs.YtgaiheojlmebaaaGreatDoor
