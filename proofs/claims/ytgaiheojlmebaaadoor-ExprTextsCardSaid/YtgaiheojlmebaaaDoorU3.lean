/- The law that any text is the tree, or has the fault, and the place, that the document says: the walk. -/
import Derived.Test.YtgaiheojlmebaaaDoorU1
namespace Go.Proofs.YtgaiheojlmebaaaDoor
open Go Go.RowKit Go.Lib

set_option maxHeartbeats 8000000 in
set_option maxRecDepth 100000 in
theorem texts_any (s : ByteArray) (w : World) (hT : Tabs w) (_hs : s.size ≤ maxLen) :
    Calls Tryd.prog 3 #[.string s] w fun r w' => r = .returned (.bool true) ∧ Below w.heap.size w w' := by
  have H0 := Lib.hid (Hold.mk hT (Below.refl w.heap.size w))
  obtain ⟨⟨e, f, n⟩, hp⟩ : ∃ p, parseP s = p := ⟨_, rfl⟩
  have HP := Lib.hid hp
  clear hT hp
  by_cases h3 : (5000 : Int) < s.size
  · clear HP
    go_enter Tryd.func3, Tryd.ntmps3
    go_wp2_with fail
    refine (awake_any w H0.out.tabs).mono ?_
    rintro r w1 ⟨rfl, hb1⟩
    have H1 := Lib.hid (H0.out.step hb1)
    clear hb1
    go_wp2_with fail
    go_ret
    exact ⟨rfl, H1.out.below⟩
  have h3' : (s.size : Int) ≤ 5000 := by omega
  clear h3
  have HT : Hid (∀ W, Tabs W → Calls Tryd.prog 14 #[.string s] W (TakePost W.heap.size (e, f, n) W)) := Lib.hid (fun W h => by
    have := parse_any s W h (by omega)
    rwa [HP.out] at this)
  have HX : Hid (∀ W, Calls Tryd.prog 15 #[.string s] W (TakePost W.heap.size (e, f, n) W)) := Lib.hid (fun W => by
    have := xparse_any s W (by omega)
    rwa [HP.out] at this)
  clear HP
  go_enter Tryd.func3, Tryd.ntmps3
  go_wp2_with fail
  refine (awake_any w H0.out.tabs).mono ?_
  rintro r w1 ⟨rfl, hb1⟩
  have H1 := Lib.hid (H0.out.step hb1)
  clear hb1
  go_wp2_with fail
  refine (HT.out w1 H1.out.tabs).mono ?_
  rintro r w2 ⟨B, d, rfl, hx2, hb2⟩
  simp only at hx2
  have H2 := Lib.hid (H1.out.step hb2)
  have X2 := Lib.hid hx2
  clear hb2 hx2
  go_wp2_with fail
  obtain ⟨w3, hw3⟩ : ∃ w', w2.alloc (.cells #[.int .i64 e.op, .int .i64 e.n, .string e.name, .slice B e.kids.length d] 25 (0, 0)) = w' := ⟨_, rfl⟩
  have hb3 : Below w2.heap.size w2 w3 := hw3 ▸ (Below.refl _ _).alloc (Nat.le_refl _) _
  have hq3 : ExBk w3 w2.heap.size e B d := hw3 ▸ heap_alloc_new _ _
  obtain ⟨E, hE⟩ : ∃ E, w2.heap.size = E := ⟨_, rfl⟩
  rw [hw3, hE]
  rw [hE] at hq3
  have H3 := Lib.hid (H2.out.step hb3)
  have X3 := Lib.hid (X2.out.below hb3)
  have Q3 := Lib.hid hq3
  clear hb3 hq3 hw3 hE
  refine (HX.out w3).mono ?_
  rintro r w4 ⟨B2, d2, rfl, hx4, hb4⟩
  simp only at hx4
  have H4 := Lib.hid (H3.out.step hb4)
  have X4 := Lib.hid (X3.out.below hb4)
  have Q4 := Lib.hid (Q3.out.step hb4)
  have Y4 := Lib.hid hx4
  clear hb4 hx4
  obtain ⟨⟨z0, z1, z2, z3⟩, g0, g1, g2, g3⟩ := blk4 Q4.out
  have hlE := blk_lt Q4.out
  go_wp2_with fail
  obtain ⟨w5, hw5⟩ : ∃ w', w4.alloc (.cells #[.int .i64 e.op, .int .i64 e.n, .string e.name, .slice B2 e.kids.length d2] 25 (0, 0)) = w' := ⟨_, rfl⟩
  have hb5 : Below w4.heap.size w4 w5 := hw5 ▸ (Below.refl _ _).alloc (Nat.le_refl _) _
  try rw [hw5]
  have H5 := Lib.hid (H4.out.step hb5)
  have X5 := Lib.hid (X4.out.below hb5)
  have Y5 := Lib.hid (Y4.out.below hb5)
  clear hb5 hw5
  refine (same_eq e B d B2 d2 w5 X5.out.row X5.out.1 Y5.out.row Y5.out.1).mono ?_
  rintro r w6 ⟨rfl, hb6⟩
  have H6 := Lib.hid (H5.out.step hb6)
  clear hb6 z0 z1 z2 z3 g0 g1 g2 g3
  go_wp2_with fail
  go_ret
  exact ⟨rfl, H6.out.below⟩
end Go.Proofs.YtgaiheojlmebaaaDoor
