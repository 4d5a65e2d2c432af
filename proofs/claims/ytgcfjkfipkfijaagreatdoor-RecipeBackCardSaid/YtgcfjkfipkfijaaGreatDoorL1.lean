/- Walks through the small functions of lex. -/
import Derived.Test.YtgcfjkfipkfijaaGreatDoorProg
import Derived.Test.YtgcfjkfipkfijaaGreatDoorTokB
import Derived.Test.YtgcfjkfipkfijaaGreatDoorShelf
import Derived.Tactics
import Derived.WalkKit
import Derived.KernelRfl
import Derived.LoopTactic
import Derived.Deep.QuietTactic
import Derived.BigQuiet
import Derived.Outline
import Derived.Lib.Hide
import Derived.Laws.RangeString
import Derived.Laws.RangeAny
namespace Go.Proofs.YtgcfjkfipkfijaaGreatDoor
open Go Go.RowKit Go.Lib
theorem ret_cls {a b : Int} (h : a = b) : Ending.returned (.int .i64 a) = .returned (.int .i64 b) := by rw [h]
set_option maxHeartbeats 1000000 in
theorem class_any (r : Int) (w : World) (h0 : -2147483648 ≤ r) (h1 : r ≤ 2147483647) : Calls Tryz.prog 74 #[.int .i32 r] w fun e w' => e = .returned (.int .i64 (cls r)) ∧ w = w' := by
  by_cases hs : 32 < r ∧ r < 127
  · obtain ⟨hs1, hs2⟩ := hs
    have hc := Lib.hid (fun w => Tryz.strings_IndexByte ⟨#[40, 41, 123, 125, 44, 59, 58, 61, 43, 45, 42, 47, 37, 60, 62, 33, 38, 124]⟩ r w)
    obtain ⟨x, hx⟩ : ∃ x, Lib.indexByte signs r.toNat.toUInt8 = x := ⟨_, rfl⟩
    have hX : Hid (Lib.indexByte signs r.toNat.toUInt8 = x) := hx
    have hc' : Hid (∀ w : World, Calls Tryz.prog 75 #[.string ⟨#[40, 41, 123, 125, 44, 59, 58, 61, 43, 45, 42, 47, 37, 60, 62, 33, 38, 124]⟩, .int .u8 r] w fun e w' => e = .returned (.int .i64 x) ∧ w' = w) := by
      subst hx
      exact hc.out
    clear hc hx
    go_enter Tryz.func74, Tryz.ntmps74
    go_wp2_with (go_at_call 75; refine (hc'.out _).mono ?_; rintro e w' ⟨rfl, rfl⟩)
    all_goals
      go_ret
      refine ⟨ret_cls ?_, rfl⟩
      simp only [beq_iff_eq, beq_eq_false_iff_ne, ne_eq] at *
      unfold cls
      rw [hX.out]
      (repeat (first | rw [if_pos (by omega)] | rw [if_neg (by omega)]))
  · have hs' : r ≤ 32 ∨ 127 ≤ r := by omega
    clear hs
    go_enter Tryz.func74, Tryz.ntmps74
    go_wp2_with fail
    all_goals (first | (exfalso; omega) | skip)
    all_goals
      go_ret
      refine ⟨ret_cls ?_, rfl⟩
      simp only [beq_iff_eq, beq_eq_false_iff_ne, ne_eq, bne_iff_ne, bne_eq_false_iff_eq] at *
      unfold cls
      (repeat (first | rw [if_pos (by omega)] | rw [if_neg (by omega)]))
end Go.Proofs.YtgcfjkfipkfijaaGreatDoor
