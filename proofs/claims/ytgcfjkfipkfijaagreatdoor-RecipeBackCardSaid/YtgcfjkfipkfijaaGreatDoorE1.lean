/- Walks through the small functions of expr. -/
import Derived.Test.YtgcfjkfipkfijaaGreatDoorProg
import Derived.Test.YtgcfjkfipkfijaaGreatDoorPure5
import Derived.Test.YtgcfjkfipkfijaaGreatDoorShelf
import Derived.Tactics
import Derived.WalkKit
import Derived.KernelRfl
import Derived.LoopTactic
import Derived.Deep.QuietTactic
import Derived.BigQuiet
import Derived.Outline
import Derived.Lib.Hide
namespace Go.Proofs.YtgcfjkfipkfijaaGreatDoor
open Go Go.RowKit
theorem ret_int {k : IntKind} {a b : Int} (h : a = b) : Ending.returned (.int k a) = .returned (.int k b) := by rw [h]
theorem ret_str {a b : ByteArray} (h : a = b) : Ending.returned (.string a) = .returned (.string b) := by rw [h]
theorem ret_int2 {k l : IntKind} {a b : Int} {p : Int × Int} (h : (a, b) = p) : Ending.returned (.tuple #[.int k a, .int l b]) = .returned (.tuple #[.int k p.1, .int l p.2]) := by rw [← h]
set_option maxHeartbeats 400000 in
theorem line_any (op : Int) (w : World) : Calls Tryz.prog 172 #[.int .i64 op] w fun e w' => e = .returned (.int .i64 (eLine op)) ∧ w = w' := by
  go_enter Tryz.func172, Tryz.ntmps172
  go_wp2
  all_goals
    go_ret
    refine ⟨ret_int ?_, rfl⟩
    simp only [beq_iff_eq, beq_eq_false_iff_ne, ne_eq] at *
    unfold eLine
    (repeat (first | rw [if_pos (by omega)] | rw [if_neg (by omega)]))
set_option maxHeartbeats 400000 in
theorem sign_any (op : Int) (w : World) : Calls Tryz.prog 159 #[.int .i64 op] w fun e w' => e = .returned (.string (eSign op)) ∧ w = w' := by
  go_enter Tryz.func159, Tryz.ntmps159
  go_wp2
  all_goals
    go_ret
    refine ⟨ret_str ?_, rfl⟩
    simp only [beq_iff_eq, beq_eq_false_iff_ne, ne_eq] at *
    unfold eSign
    (repeat (first | rw [if_pos (by omega)] | rw [if_neg (by omega)]))
    all_goals rfl
end Go.Proofs.YtgcfjkfipkfijaaGreatDoor
