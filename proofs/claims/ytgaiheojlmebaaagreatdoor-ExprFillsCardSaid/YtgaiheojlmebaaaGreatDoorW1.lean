/- Walks: the reference's small functions on tokens. -/
import Derived.Test.YtgaiheojlmebaaaGreatDoorR3
import Derived.Test.YtgaiheojlmebaaaGreatDoorF1
import Derived.Test.YtgaiheojlmebaaaGreatDoorG1
namespace Go.Proofs.YtgaiheojlmebaaaGreatDoor
open Go Go.RowKit Go.Lib

set_option maxHeartbeats 1000000 in
theorem xline_any (op : Int) (w : World) : Calls Tryz.prog 74 #[.int .i64 op] w fun e w' => e = .returned (.int .i64 (eLine op)) ∧ w' = w := by
  go_enter Tryz.func74, Tryz.ntmps74
  go_wp2
  all_goals
    go_ret
    refine ⟨ret_int ?_, rfl⟩
    simp only [beq_iff_eq, beq_eq_false_iff_ne, ne_eq] at *
    unfold eLine
    (repeat (first | rw [if_pos (by omega)] | rw [if_neg (by omega)]))

def sg17 : Array Value := #[.string ⟨#[]⟩, .string ⟨#[]⟩, .string ⟨#[45]⟩, .string ⟨#[33]⟩, .string ⟨#[43]⟩, .string ⟨#[45]⟩, .string ⟨#[42]⟩, .string ⟨#[47]⟩, .string ⟨#[37]⟩, .string ⟨#[60]⟩, .string ⟨#[60, 61]⟩, .string ⟨#[62]⟩, .string ⟨#[62, 61]⟩, .string ⟨#[61, 61]⟩, .string ⟨#[33, 61]⟩, .string ⟨#[38]⟩, .string ⟨#[124]⟩]
theorem sg17_at (i : Nat) (h2 : 2 ≤ i) (h : i < 17) : sg17[i]? = some (.string (eSign i)) := by
  have hi : i = 2 ∨ i = 3 ∨ i = 4 ∨ i = 5 ∨ i = 6 ∨ i = 7 ∨ i = 8 ∨ i = 9 ∨ i = 10 ∨ i = 11 ∨ i = 12 ∨ i = 13 ∨ i = 14 ∨ i = 15 ∨ i = 16 := by omega
  rcases hi with rfl | rfl | rfl | rfl | rfl | rfl | rfl | rfl | rfl | rfl | rfl | rfl | rfl | rfl | rfl <;> rfl
set_option maxHeartbeats 2000000 in
set_option maxRecDepth 100000 in
theorem xsign_any (i : Nat) (h2 : 2 ≤ i) (h : i < 17) (w : World) : Calls Tryz.prog 44 #[.int .i64 i] w fun e w' => e = .returned (.string (eSign i)) ∧ Below w.heap.size w w' := by
  have hz : (i : Int) < 17 := by omega
  have hz0 : (0 : Int) ≤ i := by omega
  have hs := sg17_at i h2 h
  unfold sg17 at hs
  clear h2 h
  go_enter Tryz.func44, Tryz.ntmps44
  go_wp2_with fail
  go_ret
  exact ⟨rfl, (Below.refl _ _).alloc (Nat.le_refl _) _⟩

end Go.Proofs.YtgaiheojlmebaaaGreatDoor
