/- The law that what any text is, printed, is the same again: the walk. -/
import Derived.Test.YtgaiheojlmebaaaGreatDoorD1
import Derived.Test.YtgaiheojlmebaaaGreatDoorF1
import Derived.Test.YtgaiheojlmebaaaGreatDoorG4
namespace Go.Proofs.YtgaiheojlmebaaaGreatDoor
open Go Go.RowKit Go.Lib

/-- A tree's block, by value. -/
def ExB (w : World) (k : Nat) (e : Ex) (A : Option Addr) (c : Nat) : Prop := w.heap[k]? = some (.cells #[.int .i64 e.op, .int .i64 e.n, .string e.name, .slice A e.kids.length c] 24 (0, 0))
theorem ExB.step {w w' : World} {k : Nat} {e : Ex} {A : Option Addr} {c : Nat} (h : ExB w k e A c) (hb : Below w.heap.size w w') : ExB w' k e A c := (hb.block k (blk_lt h)).trans h
theorem ExB.cells {w : World} {k : Nat} {e : Ex} {A : Option Addr} {c : Nat} (h : ExB w k e A c) :
    w.cell? ⟨k, 0, none⟩ = some (.int .i64 e.op) ∧ w.cell? ⟨k, 1, none⟩ = some (.int .i64 e.n) ∧ w.cell? ⟨k, 2, none⟩ = some (.string e.name) ∧ w.cell? ⟨k, 3, none⟩ = some (.slice A e.kids.length c) :=
  ⟨blk_cell h 0, blk_cell h 1, blk_cell h 2, blk_cell h 3⟩
theorem ExF.row {P : Nat → Prop} {w : World} {e : Ex} {A : Option Addr} {c : Nat} (h : ExF P w e A c) : exK.Row [] w A e.kids := h.2 [] (fun k hk => by simp at hk)

end Go.Proofs.YtgaiheojlmebaaaGreatDoor
