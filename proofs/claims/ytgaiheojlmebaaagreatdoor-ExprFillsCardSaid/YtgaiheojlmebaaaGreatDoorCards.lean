/-
  DERIVED. GIVEN WITH THE SEED: THE CARDS: each row of YtgaiheojlmebaaaGreatDoorRows.lean that lists a variable, with what it lists TIED to the program's text (the seventh form; the later family's looks); each row that meets fmt, with fmt's text TOLD by the authors' own Lean function (tested against real Go, not proved from fmt's source: count such statements apart). THE CARD IS WHAT COUNTS. Prove the row's statement (the work); the ties are given (YtgaiheojlmebaaaGreatDoorTie.lean); close each card by the builder's one call (the guide's Derived/Test/ToyasCard.lean, 'card_holds'). Laid BY PROGRAM, IN A SANDBOX (cutbox-door.mjs). By AI agents, Wed Nov 11 2026. No macro, syntax, notation, axiom, sorry.
-/
import Derived.Test.YtgaiheojlmebaaaGreatDoorRows
import GoSem.ClaimSeven
namespace Go.Proofs.YtgaiheojlmebaaaGreatDoor
namespace Rows

/-- THE TIED CARD OF 'malthouselaw02.ExprTrees'. -/
def exprTreesCard : Claim7 := { stood := { row := exprTreesRow, standIns := [], harness := (true, "762f3ddc65ba64c3bdfdf8a468a210e2cc16db127b131ee42487fd71f493d30a"), looks := false }, kinds := [], alts := [], laidByText := true, laidKinds := [.data, .data, .data, .data, .pinned], laidTests := true, laidLooks := .later }
def ExprTreesCardSaid : Prop := Claim7.holds Tryz.pinned (.plain (OpenSpec.ofChange exprTreesSpec)) exprTreesCard

/-- THE TIED CARD OF 'malthouselaw02.ExprFills'. -/
def exprFillsCard : Claim7 := { stood := { row := exprFillsRow, standIns := [], harness := (true, "762f3ddc65ba64c3bdfdf8a468a210e2cc16db127b131ee42487fd71f493d30a"), looks := false }, kinds := [], alts := [], laidByText := true, laidKinds := [.data, .data, .data, .data, .pinned], laidTests := true, laidLooks := .later }
def ExprFillsCardSaid : Prop := Claim7.holds Tryz.pinned (.plain (OpenSpec.ofChange exprFillsSpec)) exprFillsCard

/-- THE SECOND FORM's CARD OF 'malthouselaw02.ExprTrees'. -/
def exprTreesUptoCard : Claim7 := { stood := { row := exprTreesUptoRow, standIns := [], harness := (true, "762f3ddc65ba64c3bdfdf8a468a210e2cc16db127b131ee42487fd71f493d30a"), looks := false }, kinds := [], alts := [], laidByText := true, laidKinds := [.data, .data, .data, .data, .pinned], laidTests := true, laidLooks := .later }
def ExprTreesUptoCardSaid : Prop := Claim7.holds Tryz.pinned (.plain (OpenSpec.upto exprTreesSpec)) exprTreesUptoCard

/-- THE SECOND FORM's CARD OF 'malthouselaw02.ExprFills'. -/
def exprFillsUptoCard : Claim7 := { stood := { row := exprFillsUptoRow, standIns := [], harness := (true, "762f3ddc65ba64c3bdfdf8a468a210e2cc16db127b131ee42487fd71f493d30a"), looks := false }, kinds := [], alts := [], laidByText := true, laidKinds := [.data, .data, .data, .data, .pinned], laidTests := true, laidLooks := .later }
def ExprFillsUptoCardSaid : Prop := Claim7.holds Tryz.pinned (.plain (OpenSpec.upto exprFillsSpec)) exprFillsUptoCard
end Rows
end Go.Proofs.YtgaiheojlmebaaaGreatDoor
