/-
  DERIVED. GIVEN WITH THE SEED: THE CARDS: each row of YtgaiheojlmebaaaDoorRows.lean that lists a variable, with what it lists TIED to the program's text (the seventh form; the later family's looks); each row that meets fmt, with fmt's text TOLD by the authors' own Lean function (tested against real Go, not proved from fmt's source: count such statements apart). THE CARD IS WHAT COUNTS. Prove the row's statement (the work); the ties are given (YtgaiheojlmebaaaDoorTie.lean); close each card by the builder's one call (the guide's Derived/Test/ToyasCard.lean, 'card_holds'). Laid BY PROGRAM, IN A SANDBOX (cutbox-door.mjs). By AI agents, Wed Nov 11 2026. No macro, syntax, notation, axiom, sorry.
-/
import Derived.Test.YtgaiheojlmebaaaDoorRows
import GoSem.ClaimSeven
namespace Go.Proofs.YtgaiheojlmebaaaDoor
namespace Rows

/-- THE TIED CARD OF 'malthouselaw02.ExprTexts'. -/
def exprTextsCard : Claim7 := { stood := { row := exprTextsRow, standIns := [], harness := (true, "492019d7a133489ab40f23ad8727885439d95fc6fb320a664dc92aa2b28f63bf"), looks := false }, kinds := [], alts := [], laidByText := true, laidKinds := [.data, .data, .data, .data, .pinned], laidTests := true, laidLooks := .later }
def ExprTextsCardSaid : Prop := Claim7.holds Tryd.pinned (.plain (OpenSpec.ofChange exprTextsSpec)) exprTextsCard

/-- THE TIED CARD OF 'malthouselaw02.ExprTakes'. -/
def exprTakesCard : Claim7 := { stood := { row := exprTakesRow, standIns := [], harness := (true, "492019d7a133489ab40f23ad8727885439d95fc6fb320a664dc92aa2b28f63bf"), looks := false }, kinds := [], alts := [], laidByText := true, laidKinds := [.data, .data, .data, .data, .pinned], laidTests := true, laidLooks := .later }
def ExprTakesCardSaid : Prop := Claim7.holds Tryd.pinned (.plain (OpenSpec.ofChange exprTakesSpec)) exprTakesCard

/-- THE TIED CARD OF 'malthouselaw02.ExprEvals'. -/
def exprEvalsCard : Claim7 := { stood := { row := exprEvalsRow, standIns := [], harness := (true, "492019d7a133489ab40f23ad8727885439d95fc6fb320a664dc92aa2b28f63bf"), looks := false }, kinds := [], alts := [], laidByText := true, laidKinds := [.data, .data, .data, .data, .pinned], laidTests := true, laidLooks := .later }
def ExprEvalsCardSaid : Prop := Claim7.holds Tryd.pinned (.plain (OpenSpec.ofChange exprEvalsSpec)) exprEvalsCard

/-- THE TIED CARD OF 'malthouselaw02.ExprBack'. -/
def exprBackCard : Claim7 := { stood := { row := exprBackRow, standIns := [], harness := (true, "492019d7a133489ab40f23ad8727885439d95fc6fb320a664dc92aa2b28f63bf"), looks := false }, kinds := [], alts := [], laidByText := true, laidKinds := [.data, .data, .data, .data, .pinned], laidTests := true, laidLooks := .later }
def ExprBackCardSaid : Prop := Claim7.holds Tryd.pinned (.plain (OpenSpec.ofChange exprBackSpec)) exprBackCard

/-- THE TIED CARD OF 'malthouselaw02.ExprAgain'. -/
def exprAgainCard : Claim7 := { stood := { row := exprAgainRow, standIns := [], harness := (true, "492019d7a133489ab40f23ad8727885439d95fc6fb320a664dc92aa2b28f63bf"), looks := false }, kinds := [], alts := [], laidByText := true, laidKinds := [.data, .data, .data, .data, .pinned], laidTests := true, laidLooks := .later }
def ExprAgainCardSaid : Prop := Claim7.holds Tryd.pinned (.plain (OpenSpec.ofChange exprAgainSpec)) exprAgainCard

/-- THE TIED CARD OF 'malthouselaw02.ExprBrackets'. -/
def exprBracketsCard : Claim7 := { stood := { row := exprBracketsRow, standIns := [], harness := (true, "492019d7a133489ab40f23ad8727885439d95fc6fb320a664dc92aa2b28f63bf"), looks := false }, kinds := [], alts := [], laidByText := true, laidKinds := [.data, .data, .data, .data, .pinned], laidTests := true, laidLooks := .later }
def ExprBracketsCardSaid : Prop := Claim7.holds Tryd.pinned (.plain (OpenSpec.ofChange exprBracketsSpec)) exprBracketsCard

/-- THE TIED CARD OF 'malthouselaw02.ExprChecked'. -/
def exprCheckedCard : Claim7 := { stood := { row := exprCheckedRow, standIns := [], harness := (true, "492019d7a133489ab40f23ad8727885439d95fc6fb320a664dc92aa2b28f63bf"), looks := false }, kinds := [], alts := [], laidByText := true, laidKinds := [.data, .data, .data, .data, .pinned], laidTests := true, laidLooks := .later }
def ExprCheckedCardSaid : Prop := Claim7.holds Tryd.pinned (.plain (OpenSpec.ofChange exprCheckedSpec)) exprCheckedCard

/-- THE TIED CARD OF 'malthouselaw02.ExprDivides'. -/
def exprDividesCard : Claim7 := { stood := { row := exprDividesRow, standIns := [], harness := (true, "492019d7a133489ab40f23ad8727885439d95fc6fb320a664dc92aa2b28f63bf"), looks := false }, kinds := [], alts := [], laidByText := true, laidKinds := [.data, .data, .data, .data, .pinned], laidTests := true, laidLooks := .later }
def ExprDividesCardSaid : Prop := Claim7.holds Tryd.pinned (.plain (OpenSpec.ofChange exprDividesSpec)) exprDividesCard

/-- THE TIED CARD OF 'malthouselaw02.ExprTruths'. -/
def exprTruthsCard : Claim7 := { stood := { row := exprTruthsRow, standIns := [], harness := (true, "492019d7a133489ab40f23ad8727885439d95fc6fb320a664dc92aa2b28f63bf"), looks := false }, kinds := [], alts := [], laidByText := true, laidKinds := [.data, .data, .data, .data, .pinned], laidTests := true, laidLooks := .later }
def ExprTruthsCardSaid : Prop := Claim7.holds Tryd.pinned (.plain (OpenSpec.ofChange exprTruthsSpec)) exprTruthsCard

/-- THE TIED CARD OF 'malthouselaw02.ExprLines'. -/
def exprLinesCard : Claim7 := { stood := { row := exprLinesRow, standIns := [], harness := (true, "492019d7a133489ab40f23ad8727885439d95fc6fb320a664dc92aa2b28f63bf"), looks := false }, kinds := [], alts := [], laidByText := true, laidKinds := [.data, .data, .data, .data, .pinned], laidTests := true, laidLooks := .later }
def ExprLinesCardSaid : Prop := Claim7.holds Tryd.pinned (.plain (OpenSpec.ofChange exprLinesSpec)) exprLinesCard

/-- THE SECOND FORM's CARD OF 'malthouselaw02.ExprTexts'. -/
def exprTextsUptoCard : Claim7 := { stood := { row := exprTextsUptoRow, standIns := [], harness := (true, "492019d7a133489ab40f23ad8727885439d95fc6fb320a664dc92aa2b28f63bf"), looks := false }, kinds := [], alts := [], laidByText := true, laidKinds := [.data, .data, .data, .data, .pinned], laidTests := true, laidLooks := .later }
def ExprTextsUptoCardSaid : Prop := Claim7.holds Tryd.pinned (.plain (OpenSpec.upto exprTextsSpec)) exprTextsUptoCard

/-- THE SECOND FORM's CARD OF 'malthouselaw02.ExprTakes'. -/
def exprTakesUptoCard : Claim7 := { stood := { row := exprTakesUptoRow, standIns := [], harness := (true, "492019d7a133489ab40f23ad8727885439d95fc6fb320a664dc92aa2b28f63bf"), looks := false }, kinds := [], alts := [], laidByText := true, laidKinds := [.data, .data, .data, .data, .pinned], laidTests := true, laidLooks := .later }
def ExprTakesUptoCardSaid : Prop := Claim7.holds Tryd.pinned (.plain (OpenSpec.upto exprTakesSpec)) exprTakesUptoCard

/-- THE SECOND FORM's CARD OF 'malthouselaw02.ExprEvals'. -/
def exprEvalsUptoCard : Claim7 := { stood := { row := exprEvalsUptoRow, standIns := [], harness := (true, "492019d7a133489ab40f23ad8727885439d95fc6fb320a664dc92aa2b28f63bf"), looks := false }, kinds := [], alts := [], laidByText := true, laidKinds := [.data, .data, .data, .data, .pinned], laidTests := true, laidLooks := .later }
def ExprEvalsUptoCardSaid : Prop := Claim7.holds Tryd.pinned (.plain (OpenSpec.upto exprEvalsSpec)) exprEvalsUptoCard

/-- THE SECOND FORM's CARD OF 'malthouselaw02.ExprBack'. -/
def exprBackUptoCard : Claim7 := { stood := { row := exprBackUptoRow, standIns := [], harness := (true, "492019d7a133489ab40f23ad8727885439d95fc6fb320a664dc92aa2b28f63bf"), looks := false }, kinds := [], alts := [], laidByText := true, laidKinds := [.data, .data, .data, .data, .pinned], laidTests := true, laidLooks := .later }
def ExprBackUptoCardSaid : Prop := Claim7.holds Tryd.pinned (.plain (OpenSpec.upto exprBackSpec)) exprBackUptoCard

/-- THE SECOND FORM's CARD OF 'malthouselaw02.ExprAgain'. -/
def exprAgainUptoCard : Claim7 := { stood := { row := exprAgainUptoRow, standIns := [], harness := (true, "492019d7a133489ab40f23ad8727885439d95fc6fb320a664dc92aa2b28f63bf"), looks := false }, kinds := [], alts := [], laidByText := true, laidKinds := [.data, .data, .data, .data, .pinned], laidTests := true, laidLooks := .later }
def ExprAgainUptoCardSaid : Prop := Claim7.holds Tryd.pinned (.plain (OpenSpec.upto exprAgainSpec)) exprAgainUptoCard

/-- THE SECOND FORM's CARD OF 'malthouselaw02.ExprBrackets'. -/
def exprBracketsUptoCard : Claim7 := { stood := { row := exprBracketsUptoRow, standIns := [], harness := (true, "492019d7a133489ab40f23ad8727885439d95fc6fb320a664dc92aa2b28f63bf"), looks := false }, kinds := [], alts := [], laidByText := true, laidKinds := [.data, .data, .data, .data, .pinned], laidTests := true, laidLooks := .later }
def ExprBracketsUptoCardSaid : Prop := Claim7.holds Tryd.pinned (.plain (OpenSpec.upto exprBracketsSpec)) exprBracketsUptoCard

/-- THE SECOND FORM's CARD OF 'malthouselaw02.ExprChecked'. -/
def exprCheckedUptoCard : Claim7 := { stood := { row := exprCheckedUptoRow, standIns := [], harness := (true, "492019d7a133489ab40f23ad8727885439d95fc6fb320a664dc92aa2b28f63bf"), looks := false }, kinds := [], alts := [], laidByText := true, laidKinds := [.data, .data, .data, .data, .pinned], laidTests := true, laidLooks := .later }
def ExprCheckedUptoCardSaid : Prop := Claim7.holds Tryd.pinned (.plain (OpenSpec.upto exprCheckedSpec)) exprCheckedUptoCard

/-- THE SECOND FORM's CARD OF 'malthouselaw02.ExprDivides'. -/
def exprDividesUptoCard : Claim7 := { stood := { row := exprDividesUptoRow, standIns := [], harness := (true, "492019d7a133489ab40f23ad8727885439d95fc6fb320a664dc92aa2b28f63bf"), looks := false }, kinds := [], alts := [], laidByText := true, laidKinds := [.data, .data, .data, .data, .pinned], laidTests := true, laidLooks := .later }
def ExprDividesUptoCardSaid : Prop := Claim7.holds Tryd.pinned (.plain (OpenSpec.upto exprDividesSpec)) exprDividesUptoCard

/-- THE SECOND FORM's CARD OF 'malthouselaw02.ExprTruths'. -/
def exprTruthsUptoCard : Claim7 := { stood := { row := exprTruthsUptoRow, standIns := [], harness := (true, "492019d7a133489ab40f23ad8727885439d95fc6fb320a664dc92aa2b28f63bf"), looks := false }, kinds := [], alts := [], laidByText := true, laidKinds := [.data, .data, .data, .data, .pinned], laidTests := true, laidLooks := .later }
def ExprTruthsUptoCardSaid : Prop := Claim7.holds Tryd.pinned (.plain (OpenSpec.upto exprTruthsSpec)) exprTruthsUptoCard

/-- THE SECOND FORM's CARD OF 'malthouselaw02.ExprLines'. -/
def exprLinesUptoCard : Claim7 := { stood := { row := exprLinesUptoRow, standIns := [], harness := (true, "492019d7a133489ab40f23ad8727885439d95fc6fb320a664dc92aa2b28f63bf"), looks := false }, kinds := [], alts := [], laidByText := true, laidKinds := [.data, .data, .data, .data, .pinned], laidTests := true, laidLooks := .later }
def ExprLinesUptoCardSaid : Prop := Claim7.holds Tryd.pinned (.plain (OpenSpec.upto exprLinesSpec)) exprLinesUptoCard
end Rows
end Go.Proofs.YtgaiheojlmebaaaDoor
