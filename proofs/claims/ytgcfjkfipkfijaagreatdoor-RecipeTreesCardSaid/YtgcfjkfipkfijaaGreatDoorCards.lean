/-
  DERIVED. GIVEN WITH THE SEED: THE CARDS: each row of YtgcfjkfipkfijaaGreatDoorRows.lean that lists a variable, with what it lists TIED to the program's text (the seventh form; the later family's looks); each row that meets fmt, with fmt's text TOLD by the authors' own Lean function (tested against real Go, not proved from fmt's source: count such statements apart). THE CARD IS WHAT COUNTS. Prove the row's statement (the work); the ties are given (YtgcfjkfipkfijaaGreatDoorTie.lean); close each card by the builder's one call (the guide's Derived/Test/ToyasCard.lean, 'card_holds'). Laid BY PROGRAM, IN A SANDBOX (cutbox-door.mjs). By AI agents, Wed Nov 11 2026. No macro, syntax, notation, axiom, sorry.
-/
import Derived.Test.YtgcfjkfipkfijaaGreatDoorRows
import GoSem.ClaimSeven
namespace Go.Proofs.YtgcfjkfipkfijaaGreatDoor
namespace Rows

/-- THE TIED CARD OF 'malthouselaw15.RecipeTexts'. -/
def recipeTextsCard : Claim7 := { stood := { row := recipeTextsRow, standIns := [], harness := (true, "04ca698ff224db9bd73a9a6d26b4a2bcbb32795aec38f415137af063ca9367ec"), looks := true }, kinds := [], alts := [], laidByText := true, laidKinds := [.data, .data, .data, .data, .pinned], laidTests := true, laidLooks := .later }
def RecipeTextsCardSaid : Prop := Claim7.holds Tryz.pinned (.plain (OpenSpec.ofChange recipeTextsSpec)) recipeTextsCard

/-- THE TIED CARD OF 'malthouselaw15.RecipeBack'. -/
def recipeBackCard : Claim7 := { stood := { row := recipeBackRow, standIns := [], harness := (true, "04ca698ff224db9bd73a9a6d26b4a2bcbb32795aec38f415137af063ca9367ec"), looks := true }, kinds := [], alts := [], laidByText := true, laidKinds := [.data, .data, .data, .data, .pinned], laidTests := true, laidLooks := .later }
def RecipeBackCardSaid : Prop := Claim7.holds Tryz.pinned (.plain (OpenSpec.ofChange recipeBackSpec)) recipeBackCard

/-- THE TIED CARD OF 'malthouselaw15.RecipeAgain'. -/
def recipeAgainCard : Claim7 := { stood := { row := recipeAgainRow, standIns := [], harness := (true, "04ca698ff224db9bd73a9a6d26b4a2bcbb32795aec38f415137af063ca9367ec"), looks := true }, kinds := [], alts := [], laidByText := true, laidKinds := [.data, .data, .data, .data, .pinned], laidTests := true, laidLooks := .later }
def RecipeAgainCardSaid : Prop := Claim7.holds Tryz.pinned (.plain (OpenSpec.ofChange recipeAgainSpec)) recipeAgainCard

/-- THE TIED CARD OF 'malthouselaw15.RecipeShape'. -/
def recipeShapeCard : Claim7 := { stood := { row := recipeShapeRow, standIns := [], harness := (true, "04ca698ff224db9bd73a9a6d26b4a2bcbb32795aec38f415137af063ca9367ec"), looks := true }, kinds := [], alts := [], laidByText := true, laidKinds := [.data, .data, .data, .data, .pinned], laidTests := true, laidLooks := .later }
def RecipeShapeCardSaid : Prop := Claim7.holds Tryz.pinned (.plain (OpenSpec.ofChange recipeShapeSpec)) recipeShapeCard

/-- THE TIED CARD OF 'malthouselaw15.RecipeTrees'. -/
def recipeTreesCard : Claim7 := { stood := { row := recipeTreesRow, standIns := [], harness := (true, "04ca698ff224db9bd73a9a6d26b4a2bcbb32795aec38f415137af063ca9367ec"), looks := true }, kinds := [], alts := [], laidByText := true, laidKinds := [.data, .data, .data, .data, .pinned], laidTests := true, laidLooks := .later }
def RecipeTreesCardSaid : Prop := Claim7.holds Tryz.pinned (.plain (OpenSpec.ofChange recipeTreesSpec)) recipeTreesCard

/-- THE SECOND FORM's CARD OF 'malthouselaw15.RecipeTexts'. -/
def recipeTextsUptoCard : Claim7 := { stood := { row := recipeTextsUptoRow, standIns := [], harness := (true, "04ca698ff224db9bd73a9a6d26b4a2bcbb32795aec38f415137af063ca9367ec"), looks := true }, kinds := [], alts := [], laidByText := true, laidKinds := [.data, .data, .data, .data, .pinned], laidTests := true, laidLooks := .later }
def RecipeTextsUptoCardSaid : Prop := Claim7.holds Tryz.pinned (.plain (OpenSpec.upto recipeTextsSpec)) recipeTextsUptoCard

/-- THE SECOND FORM's CARD OF 'malthouselaw15.RecipeBack'. -/
def recipeBackUptoCard : Claim7 := { stood := { row := recipeBackUptoRow, standIns := [], harness := (true, "04ca698ff224db9bd73a9a6d26b4a2bcbb32795aec38f415137af063ca9367ec"), looks := true }, kinds := [], alts := [], laidByText := true, laidKinds := [.data, .data, .data, .data, .pinned], laidTests := true, laidLooks := .later }
def RecipeBackUptoCardSaid : Prop := Claim7.holds Tryz.pinned (.plain (OpenSpec.upto recipeBackSpec)) recipeBackUptoCard

/-- THE SECOND FORM's CARD OF 'malthouselaw15.RecipeAgain'. -/
def recipeAgainUptoCard : Claim7 := { stood := { row := recipeAgainUptoRow, standIns := [], harness := (true, "04ca698ff224db9bd73a9a6d26b4a2bcbb32795aec38f415137af063ca9367ec"), looks := true }, kinds := [], alts := [], laidByText := true, laidKinds := [.data, .data, .data, .data, .pinned], laidTests := true, laidLooks := .later }
def RecipeAgainUptoCardSaid : Prop := Claim7.holds Tryz.pinned (.plain (OpenSpec.upto recipeAgainSpec)) recipeAgainUptoCard

/-- THE SECOND FORM's CARD OF 'malthouselaw15.RecipeShape'. -/
def recipeShapeUptoCard : Claim7 := { stood := { row := recipeShapeUptoRow, standIns := [], harness := (true, "04ca698ff224db9bd73a9a6d26b4a2bcbb32795aec38f415137af063ca9367ec"), looks := true }, kinds := [], alts := [], laidByText := true, laidKinds := [.data, .data, .data, .data, .pinned], laidTests := true, laidLooks := .later }
def RecipeShapeUptoCardSaid : Prop := Claim7.holds Tryz.pinned (.plain (OpenSpec.upto recipeShapeSpec)) recipeShapeUptoCard

/-- THE SECOND FORM's CARD OF 'malthouselaw15.RecipeTrees'. -/
def recipeTreesUptoCard : Claim7 := { stood := { row := recipeTreesUptoRow, standIns := [], harness := (true, "04ca698ff224db9bd73a9a6d26b4a2bcbb32795aec38f415137af063ca9367ec"), looks := true }, kinds := [], alts := [], laidByText := true, laidKinds := [.data, .data, .data, .data, .pinned], laidTests := true, laidLooks := .later }
def RecipeTreesUptoCardSaid : Prop := Claim7.holds Tryz.pinned (.plain (OpenSpec.upto recipeTreesSpec)) recipeTreesUptoCard
end Rows
end Go.Proofs.YtgcfjkfipkfijaaGreatDoor
