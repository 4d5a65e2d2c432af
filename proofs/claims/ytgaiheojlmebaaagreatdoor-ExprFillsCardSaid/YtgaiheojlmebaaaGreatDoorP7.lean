/- The chapter's first example, reckoned. -/
import Derived.Test.YtgaiheojlmebaaaGreatDoorPure4
import Derived.Test.YtgaiheojlmebaaaGreatDoorPure5
import Derived.WalkKit
namespace Go.Proofs.YtgaiheojlmebaaaGreatDoor
open Go
def awakeS : ByteArray := ⟨#[49, 32, 43, 32, 120, 32, 42, 32, 50]⟩
def awakeE : Ex := .mk 4 0 ⟨#[]⟩ [.mk 0 1 ⟨#[]⟩ [], .mk 6 0 ⟨#[]⟩ [.mk 1 0 ⟨#[120]⟩ [], .mk 0 2 ⟨#[]⟩ []]]
theorem awake_parse : parseP awakeS = (awakeE, 0, 0) := by kernel_rfl
theorem awake_eval : eEval awakeE [⟨⟨#[120]⟩, 7⟩] = (15, 0) := by kernel_rfl
theorem awake_may : eMay awakeE = true := by kernel_rfl
theorem awake_print : ePrint awakeE = awakeS.data.toList := by kernel_rfl
end Go.Proofs.YtgaiheojlmebaaaGreatDoor
