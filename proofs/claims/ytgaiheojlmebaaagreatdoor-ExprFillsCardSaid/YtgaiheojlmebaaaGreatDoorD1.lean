/- The law of quotients: the walk. -/
import Derived.Test.YtgaiheojlmebaaaGreatDoorA1
namespace Go.Proofs.YtgaiheojlmebaaaGreatDoor
open Go Go.RowKit Go.Lib

/-- What a step of such a law holds on to. -/
structure Hold (w0 : World) (w : World) : Prop where
  tabs : Tabs w
  below : Below w0.heap.size w0 w
theorem Hold.step {w0 w w' : World} (h : Hold w0 w) (hb : Below w.heap.size w w') : Hold w0 w' := ⟨h.tabs.below hb, h.below.trans (hb.mono h.below.size)⟩
end Go.Proofs.YtgaiheojlmebaaaGreatDoor
