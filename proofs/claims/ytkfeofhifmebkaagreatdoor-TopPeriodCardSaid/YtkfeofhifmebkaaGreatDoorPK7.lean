/- The tops: a verified evaluator of the program (PK7). -/
import Derived.Test.YtkfeofhifmebkaaGreatDoorPD
namespace Go.Ev
open Go Go.Proofs
theorem run_call2 : isOkB ((sfP 0).call 14 cG2 cA2S (finC cV2 cB2S)) = true := by kernel_rfl
end Go.Ev
