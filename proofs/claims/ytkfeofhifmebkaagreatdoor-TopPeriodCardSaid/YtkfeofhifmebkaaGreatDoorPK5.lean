/- The tops: a verified evaluator of the program (PK5). -/
import Derived.Test.YtkfeofhifmebkaaGreatDoorPD
namespace Go.Ev
open Go Go.Proofs
theorem run_call0 : isOkB ((sfP 0).call 18 cG0 cA0S (finC cV0 cB0S)) = true := by kernel_rfl
end Go.Ev
