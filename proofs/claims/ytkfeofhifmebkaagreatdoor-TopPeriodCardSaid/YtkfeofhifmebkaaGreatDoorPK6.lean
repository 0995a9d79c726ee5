/- The tops: a verified evaluator of the program (PK6). -/
import Derived.Test.YtkfeofhifmebkaaGreatDoorPD
namespace Go.Ev
open Go Go.Proofs
theorem run_call1 : isOkB ((sfP 0).call 18 cG1 cA1S (finC cV1 cB1S)) = true := by kernel_rfl
end Go.Ev
