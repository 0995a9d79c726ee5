/- The tops: a verified evaluator of the program (PK2). -/
import Derived.Test.YtkfeofhifmebkaaGreatDoorPD
namespace Go.Ev
open Go Go.Proofs
theorem run_idle : isOkB (runCs (sfP 1) 4 [pdLoop] hA hIS (finP idleR idleI 1 [(5000, idleL, 5000)] hA hIS)) = true := by kernel_rfl
end Go.Ev
