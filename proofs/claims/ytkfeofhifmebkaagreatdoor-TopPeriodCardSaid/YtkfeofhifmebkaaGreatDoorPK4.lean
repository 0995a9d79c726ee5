/- The tops: a verified evaluator of the program (PK4). -/
import Derived.Test.YtkfeofhifmebkaaGreatDoorPD
namespace Go.Ev
open Go Go.Proofs
theorem run_fireU : isOkB (runCs (sfP 2) 4 [pdLoop] hA hUS (finP fireUR fireI 2 [(5000, fireUL, 5000)] hA xFS)) = true := by kernel_rfl
end Go.Ev
