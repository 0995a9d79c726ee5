/- The tops: a verified evaluator of the program (PK3). -/
import Derived.Test.YtkfeofhifmebkaaGreatDoorPD
namespace Go.Ev
open Go Go.Proofs
theorem run_fireN : isOkB (runCs (sfP 2) 4 [pdLoop] hA hNS (finP fireNR fireI 2 [(5000, fireNL, 5000)] hA xFS)) = true := by kernel_rfl
end Go.Ev
