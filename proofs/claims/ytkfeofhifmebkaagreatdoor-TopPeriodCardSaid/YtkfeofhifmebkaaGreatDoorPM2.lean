/- The tops: a verified evaluator of the program (PM2). -/
import Derived.Test.YtkfeofhifmebkaaGreatDoorPM
namespace Go.Ev
open Go Go.Proofs
theorem run_Z : okZ = true := by kernel_rfl
end Go.Ev
