/- The tops: a verified evaluator of the program (KR3b). -/
import Derived.Test.YtkfeofhifmebkaaGreatDoorKR3
set_option maxRecDepth 100000
namespace Go.Ev
open Go Go.Proofs
theorem proT : okPro true 0 = true := by kernel_rfl
end Go.Ev
