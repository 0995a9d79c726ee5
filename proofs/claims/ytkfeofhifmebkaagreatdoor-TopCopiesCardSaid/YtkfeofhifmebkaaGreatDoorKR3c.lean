/- The tops: a verified evaluator of the program (KR3c). -/
import Derived.Test.YtkfeofhifmebkaaGreatDoorKR3
set_option maxRecDepth 100000
namespace Go.Ev
open Go Go.Proofs
theorem proF : okPro false 9 = true := by kernel_rfl
end Go.Ev
