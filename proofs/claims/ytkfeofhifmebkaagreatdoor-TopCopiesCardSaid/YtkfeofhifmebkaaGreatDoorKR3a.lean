/- The tops: a verified evaluator of the program (KR3a). -/
import Derived.Test.YtkfeofhifmebkaaGreatDoorKR3
set_option maxRecDepth 100000
namespace Go.Ev
open Go Go.Proofs
theorem endF : allB okFin [4, 6, 7, 8, 12, 13] = true := by kernel_rfl
end Go.Ev
