/- The tops: a verified evaluator of the program (KP1). -/
import Derived.Test.YtkfeofhifmebkaaGreatDoorKD
namespace Go.Ev
open Go Go.Proofs
theorem touch_all : allN 70 okTA = true := by kernel_rfl
end Go.Ev
