/- The tops: a verified evaluator of the program (KR1). -/
import Derived.Test.YtkfeofhifmebkaaGreatDoorKR0
set_option maxRecDepth 100000
namespace Go.Ev
open Go Go.Proofs
theorem choA_all : allN 14 (fun k => and3 (and3 (okA k (some false) Option.none 1 1) (okA k (some false) Option.none 0 2) true) (okA k (some true) (some false) 1 1) (okA k (some true) (some false) 0 2)) = true := by kernel_rfl
theorem choB_all : allN 14 okB = true := by kernel_rfl
theorem choD_all : allN 14 okD = true := by kernel_rfl
theorem choT_all : allN 14 okTm = true := by kernel_rfl
theorem choR_all : allN 14 okR = true := by kernel_rfl
theorem choL_all : allN 14 okL = true := by kernel_rfl
theorem choC_all : allN 14 (fun k => allN 7 fun kd => okC k kd) = true := by kernel_rfl
end Go.Ev
