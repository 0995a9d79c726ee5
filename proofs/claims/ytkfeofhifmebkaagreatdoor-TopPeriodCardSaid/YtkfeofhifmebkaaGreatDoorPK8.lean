/- The tops: a verified evaluator of the program (PK8). -/
import Derived.Test.YtkfeofhifmebkaaGreatDoorPD
namespace Go.Ev
open Go Go.Proofs
noncomputable def sfM : Self := selfStep (envP 0) (memoSelf 18 cG0 cA0S cV0 cB0S (memoSelf 18 cG1 cA1S cV1 cB1S (memoSelf 14 cG2 cA2S cV2 cB2S (sfP 0))))
theorem run_set2 : isOkB (runCs sfM 4 [pdAt 5, pdAt 6, hdP (pdAt 7)] mA mS (finP setR3 setI 0 [(0, setL, 5000)] hA x0S)) = true := by kernel_rfl
end Go.Ev
