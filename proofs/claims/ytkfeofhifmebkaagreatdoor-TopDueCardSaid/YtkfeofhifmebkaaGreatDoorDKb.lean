/- The tops: a verified evaluator of the program (DKb). -/
import Derived.Test.YtkfeofhifmebkaaGreatDoorDD
namespace Go.Ev
open Go Go.Proofs
theorem run_d1F : isOkB ((sfD 9 false).call 18 dG1 dA1S (finC dV1 dB1S)) = true := by kernel_rfl
end Go.Ev
namespace Go.Ev
open Go Go.Proofs
theorem run_d1T : isOkB ((sfD 9 true).call 18 dG1 dA1S (finC dV1 dB1S)) = true := by kernel_rfl
end Go.Ev
