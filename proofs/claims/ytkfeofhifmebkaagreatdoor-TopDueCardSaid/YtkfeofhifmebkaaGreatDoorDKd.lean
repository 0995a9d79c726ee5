/- The tops: a verified evaluator of the program (DKd). -/
import Derived.Test.YtkfeofhifmebkaaGreatDoorDD
namespace Go.Ev
open Go Go.Proofs
theorem run_d2t : isOkB ((sfD 2 true).call 14 dG2 dA2S (finC dV2 dB2tS)) = true := by kernel_rfl
end Go.Ev
namespace Go.Ev
open Go Go.Proofs
theorem run_d0f : isOkB ((sfD 0 false).call 14 dG2 dA2S (finC dV2 dB0fS)) = true := by kernel_rfl
end Go.Ev
