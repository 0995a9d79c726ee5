/- The tops: a verified evaluator of the program (DKe). -/
import Derived.Test.YtkfeofhifmebkaaGreatDoorDD
namespace Go.Ev
open Go Go.Proofs
theorem run_d1f : isOkB ((sfD 1 false).call 14 dG2 dA2S (finC dV2 dB1fS)) = true := by kernel_rfl
end Go.Ev
namespace Go.Ev
open Go Go.Proofs
theorem run_d2f : isOkB ((sfD 2 false).call 14 dG2 dA2S (finC dV2 dB2fS)) = true := by kernel_rfl
end Go.Ev
