/- The tops: a verified evaluator of the program (DKc). -/
import Derived.Test.YtkfeofhifmebkaaGreatDoorDD
namespace Go.Ev
open Go Go.Proofs
theorem run_d0t : isOkB ((sfD 0 true).call 14 dG2 dA2S (finC dV2 dB0tS)) = true := by kernel_rfl
end Go.Ev
namespace Go.Ev
open Go Go.Proofs
theorem run_d1t : isOkB ((sfD 1 true).call 14 dG2 dA2S (finC dV2 dB1tS)) = true := by kernel_rfl
end Go.Ev
