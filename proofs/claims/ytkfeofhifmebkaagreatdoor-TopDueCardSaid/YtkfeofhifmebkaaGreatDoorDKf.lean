/- The tops: a verified evaluator of the program (DKf). -/
import Derived.Test.YtkfeofhifmebkaaGreatDoorDD
namespace Go.Ev
open Go Go.Proofs
theorem run_s0t : isOkB (runCs (sfMt 0) 5 dPro dMA dMS (finD dR0t setD0 0 [(0, dL0t, 5000)] hR0A hR0S)) = true := by kernel_rfl
end Go.Ev
namespace Go.Ev
open Go Go.Proofs
theorem run_s1t : isOkB (runCs (sfMt 1) 5 dPro dMA dMS (finD dR1t setD1 0 [(0, dL1t, 5000)] hR0A hR0S)) = true := by kernel_rfl
end Go.Ev
namespace Go.Ev
open Go Go.Proofs
theorem run_s2t : isOkB (runCs (sfMt 2) 5 dPro dMA dMS (finD dR2t setD2 0 [(0, dL2t, 5000)] hR1A hR1S)) = true := by kernel_rfl
end Go.Ev
namespace Go.Ev
open Go Go.Proofs
theorem run_s0f : isOkB (runCs (sfMf 0) 5 dPro dMA dMS (finD dR0f setD0 0 [(0, dL0f, 5000)] hNvA hNvS)) = true := by kernel_rfl
end Go.Ev
namespace Go.Ev
open Go Go.Proofs
theorem run_s1f : isOkB (runCs (sfMf 1) 5 dPro dMA dMS (finD dR1f setD1 0 [(0, dL1f, 5000)] hNvA hNvS)) = true := by kernel_rfl
end Go.Ev
namespace Go.Ev
open Go Go.Proofs
theorem run_s2f : isOkB (runCs (sfMf 2) 5 dPro dMA dMS (finD dR2f setD2 0 [(0, dL2f, 5000)] hNvA hNvS)) = true := by kernel_rfl
end Go.Ev
