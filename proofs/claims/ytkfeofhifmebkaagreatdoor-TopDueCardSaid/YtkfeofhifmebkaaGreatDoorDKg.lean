/- The tops: a verified evaluator of the program (DKg). -/
import Derived.Test.YtkfeofhifmebkaaGreatDoorDD
namespace Go.Ev
open Go Go.Proofs
theorem run_nv0 : isOkB ((regC envQ 255 dOps21 (dOps21d)).run sfQ nv0B hNvS fun a st => runCs sfQ 5 dRest a st (finD nv0R (roundD 0 2) 1 [(5000, nv0L, 5000)] hNvA hNvS)) = true := by kernel_rfl
end Go.Ev
namespace Go.Ev
open Go Go.Proofs
theorem run_nv1 : isOkB ((regC envQ 255 dOps21 (dOps21d)).run sfQ nv1B hNvS fun a st => runCs sfQ 5 dRest a st (finD nv1R (roundD 1 2) 2 [(5000, nv1L, 5000)] hNvA hNvS)) = true := by kernel_rfl
end Go.Ev
namespace Go.Ev
open Go Go.Proofs
theorem run_ra00 : isOkB ((regC (envR false 0) 255 dOps21 (dOps21d)).run (sfR false 0) ra00B hR0S fun a st => runCs (sfR false 0) 5 dRest a st (finD ra00R (roundD 0 2) 1 [(5000, ra00L, 5000)] hR0A hR0S)) = true := by kernel_rfl
end Go.Ev
namespace Go.Ev
open Go Go.Proofs
theorem run_ra01 : isOkB ((regC envQ 255 dOps21 (dOps21d)).run sfQ ra01B hR0S fun a st => runCs sfQ 5 dRest a st (finD ra01R (roundD 1 2) 2 [(5000, ra01L, 5000)] hR0A hR0S)) = true := by kernel_rfl
end Go.Ev
namespace Go.Ev
open Go Go.Proofs
theorem run_ra10 : isOkB ((regC envQ 255 dOps21 (dOps21d)).run sfQ ra10B hR1S fun a st => runCs sfQ 5 dRest a st (finD ra10R (roundD 0 2) 1 [(5000, ra10L, 5000)] hR1A hR1S)) = true := by kernel_rfl
end Go.Ev
namespace Go.Ev
open Go Go.Proofs
theorem run_ra11 : isOkB ((regC (envR false 1) 255 dOps21 (dOps21d)).run (sfR false 1) ra11B hR1S fun a st => runCs (sfR false 1) 5 dRest a st (finD ra11R (roundD 1 2) 2 [(5000, ra11L, 5000)] hR1A hR1S)) = true := by kernel_rfl
end Go.Ev
namespace Go.Ev
open Go Go.Proofs
theorem run_fi0 : isOkB ((regC (envR true 0) 255 dOps21 (dOps21d)).run (sfR true 0) fi0B hR0S fun a st => runCs (sfR true 0) 5 dRest a st (finD fi0R (roundD 0 4) 1 [(5000, fi0L, 5000)] hD0A hD0S)) = true := by kernel_rfl
end Go.Ev
namespace Go.Ev
open Go Go.Proofs
theorem run_fi1 : isOkB ((regC (envR true 1) 255 dOps21 (dOps21d)).run (sfR true 1) fi1B hR1S fun a st => runCs (sfR true 1) 5 dRest a st (finD fi1R (roundD 1 4) 2 [(5000, fi1L, 5000)] hD1A hD1S)) = true := by kernel_rfl
end Go.Ev
namespace Go.Ev
open Go Go.Proofs
theorem run_dn00 : isOkB ((regC envQ 255 dOps21 (dOps21d)).run sfQ dn00B hD0S fun a st => runCs sfQ 5 dRest a st (finD dn00R (roundD 0 2) 1 [(5000, dn00L, 5000)] hD0A hD0S)) = true := by kernel_rfl
end Go.Ev
namespace Go.Ev
open Go Go.Proofs
theorem run_dn01 : isOkB ((regC envQ 255 dOps21 (dOps21d)).run sfQ dn01B hD0S fun a st => runCs sfQ 5 dRest a st (finD dn01R (roundD 1 2) 2 [(5000, dn01L, 5000)] hD0A hD0S)) = true := by kernel_rfl
end Go.Ev
namespace Go.Ev
open Go Go.Proofs
theorem run_dn10 : isOkB ((regC envQ 255 dOps21 (dOps21d)).run sfQ dn10B hD1S fun a st => runCs sfQ 5 dRest a st (finD dn10R (roundD 0 2) 1 [(5000, dn10L, 5000)] hD1A hD1S)) = true := by kernel_rfl
end Go.Ev
namespace Go.Ev
open Go Go.Proofs
theorem run_dn11 : isOkB ((regC envQ 255 dOps21 (dOps21d)).run sfQ dn11B hD1S fun a st => runCs sfQ 5 dRest a st (finD dn11R (roundD 1 2) 2 [(5000, dn11L, 5000)] hD1A hD1S)) = true := by kernel_rfl
end Go.Ev
