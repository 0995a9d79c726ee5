/- The tops: a verified evaluator of the program (PM1). -/
import Derived.Test.YtkfeofhifmebkaaGreatDoorPM
namespace Go.Ev
open Go Go.Proofs
theorem run_16 : ok16 = true := by kernel_rfl
theorem run_19 : ok19 = true := by kernel_rfl
theorem run_17 : ok17 = true := by kernel_rfl
theorem run_X2 : okX2 = true := by kernel_rfl
theorem run_E1 : okE1 100 = true := by kernel_rfl
theorem run_E2 : okE2 = true := by kernel_rfl
end Go.Ev
