/- The tops: a verified evaluator of the program (PK1). -/
import Derived.Test.YtkfeofhifmebkaaGreatDoorPD
namespace Go.Ev
open Go Go.Proofs
theorem run_set1 : isOkB (runCs (sfP 0) 4 [pdAt 0, pdAt 1, pdAt 2, pdAt 3, pdAt 4] pd0A ⟨.leaf, 0⟩ (finP midR [] 0 [] mA mS)) = true := by kernel_rfl
end Go.Ev
