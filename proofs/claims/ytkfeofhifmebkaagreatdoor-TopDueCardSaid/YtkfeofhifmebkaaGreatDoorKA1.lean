/- The tops: a verified evaluator of the program (KA1). -/
import Derived.Test.YtkfeofhifmebkaaGreatDoorKA
namespace Go.Ev
open Go Go.Proofs
theorem aw_run1 : isOkB (runCs sf2 12 [awC 0, awC 1, awC 2, awC 3] aw0A ⟨.leaf, 0⟩ (fin0 aw4A aw4S)) = true := by kernel_rfl
end Go.Ev
