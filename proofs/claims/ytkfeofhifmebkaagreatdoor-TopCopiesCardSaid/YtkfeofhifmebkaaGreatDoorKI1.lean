/- The tops: a verified evaluator of the program (KI1). -/
import Derived.Test.YtkfeofhifmebkaaGreatDoorKD0
namespace Go.Ev
open Go Go.Proofs
theorem word_all0 : allN 70 (fun a => okW locW0 a a 400) = true := by kernel_rfl
theorem word_all08 : allN 70 (fun a => okW locW0 a (a + 8) 408) = true := by kernel_rfl
end Go.Ev
