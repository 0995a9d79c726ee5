/- The tops: a verified evaluator of the program (KI2). -/
import Derived.Test.YtkfeofhifmebkaaGreatDoorKD0
namespace Go.Ev
open Go Go.Proofs
theorem word_all1 : allN 70 (fun a => okW locW1 a a 400) = true := by kernel_rfl
theorem word_all18 : allN 70 (fun a => okW locW1 a (a + 8) 408) = true := by kernel_rfl
end Go.Ev
