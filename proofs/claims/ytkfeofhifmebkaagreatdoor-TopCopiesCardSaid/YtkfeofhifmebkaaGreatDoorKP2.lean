/- The tops: a verified evaluator of the program (KP2). -/
import Derived.Test.YtkfeofhifmebkaaGreatDoorKD
namespace Go.Ev
open Go Go.Proofs
theorem pages_all : and3 (allN 2 fun i => okPgs i 2) (allN 2 fun i => okPgs i 3) (allN 2 fun i => okPgs i 4) = true := by kernel_rfl
theorem poke_all : allN 2 (fun i => allN 64 fun j => okK i j) = true := by kernel_rfl
theorem peek_all : allN 49 okP = true := by kernel_rfl
end Go.Ev
