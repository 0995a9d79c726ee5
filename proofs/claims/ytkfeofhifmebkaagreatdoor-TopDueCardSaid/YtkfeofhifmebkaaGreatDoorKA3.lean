/- The tops: a verified evaluator of the program (KA3). -/
import Derived.Test.YtkfeofhifmebkaaGreatDoorKA
namespace Go.Ev
open Go Go.Proofs
theorem aw_round2 : isOkB (sf2.call 9 rbV rbS (finC (.int .i64 (.lit 1)) aw5S)) = true := by kernel_rfl
end Go.Ev
