/- The tops: a verified evaluator of the program (KA2). -/
import Derived.Test.YtkfeofhifmebkaaGreatDoorKA
namespace Go.Ev
open Go Go.Proofs
theorem aw_round1 : isOkB (sf2.call 9 raV raS (finC (.int .i64 (.lit 0)) rbS)) = true := by kernel_rfl
end Go.Ev
