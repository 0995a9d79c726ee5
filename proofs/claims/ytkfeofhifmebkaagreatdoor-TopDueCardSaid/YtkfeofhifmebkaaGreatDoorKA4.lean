/- The tops: a verified evaluator of the program (KA4). -/
import Derived.Test.YtkfeofhifmebkaaGreatDoorKA
namespace Go.Ev
open Go Go.Proofs
noncomputable def sf3 : Self := selfStep E2 (memoSelf 9 raV raS (.int .i64 (.lit 0)) rbS (memoSelf 9 rbV rbS (.int .i64 (.lit 1)) aw5S sf2))
theorem aw_run2 : isOkB (runCs sf3 12 [awC 4] aw4A aw4S (fin0 aw5A aw5S)) = true := by kernel_rfl
end Go.Ev
