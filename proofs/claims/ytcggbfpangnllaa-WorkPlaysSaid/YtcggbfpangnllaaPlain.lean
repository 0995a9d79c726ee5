/- What each plain row of this seat wants of the program. -/
import Derived.Test.YtcggbfpangnllaaRows
import Derived.Test.YtcggbfpangnllaaRow
namespace Go.Proofs.Ytcggbfpangnllaa
theorem own : ownKnob Try.prog.godebug = none := by kernel_rfl
theorem laidOut : laidOutB Try.prog = true := by kernel_rfl
end Go.Proofs.Ytcggbfpangnllaa
