/- What each plain row of this seat wants of the program. -/
import Derived.Test.YtlihpmfponkmjaaRows
import Derived.Test.YtlihpmfponkmjaaRow
namespace Go.Proofs.Ytlihpmfponkmjaa
theorem own : ownKnob Try.prog.godebug = none := by kernel_rfl
theorem laidOut : laidOutB Try.prog = true := by kernel_rfl
end Go.Proofs.Ytlihpmfponkmjaa
