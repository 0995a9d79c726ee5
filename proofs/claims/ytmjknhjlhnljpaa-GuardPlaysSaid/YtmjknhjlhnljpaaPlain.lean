/- What each plain row of this seat wants of the program. -/
import Derived.Test.YtmjknhjlhnljpaaRows
import Derived.Test.YtmjknhjlhnljpaaRow
namespace Go.Proofs.Ytmjknhjlhnljpaa
theorem own : ownKnob Try.prog.godebug = none := by kernel_rfl
theorem laidOut : laidOutB Try.prog = true := by kernel_rfl
end Go.Proofs.Ytmjknhjlhnljpaa
