/- The arguments of CallsOnce. -/
import Derived.Test.YtllnncojafcdoaaBase
import Derived.Test.YtllnncojafcdoaaRowG
namespace Go.Proofs.Ytllnncojafcdoaa
open Go.ChangeShapes Go.WideShapes Go.ChangeAt Go.RowKit

theorem bools_open {H : Type} {enc : TypeId × Value → H} {W : World} {base : Nat} {r : Reach} {b0 : Nat} {sp : Nat → Bool} {held : Bool} {v : Value} {d : DataW H} {ps : List MemPlace}
    (hval : Value.okWide Try.prog W r b0 23 v) (hd : DataW.Trod enc Try.prog W base sp held 23 v d ps) : ∃ bs : List Bool, Slc W v (bs.map .bool) :=
  bools_openG Try.underlying23 Try.underlying4 (by kernel_rfl) hval hd
end Go.Proofs.Ytllnncojafcdoaa
