/- The arguments of RingThings. -/
import Derived.Test.YtkchcckdfbpdmaaRing2T
import Derived.Test.YtkchcckdfbpdmaaRowG
namespace Go.Proofs.Ytkchcckdfbpdmaa
open Go.ChangeShapes Go.WideShapes Go.ChangeAt Go.RowKit

set_option maxRecDepth 100000 in
theorem things_open {H : Type} {enc : TypeId × Value → H} {W : World} {base : Nat} {r : Reach} {b0 : Nat} {sp : Nat → Bool} {held : Bool} {v : Value} {d : DataW H} {ps : List MemPlace}
    (hval : Value.okWide Try.prog W r b0 22 v) (hd : DataW.Trod enc Try.prog W base sp held 22 v d ps) : ∃ zs : List RgT.El, SlcS 2 W v (zs.map RgT.xc) := by
  obtain ⟨els, hS, hF⟩ := structs_openG (sz := 2) Try.underlying22 (by kernel_rfl) (by decide) hval hd
  obtain ⟨zs, rfl⟩ := els_map (els := els) (g := RgT.xc) fun el hel => by
    have hl := hS.size el hel
    have h := hF el hel
    have f0 := field_at Try.underlying30 h 0 3 0 1 rfl (by kernel_rfl)
    have f1 := field_at Try.underlying30 h 1 9 1 1 rfl (by kernel_rfl)
    match el, hl, f0, f1 with
    | [a, b], _, f0, f1 =>
      obtain ⟨n0, rfl, _⟩ := cell_int Try.underlying3 f0
      obtain ⟨n1, rfl⟩ := cell_string Try.underlying9 f1
      exact ⟨(n0, n1), rfl⟩
  exact ⟨zs, hS⟩
theorem bools_open {H : Type} {enc : TypeId × Value → H} {W : World} {base : Nat} {r : Reach} {b0 : Nat} {sp : Nat → Bool} {held : Bool} {v : Value} {d : DataW H} {ps : List MemPlace}
    (hval : Value.okWide Try.prog W r b0 23 v) (hd : DataW.Trod enc Try.prog W base sp held 23 v d ps) : ∃ bs : List Bool, Slc W v (bs.map .bool) :=
  bools_openG Try.underlying23 Try.underlying4 (by kernel_rfl) hval hd
end Go.Proofs.Ytkchcckdfbpdmaa
