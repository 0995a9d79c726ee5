/- The arguments of ArenaFinds. -/
import Derived.Test.YtanidaepfepppaaDoorLaw03f
import Derived.Test.YtanidaepfepppaaDoorRowG
namespace Go.Proofs.YtanidaepfepppaaDoor
open Go.ChangeShapes Go.WideShapes Go.ChangeAt Go.RowKit

set_option maxRecDepth 100000 in
theorem thingsT_open {H : Type} {enc : TypeId × Value → H} {W : World} {base : Nat} {r : Reach} {b0 : Nat} {sp : Nat → Bool} {held : Bool} {v : Value} {d : DataW H} {ps : List MemPlace}
    (hval : Value.okWide Tryd.prog W r b0 22 v) (hd : DataW.Trod enc Tryd.prog W base sp held 22 v d ps) : ∃ zs : List ArT.El, SlcS 2 W v (zs.map ArT.xCells) := by
  obtain ⟨els, hS, hF⟩ := structs_openG (sz := 2) Tryd.underlying22 (by kernel_rfl) (by decide) hval hd
  obtain ⟨zs, rfl⟩ := els_map (els := els) (g := ArT.xCells) fun el hel => by
    have hl := hS.size el hel
    have h := hF el hel
    have f0 := field_at Tryd.underlying29 h 0 3 0 1 rfl (by kernel_rfl)
    have f1 := field_at Tryd.underlying29 h 1 9 1 1 rfl (by kernel_rfl)
    match el, hl, f0, f1 with
    | [a, b], _, f0, f1 =>
      obtain ⟨n0, rfl, _⟩ := cell_int Tryd.underlying3 f0
      obtain ⟨n1, rfl⟩ := cell_string Tryd.underlying9 f1
      exact ⟨(n0, n1), rfl⟩
  exact ⟨zs, hS⟩
end Go.Proofs.YtanidaepfepppaaDoor
