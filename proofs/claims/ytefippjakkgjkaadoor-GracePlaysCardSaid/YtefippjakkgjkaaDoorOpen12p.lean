/- The acts of GracePlays. -/
import Derived.Test.YtefippjakkgjkaaDoorL12
import Derived.Test.YtefippjakkgjkaaDoorRowG
namespace Go.Proofs.YtefippjakkgjkaaDoor
open Go.ChangeShapes Go.WideShapes Go.ChangeAt Go.RowKit

set_option maxRecDepth 100000 in
theorem acts12p_open {H : Type} {enc : TypeId × Value → H} {W : World} {base : Nat} {r : Reach} {b0 : Nat} {sp : Nat → Bool} {held : Bool} {v : Value} {d : DataW H} {ps : List MemPlace}
    (hval : Value.okWide Tryd.prog W r b0 22 v) (hd : DataW.Trod enc Tryd.prog W base sp held 22 v d ps) : ∃ zs : List Act12p, SlcS 4 W v (zs.map aEl12p) := by
  obtain ⟨els, hS, hF⟩ := structs_openG (sz := 4) Tryd.underlying22 (by kernel_rfl) (by decide) hval hd
  obtain ⟨zs, rfl⟩ := els_map (els := els) (g := aEl12p) fun el hel => by
    have hl := hS.size el hel
    have h := hF el hel
    have f0 := field_at Tryd.underlying33 h 0 3 0 1 rfl (by kernel_rfl)
    have f1 := field_at Tryd.underlying33 h 1 3 1 1 rfl (by kernel_rfl)
    have f2 := field_at Tryd.underlying33 h 2 3 2 1 rfl (by kernel_rfl)
    have f3 := field_at Tryd.underlying33 h 3 3 3 1 rfl (by kernel_rfl)
    match el, hl, f0, f1, f2, f3 with
    | [a, b, c, e], _, f0, f1, f2, f3 =>
      obtain ⟨n0, rfl, _⟩ := cell_int Tryd.underlying3 f0
      obtain ⟨n1, rfl, _⟩ := cell_int Tryd.underlying3 f1
      obtain ⟨n2, rfl, _⟩ := cell_int Tryd.underlying3 f2
      obtain ⟨n3, rfl, _⟩ := cell_int Tryd.underlying3 f3
      exact ⟨(n0, n1, n2, n3), rfl⟩
  exact ⟨zs, hS⟩
end Go.Proofs.YtefippjakkgjkaaDoor
