/- The arguments of chapter 27's laws: acts of four numbers. -/
import Derived.Test.YtcggbfpangnllaaStr2
import Derived.Test.YtcggbfpangnllaaRowG
namespace Go.Proofs.Ytcggbfpangnllaa
open Go.ChangeShapes Go.WideShapes Go.ChangeAt Go.RowKit

/-- An act: kind, work, CPU, number. -/
abbrev Act27 : Type := Int × Int × Int × Int
def aE27 (a : Act27) : List Value := [.int .i64 a.1, .int .i64 a.2.1, .int .i64 a.2.2.1, .int .i64 a.2.2.2]
set_option maxRecDepth 100000 in
theorem acts27_open {H : Type} {enc : TypeId × Value → H} {W : World} {base : Nat} {r : Reach} {b0 : Nat} {sp : Nat → Bool} {held : Bool} {v : Value} {d : DataW H} {ps : List MemPlace}
    (hval : Value.okWide Try.prog W r b0 40 v) (hd : DataW.Trod enc Try.prog W base sp held 40 v d ps) : ∃ zs : List Act27, SlcS 4 W v (zs.map aE27) := by
  obtain ⟨els, hS, hF⟩ := structs_openG (sz := 4) Try.underlying40 (by kernel_rfl) (by decide) hval hd
  obtain ⟨zs, rfl⟩ := els_map (els := els) (g := aE27) fun el hel => by
    have hl := hS.size el hel
    have h := hF el hel
    have f0 := field_at Try.underlying45 h 0 3 0 1 rfl (by kernel_rfl)
    have f1 := field_at Try.underlying45 h 1 3 1 1 rfl (by kernel_rfl)
    have f2 := field_at Try.underlying45 h 2 3 2 1 rfl (by kernel_rfl)
    have f3 := field_at Try.underlying45 h 3 3 3 1 rfl (by kernel_rfl)
    match el, hl, f0, f1, f2, f3 with
    | [a, b, c, e], _, f0, f1, f2, f3 =>
      obtain ⟨n0, rfl, _⟩ := cell_int Try.underlying3 f0
      obtain ⟨n1, rfl, _⟩ := cell_int Try.underlying3 f1
      obtain ⟨n2, rfl, _⟩ := cell_int Try.underlying3 f2
      obtain ⟨n3, rfl, _⟩ := cell_int Try.underlying3 f3
      exact ⟨(n0, n1, n2, n3), rfl⟩
  exact ⟨zs, hS⟩
set_option maxRecDepth 100000 in
theorem bools_open {H : Type} {enc : TypeId × Value → H} {W : World} {base : Nat} {r : Reach} {b0 : Nat} {sp : Nat → Bool} {held : Bool} {v : Value} {d : DataW H} {ps : List MemPlace}
    (hval : Value.okWide Try.prog W r b0 23 v) (hd : DataW.Trod enc Try.prog W base sp held 23 v d ps) : ∃ bs : List Bool, Slc W v (bs.map .bool) :=
  bools_openG Try.underlying23 Try.underlying4 (by kernel_rfl) hval hd
end Go.Proofs.Ytcggbfpangnllaa
