/- The arguments of chapter 25's laws: acts of four numbers. -/
import Derived.Test.YtlihpmfponkmjaaStr2
import Derived.Test.YtlihpmfponkmjaaRowG
namespace Go.Proofs.Ytlihpmfponkmjaa
open Go.ChangeShapes Go.WideShapes Go.ChangeAt Go.RowKit

theorem nodup_at {l : List Int} (h : l.Nodup) {i j : Nat} (hij : i < j) (hj : j < l.length) : ¬ l[i] = l[j] := List.pairwise_iff_getElem.1 h i j (by omega) hj hij
/-- An act: kind, CPU, thing, context. -/
abbrev Act25 : Type := Int × Int × Int × Int
def aE25 (a : Act25) : List Value := [.int .i64 a.1, .int .i64 a.2.1, .int .i64 a.2.2.1, .int .i64 a.2.2.2]
set_option maxRecDepth 100000 in
theorem acts25_open {H : Type} {enc : TypeId × Value → H} {W : World} {base : Nat} {r : Reach} {b0 : Nat} {sp : Nat → Bool} {held : Bool} {v : Value} {d : DataW H} {ps : List MemPlace}
    (hval : Value.okWide Try.prog W r b0 22 v) (hd : DataW.Trod enc Try.prog W base sp held 22 v d ps) : ∃ zs : List Act25, SlcS 4 W v (zs.map aE25) := by
  obtain ⟨els, hS, hF⟩ := structs_openG (sz := 4) Try.underlying22 (by kernel_rfl) (by decide) hval hd
  obtain ⟨zs, rfl⟩ := els_map (els := els) (g := aE25) fun el hel => by
    have hl := hS.size el hel
    have h := hF el hel
    have f0 := field_at Try.underlying30 h 0 3 0 1 rfl (by kernel_rfl)
    have f1 := field_at Try.underlying30 h 1 3 1 1 rfl (by kernel_rfl)
    have f2 := field_at Try.underlying30 h 2 3 2 1 rfl (by kernel_rfl)
    have f3 := field_at Try.underlying30 h 3 3 3 1 rfl (by kernel_rfl)
    match el, hl, f0, f1, f2, f3 with
    | [a, b, c, e], _, f0, f1, f2, f3 =>
      obtain ⟨n0, rfl, _⟩ := cell_int Try.underlying3 f0
      obtain ⟨n1, rfl, _⟩ := cell_int Try.underlying3 f1
      obtain ⟨n2, rfl, _⟩ := cell_int Try.underlying3 f2
      obtain ⟨n3, rfl, _⟩ := cell_int Try.underlying3 f3
      exact ⟨(n0, n1, n2, n3), rfl⟩
  exact ⟨zs, hS⟩
end Go.Proofs.Ytlihpmfponkmjaa
