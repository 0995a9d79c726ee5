/- The arguments of the arena's laws: handles. -/
import Derived.Test.YtanidaepfepppaaDoorAr3I
import Derived.Test.YtanidaepfepppaaDoorRowG
namespace Go.Proofs.YtanidaepfepppaaDoor
open Go.ChangeShapes Go.WideShapes Go.ChangeAt Go.RowKit

set_option maxRecDepth 100000 in
theorem handle_open {H : Type} {enc : TypeId × Value → H} {W : World} {base : Nat} {r : Reach} {b0 : Nat} {sp : Nat → Bool} {held : Bool} {v : Value} {d : DataW H} {ps : List MemPlace}
    (hval : Value.okWide Tryd.prog W r b0 34 v) (hd : DataW.Trod enc Tryd.prog W base sp held 34 v d ps) : ∃ h : Int × Int, v = .agg #[.int .i64 h.1, .int .i64 h.2] := by
  obtain ⟨cs, rfl, hsz⟩ := okWide_struct Tryd.underlying34 hval
  obtain ⟨fuel, hf⟩ := hd
  have h : ∃ n y, DataW.trod enc Tryd.prog W base sp held n 34 cs.toList = some y := ⟨fuel, _, hf⟩
  have f0 := field_at Tryd.underlying34 h 0 3 0 1 rfl (by kernel_rfl)
  have f1 := field_at Tryd.underlying34 h 1 3 1 1 rfl (by kernel_rfl)
  have hl : cs.toList.length = 2 := by rw [Array.length_toList, hsz]; kernel_rfl
  have e : cs = cs.toList.toArray := by simp
  rw [e]
  generalize cs.toList = el at *
  match el, hl with
  | [a, b], _ =>
    obtain ⟨n0, h0, _⟩ := cell_int Tryd.underlying3 f0
    obtain ⟨n1, h1, _⟩ := cell_int Tryd.underlying3 f1
    exact ⟨(n0, n1), by rw [h0, h1]⟩
set_option maxRecDepth 100000 in
theorem handles_open {H : Type} {enc : TypeId × Value → H} {W : World} {base : Nat} {r : Reach} {b0 : Nat} {sp : Nat → Bool} {held : Bool} {v : Value} {d : DataW H} {ps : List MemPlace}
    (hval : Value.okWide Tryd.prog W r b0 31 v) (hd : DataW.Trod enc Tryd.prog W base sp held 31 v d ps) : ∃ zs : List (Int × Int), SlcS 2 W v (zs.map ArI.hEl) := by
  obtain ⟨els, hS, hF⟩ := structs_openG (sz := 2) Tryd.underlying31 (by kernel_rfl) (by decide) hval hd
  have each : ∀ i, i < els.length → ∃ a : Int × Int, els.getD i [] = ArI.hEl a := by
    intro i hi
    have hm : els.getD i [] ∈ els := by simp [List.getD, hi]
    have hl := hS.size _ hm
    have h := hF _ hm
    have f0 := field_at Tryd.underlying34 h 0 3 0 1 rfl (by kernel_rfl)
    have f1 := field_at Tryd.underlying34 h 1 3 1 1 rfl (by kernel_rfl)
    generalize els.getD i [] = el at *
    match el, hl with
    | [a, b], _ =>
      obtain ⟨n0, h0, _⟩ := cell_int Tryd.underlying3 f0
      obtain ⟨n1, h1, _⟩ := cell_int Tryd.underlying3 f1
      exact ⟨(n0, n1), by rw [h0, h1]; rfl⟩
  obtain ⟨f, hf⟩ := Go.Deep.choose_lt each
  refine ⟨(List.range els.length).map f, ?_⟩
  have e : ((List.range els.length).map f).map ArI.hEl = els := by
    apply List.ext_getElem
    · simp
    · intro i h1 h2
      have := hf i h2
      simp only [List.getElem_map, List.getElem_range]
      rw [← this]; simp [List.getD, h2]
  rw [e]
  exact hS
end Go.Proofs.YtanidaepfepppaaDoor
