/- The arguments of the laws of layer 15: instructions, bytes. -/
import Derived.Test.YtmmglikbajiepaaDoorIsaK2
import Derived.Test.YtmmglikbajiepaaDoorRowG
namespace Go.Proofs.YtmmglikbajiepaaDoor
open Go.ChangeShapes Go.WideShapes Go.ChangeAt Go.RowKit

theorem insCells_open {H : Type} {enc : TypeId × Value → H} {W : World} {base : Nat} {sp : Nat → Bool} {held : Bool} {el : List Value} (hl : el.length = 5) (h : ∃ n y, DataW.trod enc Tryd.prog W base sp held n 29 el = some y) : ∃ i : InsS, el = insC i := by
  have f0 := field_at Tryd.underlying29 h 0 3 0 1 rfl (by kernel_rfl)
  have f1 := field_at Tryd.underlying29 h 1 3 1 1 rfl (by kernel_rfl)
  have f2 := field_at Tryd.underlying29 h 2 3 2 1 rfl (by kernel_rfl)
  have f3 := field_at Tryd.underlying29 h 3 3 3 1 rfl (by kernel_rfl)
  have f4 := field_at Tryd.underlying29 h 4 3 4 1 rfl (by kernel_rfl)
  match el, hl with
  | [a, b, c, d, e], _ =>
    obtain ⟨n0, h0, _⟩ := cell_int Tryd.underlying3 f0
    obtain ⟨n1, h1, _⟩ := cell_int Tryd.underlying3 f1
    obtain ⟨n2, h2, _⟩ := cell_int Tryd.underlying3 f2
    obtain ⟨n3, h3, _⟩ := cell_int Tryd.underlying3 f3
    obtain ⟨n4, h4, _⟩ := cell_int Tryd.underlying3 f4
    exact ⟨⟨n0, n1, n2, n3, n4⟩, by rw [h0, h1, h2, h3, h4]; rfl⟩
set_option maxRecDepth 100000 in
theorem ins_open {H : Type} {enc : TypeId × Value → H} {W : World} {base : Nat} {r : Reach} {b0 : Nat} {sp : Nat → Bool} {held : Bool} {v : Value} {d : DataW H} {ps : List MemPlace}
    (hval : Value.okWide Tryd.prog W r b0 29 v) (hd : DataW.Trod enc Tryd.prog W base sp held 29 v d ps) : ∃ i : InsS, v = insV i := by
  obtain ⟨cs, rfl, hsz⟩ := okWide_struct Tryd.underlying29 hval
  obtain ⟨fuel, hf⟩ := hd
  have h : ∃ n y, DataW.trod enc Tryd.prog W base sp held n 29 cs.toList = some y := ⟨fuel, _, hf⟩
  have hl : cs.toList.length = 5 := by rw [Array.length_toList, hsz]; kernel_rfl
  obtain ⟨i, hi⟩ := insCells_open hl h
  have e1 : cs = cs.toList.toArray := by simp
  rw [e1, hi]
  exact ⟨i, rfl⟩
set_option maxRecDepth 100000 in
/-- A list of instructions. -/
theorem inss_open {H : Type} {enc : TypeId × Value → H} {W : World} {base : Nat} {r : Reach} {b0 : Nat} {sp : Nat → Bool} {held : Bool} {v : Value} {d : DataW H} {ps : List MemPlace}
    (hval : Value.okWide Tryd.prog W r b0 43 v) (hd : DataW.Trod enc Tryd.prog W base sp held 43 v d ps) :
    ∃ l : List InsS, SlcS 5 W v (l.map insC) := by
  obtain ⟨els, hS, hF⟩ := structs_openG (sz := 5) Tryd.underlying43 (by kernel_rfl) (by decide) hval hd
  obtain ⟨l, hl⟩ := els_map (els := els) (g := insC) fun x hx => insCells_open (hS.size x hx) (hF x hx)
  exact ⟨l, by rw [hl] at hS; exact hS⟩
theorem cell_byte {H : Type} {enc : TypeId × Value → H} {P : Program} {t : TypeId} {W : World} {base : Nat} {sp : Nat → Bool} {held : Bool} {v : Value} (ht : P.underlying t = some (.int .u8)) (h : ∃ n y, DataW.trod enc P W base sp held n t [v] = some y) : ∃ z : Int, v = .int .u8 z ∧ 0 ≤ z ∧ z < 256 := by
  obtain ⟨n, y, hy⟩ := h
  obtain ⟨k, e, _, hw⟩ := DataW.trod_int ht hy
  have hb := bounds_u8 hw
  exact ⟨k, by simpa using e, hb.1, by omega⟩
set_option maxRecDepth 100000 in
/-- A list of bytes. -/
theorem bytes_open {H : Type} {enc : TypeId × Value → H} {W : World} {base : Nat} {r : Reach} {b0 : Nat} {sp : Nat → Bool} {held : Bool} {v : Value} {d : DataW H} {ps : List MemPlace}
    (hval : Value.okWide Tryd.prog W r b0 38 v) (hd : DataW.Trod enc Tryd.prog W base sp held 38 v d ps) :
    ∃ l : List Int, Byts W v l ∧ ∀ z ∈ l, 0 ≤ z ∧ z < 256 := by
  obtain ⟨els, hS, hF⟩ := structs_openG (sz := 1) Tryd.underlying38 (by kernel_rfl) (by decide) hval hd
  obtain ⟨l, hl⟩ := els_map (els := els) (g := fun p : { z : Int // 0 ≤ z ∧ z < 256 } => [Value.int .u8 p.1]) fun x hx => by
    have h1 := hS.size x hx
    match x, h1 with
    | [y], _ =>
      obtain ⟨z, e, h0, h2⟩ := cell_byte Tryd.underlying5 (hF [y] hx)
      exact ⟨⟨z, h0, h2⟩, by rw [e]⟩
  refine ⟨l.map (·.1), ?_, fun z h => ?_⟩
  · refine slc_of_one ?_
    rw [List.map_map, List.map_map]
    rw [hl] at hS
    exact hS
  · obtain ⟨x, _, rfl⟩ := List.mem_map.1 h
    exact x.2
end Go.Proofs.YtmmglikbajiepaaDoor
