/- The arguments of the laws of layer 28: events. -/
import Derived.Test.YtedfkonpkmckbaaDoorEvC
import Derived.Test.YtedfkonpkmckbaaDoorRowG
namespace Go.Proofs.YtedfkonpkmckbaaDoor
open Go.ChangeShapes Go.WideShapes Go.ChangeAt Go.RowKit

theorem cell_word {H : Type} {enc : TypeId × Value → H} {P : Program} {t : TypeId} {W : World} {base : Nat} {sp : Nat → Bool} {held : Bool} {v : Value} (ht : P.underlying t = some (.int .u64)) (h : ∃ n y, DataW.trod enc P W base sp held n t [v] = some y) : ∃ n : Nat, v = .int .u64 (n : Int) ∧ n < 18446744073709551616 := by
  obtain ⟨n, y, hy⟩ := h
  obtain ⟨k, e, _, hw⟩ := DataW.trod_int ht hy
  have hb := bounds_u64 hw
  exact ⟨k.toNat, by rw [Int.toNat_of_nonneg (by omega)]; simpa using e, by omega⟩
theorem evCells_open {H : Type} {enc : TypeId × Value → H} {W : World} {base : Nat} {sp : Nat → Bool} {held : Bool} {el : List Value} (hl : el.length = 5) (h : ∃ n y, DataW.trod enc Tryd.prog W base sp held n 24 el = some y) : ∃ e : EvS, el = evC e ∧ e.Ok := by
  have f0 := field_at Tryd.underlying24 h 0 22 0 1 rfl (by kernel_rfl)
  have f1 := field_at Tryd.underlying24 h 1 3 1 1 rfl (by kernel_rfl)
  have f2 := field_at Tryd.underlying24 h 2 3 2 1 rfl (by kernel_rfl)
  have f3 := field_at Tryd.underlying24 h 3 3 3 1 rfl (by kernel_rfl)
  have f4 := field_at Tryd.underlying24 h 4 22 4 1 rfl (by kernel_rfl)
  match el, hl with
  | [a, b, c, d, e], _ =>
    obtain ⟨n0, h0, b0⟩ := cell_word Tryd.underlying22 f0
    obtain ⟨n1, h1, b1⟩ := cell_int Tryd.underlying3 f1
    obtain ⟨n2, h2, b2⟩ := cell_int Tryd.underlying3 f2
    obtain ⟨n3, h3, b3⟩ := cell_int Tryd.underlying3 f3
    obtain ⟨n4, h4, b4⟩ := cell_word Tryd.underlying22 f4
    exact ⟨⟨n0, n1, n2, n3, n4⟩, by rw [h0, h1, h2, h3, h4]; rfl, ⟨b0, b4, b2.1, b2.2, b3.1, b3.2⟩⟩
set_option maxRecDepth 100000 in
theorem ev_open {H : Type} {enc : TypeId × Value → H} {W : World} {base : Nat} {r : Reach} {b0 : Nat} {sp : Nat → Bool} {held : Bool} {v : Value} {d : DataW H} {ps : List MemPlace}
    (hval : Value.okWide Tryd.prog W r b0 24 v) (hd : DataW.Trod enc Tryd.prog W base sp held 24 v d ps) : ∃ e : { e : EvS // e.Ok }, v = rvV e.1 := by
  obtain ⟨cs, rfl, hsz⟩ := okWide_struct Tryd.underlying24 hval
  obtain ⟨fuel, hf⟩ := hd
  have h : ∃ n y, DataW.trod enc Tryd.prog W base sp held n 24 cs.toList = some y := ⟨fuel, _, hf⟩
  have hl : cs.toList.length = 5 := by rw [Array.length_toList, hsz]; kernel_rfl
  obtain ⟨e, he, hok⟩ := evCells_open hl h
  have e1 : cs = cs.toList.toArray := by simp
  rw [e1, he]
  exact ⟨⟨e, hok⟩, rfl⟩
end Go.Proofs.YtedfkonpkmckbaaDoor
