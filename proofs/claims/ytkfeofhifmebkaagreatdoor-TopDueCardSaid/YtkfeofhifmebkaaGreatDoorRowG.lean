/- Arguments that are slices of structs whose fields are of more than one cell. -/
import Derived.Test.YtkfeofhifmebkaaGreatDoorRow
namespace Go.Proofs.YtkfeofhifmebkaaGreatDoor
open Go.ChangeShapes Go.WideShapes Go.ChangeAt Go.RowKit
section
variable {P : Program} {H : Type} {enc : TypeId × Value → H}

/-- A slice of structs: its elements' cells, and that each reads by the struct's type. -/
theorem structs_openG {t e sz : Nat} {W : World} {base : Nat} {r : Reach} {b0 : Nat} {sp : Nat → Bool} {held : Bool} {v : Value} {d : DataW H} {ps : List MemPlace} (ht : P.underlying t = some (.slice e)) (hc : P.cellsOf e = sz) (h0 : 0 < sz)
    (hval : Value.okWide P W r b0 t v) (hd : DataW.Trod enc P W base sp held t v d ps) :
    ∃ els, SlcS sz W v els ∧ ∀ el ∈ els, ∃ n y, DataW.trod enc P W base sp held n e el = some y := by
  obtain ⟨a0, len, cap, rfl⟩ := okWide_slice ht hval
  obtain ⟨fuel, hf⟩ := hd
  rcases Go.Deep.open_slice ht hf with ⟨hcs, hx⟩ | ⟨a, len', cap', m, n, D, Pl, hcs, _, hl, hm, hmm, hx, hel⟩
  · obtain ⟨rfl, rfl, rfl⟩ : a0 = none ∧ len = 0 ∧ cap = 0 := by simpa [Value.cells] using hcs
    exact ⟨[], SlcS.nil sz W, fun _ h => by cases h⟩
  · obtain ⟨rfl, rfl, rfl⟩ : a0 = some a ∧ len = len' ∧ cap = cap' := by simpa [Value.cells] using hcs
    have hlm : len ≤ m := by rw [hmm]; split <;> omega
    rw [hc] at hel
    have each : ∀ i, i < len → ∃ cs' : List Value, cs'.length = sz ∧ (∀ j, j < sz → W.cell? (a.add (i * sz + j)) = some (cs'.getD j undef)) ∧ ∃ n y, DataW.trod enc P W base sp held n e cs' = some y := by
      intro i hi
      obtain ⟨cs', h1, h2⟩ := hel i (by omega)
      obtain ⟨_, hlen, hcell⟩ := World.cells?_some h1
      refine ⟨cs', hlen, fun j hj => ?_, ⟨_, _, h2⟩⟩
      have := hcell j hj
      rw [Go.Deep.add_add] at this
      rw [this]; simp [List.getD, hlen, hj]
    obtain ⟨f, hff⟩ : ∃ f : Nat → List Value, ∀ i, i < len → (f i).length = sz ∧ (∀ j, j < sz → W.cell? (a.add (i * sz + j)) = some ((f i).getD j undef)) ∧ ∃ n y, DataW.trod enc P W base sp held n e (f i) = some y := Go.Deep.choose_lt each
    refine ⟨(List.range len).map f, ⟨some a, cap, by simp, by simpa using hl, hm, fun h => (by cases h), ?_, ?_⟩, ?_⟩
    · intro el hel
      obtain ⟨i, hi, rfl⟩ := List.mem_map.1 hel
      exact (hff i (by simpa using hi)).1
    · intro i hi
      simp only [List.length_map, List.length_range] at hi
      have h1 := (hff 0 (by omega)).2.1 0 h0
      rw [Nat.zero_mul] at h1
      obtain ⟨b, off, rfl⟩ := spot_none h1
      refine ⟨b, off, rfl, fun j hj => ?_⟩
      have := (hff i hi).2.1 j hj
      rw [add_plain] at this
      rw [Nat.add_assoc, this]
      simp [List.getD, hi]
    · intro el hel
      obtain ⟨i, hi, rfl⟩ := List.mem_map.1 hel
      exact (hff i (by simpa using hi)).2.2
/-- A struct's field. -/
theorem field_trod {t : TypeId} {fs : Array Field} {W : World} {base : Nat} {sp : Nat → Bool} {held : Bool} {cs : List Value} (ht : P.underlying t = some (.struct fs)) (h : ∃ n y, DataW.trod enc P W base sp held n t cs = some y) (j : Nat) (f : Field) (hj : fs[j]? = some f) :
    ∃ n y, DataW.trod enc P W base sp held n f.type ((cs.drop f.offset).take (P.cellsOf f.type)) = some y := by
  obtain ⟨n, y, hy⟩ := h
  obtain ⟨xs, k, _, _, _, hxl, hfl⟩ := DataW.trod_struct ht hy
  have h3 := hfl j f hj
  have hlt : j < xs.length := by rw [hxl]; exact (Array.getElem?_eq_some_iff.1 hj).1
  exact ⟨k, xs[j], by rw [h3, List.getElem?_eq_getElem hlt]⟩
/-- The same, its type and its place given. -/
theorem field_at {t : TypeId} {fs : Array Field} {W : World} {base : Nat} {sp : Nat → Bool} {held : Bool} {cs : List Value} (ht : P.underlying t = some (.struct fs)) (h : ∃ n y, DataW.trod enc P W base sp held n t cs = some y) (j ft off m : Nat) (hj : (fs[j]?).map (fun f => (f.type, f.offset)) = some (ft, off)) (hm : P.cellsOf ft = m) :
    ∃ n y, DataW.trod enc P W base sp held n ft ((cs.drop off).take m) = some y := by
  cases hf : fs[j]? with
  | none => rw [hf] at hj; cases hj
  | some f =>
    rw [hf] at hj
    simp only [Option.map_some, Option.some.injEq, Prod.mk.injEq] at hj
    obtain ⟨rfl, rfl⟩ := hj
    subst hm
    exact field_trod ht h j f hf
end
end Go.Proofs.YtkfeofhifmebkaaGreatDoor
