/- The arguments of the laws of layer 28: lists of lists of events. -/
import Derived.Test.YtedfkonpkmckbaaDoorOpen28
namespace Go.Proofs.YtedfkonpkmckbaaDoor
open Go.ChangeShapes Go.WideShapes Go.ChangeAt Go.RowKit

/-- A slice of structs that lies in a cell. -/
theorem structs_openT {P : Program} {H : Type} {enc : TypeId × Value → H} {t e sz : Nat} {W : World} {base : Nat} {sp : Nat → Bool} {held : Bool} {el : List Value} (ht : P.underlying t = some (.slice e)) (hc : P.cellsOf e = sz) (h0 : 0 < sz)
    (hd : ∃ n y, DataW.trod enc P W base sp held n t el = some y) :
    ∃ v els, el = [v] ∧ SlcS sz W v els ∧ ∀ el ∈ els, ∃ n y, DataW.trod enc P W base sp held n e el = some y := by
  obtain ⟨fuel, y, hf⟩ := hd
  rcases Go.Deep.open_slice ht hf with ⟨hcs, hx⟩ | ⟨a, len, cap, m, n, D, Pl, hcs, _, hl, hm, hmm, hx, hel⟩
  · exact ⟨_, [], hcs, SlcS.nil sz W, fun _ h => by cases h⟩
  · have hlm : len ≤ m := by rw [hmm]; split <;> omega
    rw [hc] at hel
    have each : ∀ i, i < len → ∃ cs' : List Value, cs'.length = sz ∧ (∀ j, j < sz → W.cell? (a.add (i * sz + j)) = some (cs'.getD j undef)) ∧ ∃ n y, DataW.trod enc P W base sp held n e cs' = some y := by
      intro i hi
      obtain ⟨cs', h1, h2⟩ := hel i (by omega)
      obtain ⟨_, hlen, hcell⟩ := World.cells?_some h1
      refine ⟨cs', hlen, fun j hj => ?_, ⟨_, _, h2⟩⟩
      have := hcell j hj
      rw [Go.Deep.add_add] at this
      rw [this]; simp [List.getD, hlen, hj]
    obtain ⟨f, hff⟩ : ∃ f : Nat → List Value, ∀ i, i < len → (f i).length = sz ∧ (∀ j, j < sz → W.cell? (a.add (i * sz + j)) = some ((f i).getD j undef)) ∧ ∃ n y, DataW.trod enc P W base sp held n e (f i) = some y := Go.Deep.choose_lt each
    refine ⟨_, (List.range len).map f, hcs, ⟨some a, cap, by simp, by simpa using hl, hm, fun h => (by cases h), ?_, ?_⟩, ?_⟩
    · intro el hel
      obtain ⟨i, hi, rfl⟩ := List.mem_map.1 hel
      exact (hff i (by simpa using hi)).1
    · intro i hi
      simp only [List.length_map, List.length_range] at hi
      have h1 := (hff 0 (by omega)).2.1 0 h0
      rw [Nat.zero_mul] at h1
      obtain ⟨b, off, rfl⟩ := spot_none h1
      refine ⟨b, off, rfl, fun j hj => ?_⟩
      have := (hff i hi).2.1 j hj
      rw [add_plain] at this
      rw [Nat.add_assoc, this]
      simp [List.getD, hi]
    · intro el hel
      obtain ⟨i, hi, rfl⟩ := List.mem_map.1 hel
      exact (hff i (by simpa using hi)).2.2
set_option maxRecDepth 100000 in
/-- A list of lists of events. -/
theorem evss_open {H : Type} {enc : TypeId × Value → H} {W : World} {base : Nat} {r : Reach} {b0 : Nat} {sp : Nat → Bool} {held : Bool} {v : Value} {d : DataW H} {ps : List MemPlace}
    (hval : Value.okWide Tryd.prog W r b0 40 v) (hd : DataW.Trod enc Tryd.prog W base sp held 40 v d ps) :
    ∃ vs : List (Value × List EvS), Slc W v (vs.map (·.1)) ∧ ∀ p ∈ vs, SlcS 5 W p.1 (p.2.map evC) := by
  obtain ⟨els, hS, hF⟩ := structs_openG (sz := 1) Tryd.underlying40 (by kernel_rfl) (by decide) hval hd
  have hp : ∀ el ∈ els, ∃ p : { p : Value × List EvS // SlcS 5 W p.1 (p.2.map evC) }, el = [p.1.1] := fun el hel => by
    obtain ⟨u, es, he, hs, hf⟩ := structs_openT (sz := 5) Tryd.underlying42 (by kernel_rfl) (by decide) (hF el hel)
    obtain ⟨evs, hevs⟩ := els_map (els := es) (g := evC) fun x hx => by
      obtain ⟨e, h1, _⟩ := evCells_open (hs.size x hx) (hf x hx)
      exact ⟨e, h1⟩
    exact ⟨⟨(u, evs), by rw [hevs] at hs; exact hs⟩, he⟩
  obtain ⟨vs, hvs⟩ := els_map (els := els) (g := fun p : { p : Value × List EvS // SlcS 5 W p.1 (p.2.map evC) } => [p.1.1]) hp
  refine ⟨vs.map (·.1), ?_, fun p h => ?_⟩
  · refine slc_of_one ?_
    rw [List.map_map, List.map_map]
    rw [hvs] at hS
    exact hS
  · obtain ⟨x, _, rfl⟩ := List.mem_map.1 h
    exact x.2
end Go.Proofs.YtedfkonpkmckbaaDoor
