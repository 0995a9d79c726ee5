/- Any law's post out of 'it returned true, and old memory lies as it lay'; the data of parameters as a walk wants them. -/
import Derived.Test.YtkfeofhifmebkaaGreatDoorBase
import Derived.ProofKit
import Derived.OpenShut
import Derived.Deep.DeepHandedRow
import Derived.ChangeSlices
import Derived.Deep.Slices
namespace Go.Proofs.YtkfeofhifmebkaaGreatDoor
open Go.ChangeShapes Go.WideShapes Go.ChangeAt Go.RowKit

variable {H : Type} {enc : TypeId × Value → H} {P : Program}

theorem trodAll_below (hl : laidOutB P = true) {W W' : World} (hb : Below W.heap.size W W') : ∀ {ts : List TypeId} {vs : List Value} {ds : List (DataW H)} {p : List MemPlace},
    (∀ t ∈ ts, P.readableRec t = true ∧ t < P.types.size) → DataW.TrodAll enc P W 0 (fun _ => true) true ts vs ds p → (∀ x ∈ p, x.block < W.heap.size) →
    DataW.TrodAll enc P W' 0 (fun b => decide (b < W.heap.size)) true ts vs ds p
  | [], [], [], _, _, h, _ => h
  | t :: ts, v :: vs, d :: ds, p, hr, ⟨p1, p2, h1, h2, hp⟩, hx => by
    subst hp
    exact ⟨p1, p2, Below.trod hl (hr t (by simp)).1 (hr t (by simp)).2 h1 hb (fun x hx' => hx x (by simp [hx'])), trodAll_below hl hb (fun t ht => hr t (by simp [ht])) h2 (fun x hx' => hx x (by simp [hx'])), rfl⟩
  | [], _ :: _, _, _, _, h, _ => h.elim
  | [], [], _ :: _, _, _, h, _ => h.elim
  | _ :: _, [], _, _, _, h, _ => h.elim
  | _ :: _, _ :: _, [], _, _, h, _ => h.elim
theorem trodAll_length {W : World} {base : Nat} {sp : Nat → Bool} {held : Bool} : ∀ {ts : List TypeId} {vs : List Value} {ds : List (DataW H)} {p : List MemPlace}, DataW.TrodAll enc P W base sp held ts vs ds p → ds.length = ts.length
  | [], [], [], _, _ => rfl
  | _ :: _, _ :: _, _ :: _, _, ⟨_, _, _, h2, _⟩ => by simp [trodAll_length h2]
  | [], _ :: _, _, _, h => h.elim
  | [], [], _ :: _, _, h => h.elim
  | _ :: _, [], _, _, h => h.elim
  | _ :: _, _ :: _, [], _, h => h.elim

/-- **A law's post**: it returned true; nothing that lay has turned. -/
theorem law_post {f : Func} {s : ChangeSpec} {W W' : World} {args : Array Value} {ds gs : List (DataW H)} {before : List MemPlace} {tb : TypeId} (hl : laidOutB P = true)
    (hr : ∀ t ∈ f.params.toList, P.readableRec t = true ∧ t < P.types.size) (hv : s.vars = []) (hres : f.resultTypes = #[tb]) (hb : P.underlying tb = some .bool)
    (hs : ∀ ds : List (DataW H), ds.length = f.params.toList.length → s.fn H ds = { results := [.lit (.bool true)], args := ds })
    (hW : DataW.Whole enc P f.params.toList s.vars false W args.toList ds gs before) (hk : Keeps W W') :
    s.post enc P f false true false false W args (.bool true) W' := by
  have hW' := hW
  obtain ⟨p, q, hA, hV, rfl, hfz, hnd⟩ := hW
  rw [hv] at hV
  obtain ⟨rfl, rfl⟩ := trodVars_none hV
  have hlen := trodAll_length hA
  have hf := hs ds hlen
  have hold : ∀ x ∈ p, x.block < W.heap.size := fun x hx => hW'.lt x (by simpa using hx)
  refine ⟨ds, [], p ++ [], [], p, [], hW', ?_, ?_, ?_, Below.frame hk _, fun h => by cases h⟩
  · rw [List.append_nil, hf, hres]
    exact trodAll_cons_mk (shut_bool hb _) trodAll_mk0
  · rw [List.append_nil, hf]
    exact trodAll_below hl hk hr hA hold
  · rw [List.append_nil, hf, hv]
    exact rfl

/-! ### Parameters -/
/-- A 64-bit word as a natural number. -/
theorem word_open {t : TypeId} {W : World} {base : Nat} {r : Reach} {b0 : Nat} {sp : Nat → Bool} {held : Bool} {v : Value} {d : DataW H} {ps : List MemPlace} (ht : P.underlying t = some (.int .u64))
    (hval : Value.okWide P W r b0 t v) (hd : DataW.Trod enc P W base sp held t v d ps) : ∃ m : Nat, v = .int .u64 m ∧ m < 18446744073709551616 := by
  obtain ⟨n, rfl, _, _, hw⟩ := open_int ht hval hd
  have hb := bounds_u64 hw
  exact ⟨n.toNat, by congr 1; omega, by omega⟩
theorem int_open {t : TypeId} {W : World} {base : Nat} {r : Reach} {b0 : Nat} {sp : Nat → Bool} {held : Bool} {v : Value} {d : DataW H} {ps : List MemPlace} (ht : P.underlying t = some (.int .i64))
    (hval : Value.okWide P W r b0 t v) (hd : DataW.Trod enc P W base sp held t v d ps) : ∃ n : Int, v = .int .i64 n ∧ -9223372036854775808 ≤ n ∧ n ≤ 9223372036854775807 := by
  obtain ⟨n, rfl, _, _, hw⟩ := open_int ht hval hd
  exact ⟨n, rfl, bounds_i64 hw⟩
/-- A slice of integers, read as a list. -/
theorem ints_open {t e : TypeId} {W : World} {base : Nat} {r : Reach} {b0 : Nat} {sp : Nat → Bool} {held : Bool} {v : Value} {d : DataW H} {ps : List MemPlace} (ht : P.underlying t = some (.slice e)) (he : P.underlying e = some (.int .i64)) (hc : P.cellsOf e = 1)
    (hval : Value.okWide P W r b0 t v) (hd : DataW.Trod enc P W base sp held t v d ps) : ∃ zs : List Int, Ints W v zs ∧ ∀ z ∈ zs, -9223372036854775808 ≤ z ∧ z ≤ 9223372036854775807 := by
  obtain ⟨a0, len, cap, rfl⟩ := okWide_slice ht hval
  obtain ⟨fuel, hf⟩ := hd
  rcases open_ints ht he hc hf with ⟨hcs, hx⟩ | ⟨a, len', cap', zs, hcs, _, hl, hm, hz, hx, hcell, hwz⟩
  · obtain ⟨rfl, rfl, rfl⟩ : a0 = none ∧ len = 0 ∧ cap = 0 := by simpa [Value.cells] using hcs
    exact ⟨[], Slc.nil W, fun z hz => by cases hz⟩
  · obtain ⟨rfl, rfl, rfl⟩ : a0 = some a ∧ len = len' ∧ cap = cap' := by simpa [Value.cells] using hcs
    have hlz : len ≤ zs.length := by rw [hz]; split <;> omega
    have e1 : (zs.take len).length = len := by rw [List.length_take]; omega
    refine ⟨zs.take len, ⟨some a, cap, by rw [List.length_map, e1], by rw [List.length_map, e1]; exact hl, hm, fun h => (by cases h), fun k hk => ?_⟩, fun z h => bounds_i64 (hwz z (List.mem_of_mem_take h))⟩
    rw [List.length_map, e1] at hk
    have hc' := hcell k (by omega)
    obtain ⟨b, off, sp⟩ := a
    have hsp : sp = none := by
      cases sp with
      | none => rfl
      | some s =>
        exfalso
        have h0 := hcell 0 (by omega)
        simp [Addr.add, World.cell?] at h0
        split at h0 <;> simp at h0
    subst hsp
    refine ⟨b, off, rfl, ?_⟩
    rw [add_plain] at hc'
    rw [hc']
    simp [List.getD, hk, show k < zs.length by omega]

theorem spot_none {W : World} {a : Addr} {v : Value} (h : W.cell? (a.add 0) = some v) : ∃ b off, a = ⟨b, off, none⟩ := by
  obtain ⟨b, off, sp⟩ := a
  cases sp with
  | none => exact ⟨b, off, rfl⟩
  | some s =>
    exfalso
    simp [Addr.add, World.cell?] at h
    split at h <;> simp at h
theorem take_one (l : List Value) (j : Nat) (h : j < l.length) : (l.drop j).take 1 = [l.getD j undef] := by
  rw [List.drop_eq_getElem_cons h, List.take_succ_cons, List.take_zero, List.getD_eq_getElem?_getD, List.getElem?_eq_getElem h]; rfl
/-- A slice of structs whose fields are one cell each: its elements' cells, and that each reads by its field's type. -/
theorem structs_open {t e sz : Nat} {fs : Array Field} {W : World} {base : Nat} {r : Reach} {b0 : Nat} {sp : Nat → Bool} {held : Bool} {v : Value} {d : DataW H} {ps : List MemPlace} (ht : P.underlying t = some (.slice e)) (he : P.underlying e = some (.struct fs)) (hc : P.cellsOf e = sz) (hsz : fs.size = sz) (h0 : 0 < sz)
    (hfs : ∀ (j : Nat) (f : Field), fs[j]? = some f → f.offset = j ∧ P.cellsOf f.type = 1) (hval : Value.okWide P W r b0 t v) (hd : DataW.Trod enc P W base sp held t v d ps) :
    ∃ els, SlcS sz W v els ∧ ∀ el ∈ els, ∀ (j : Nat) (f : Field), fs[j]? = some f → ∃ n y, DataW.trod enc P W base sp held n f.type [el.getD j undef] = some y := by
  obtain ⟨a0, len, cap, rfl⟩ := okWide_slice ht hval
  obtain ⟨fuel, hf⟩ := hd
  rcases Go.Deep.open_slice ht hf with ⟨hcs, hx⟩ | ⟨a, len', cap', m, n, D, Pl, hcs, _, hl, hm, hmm, hx, hel⟩
  · obtain ⟨rfl, rfl, rfl⟩ : a0 = none ∧ len = 0 ∧ cap = 0 := by simpa [Value.cells] using hcs
    exact ⟨[], SlcS.nil sz W, fun _ h => by cases h⟩
  · obtain ⟨rfl, rfl, rfl⟩ : a0 = some a ∧ len = len' ∧ cap = cap' := by simpa [Value.cells] using hcs
    have hlm : len ≤ m := by rw [hmm]; split <;> omega
    rw [hc] at hel
    have each : ∀ i, i < len → ∃ cs' : List Value, cs'.length = sz ∧ (∀ j, j < sz → W.cell? (a.add (i * sz + j)) = some (cs'.getD j undef)) ∧ ∀ (j : Nat) (f : Field), fs[j]? = some f → ∃ n y, DataW.trod enc P W base sp held n f.type [cs'.getD j undef] = some y := by
      intro i hi
      obtain ⟨cs', h1, h2⟩ := hel i (by omega)
      obtain ⟨_, hlen, hcell⟩ := World.cells?_some h1
      obtain ⟨xs, k, hk, hxy, _, hxl, hfl⟩ := DataW.trod_struct he h2
      refine ⟨cs', hlen, fun j hj => ?_, fun j f hjf => ?_⟩
      · have := hcell j hj
        rw [Go.Deep.add_add] at this
        rw [this]; simp [List.getD, hlen, hj]
      · obtain ⟨ho, hcf⟩ := hfs j f hjf
        have hj : j < sz := by rw [← hsz]; exact (Array.getElem?_eq_some_iff.1 hjf).1
        have h3 := hfl j f hjf
        rw [ho, hcf] at h3
        rw [take_one cs' j (by omega)] at h3
        have hjx : j < xs.length := by rw [hxl, hsz]; exact hj
        exact ⟨k, xs[j], by rw [h3, List.getElem?_eq_getElem hjx]⟩
    obtain ⟨f, hff⟩ : ∃ f : Nat → List Value, ∀ i, i < len → (f i).length = sz ∧ (∀ j, j < sz → W.cell? (a.add (i * sz + j)) = some ((f i).getD j undef)) ∧ ∀ (j : Nat) (g : Field), fs[j]? = some g → ∃ n y, DataW.trod enc P W base sp held n g.type [(f i).getD j undef] = some y := Go.Deep.choose_lt each
    refine ⟨(List.range len).map f, ⟨some a, cap, by simp, by simpa using hl, hm, fun h => (by cases h), ?_, ?_⟩, ?_⟩
    · intro el hel
      obtain ⟨i, hi, rfl⟩ := List.mem_map.1 hel
      exact (hff i (by simpa using hi)).1
    · intro i hi
      simp only [List.length_map, List.length_range] at hi
      have h1 := (hff 0 (by omega)).2.1 0 h0
      rw [Nat.zero_mul] at h1
      obtain ⟨b, off, rfl⟩ := spot_none h1
      refine ⟨b, off, rfl, fun j hj => ?_⟩
      have := (hff i hi).2.1 j hj
      rw [add_plain] at this
      rw [Nat.add_assoc, this]
      simp [List.getD, hi]
    · intro el hel
      obtain ⟨i, hi, rfl⟩ := List.mem_map.1 hel
      exact (hff i (by simpa using hi)).2.2
/-- A cell that reads as an integer, a bool, a slice of integers. -/
theorem cell_int {t : TypeId} {W : World} {base : Nat} {sp : Nat → Bool} {held : Bool} {v : Value} (ht : P.underlying t = some (.int .i64)) (h : ∃ n y, DataW.trod enc P W base sp held n t [v] = some y) : ∃ n : Int, v = .int .i64 n ∧ -9223372036854775808 ≤ n ∧ n ≤ 9223372036854775807 := by
  obtain ⟨n, y, hy⟩ := h
  obtain ⟨k, e, _, hw⟩ := DataW.trod_int ht hy
  exact ⟨k, by simpa using e, bounds_i64 hw⟩
theorem cell_bool {t : TypeId} {W : World} {base : Nat} {sp : Nat → Bool} {held : Bool} {v : Value} (ht : P.underlying t = some .bool) (h : ∃ n y, DataW.trod enc P W base sp held n t [v] = some y) : ∃ b : Bool, v = .bool b := by
  obtain ⟨n, y, hy⟩ := h
  obtain ⟨b, e, _⟩ := DataW.trod_bool ht hy
  exact ⟨b, by simpa using e⟩
theorem cell_ints {t e : TypeId} {W : World} {base : Nat} {sp : Nat → Bool} {held : Bool} {v : Value} (ht : P.underlying t = some (.slice e)) (he : P.underlying e = some (.int .i64)) (hc : P.cellsOf e = 1) (h : ∃ n y, DataW.trod enc P W base sp held n t [v] = some y) :
    ∃ zs : List Int, Ints W v zs ∧ ∀ z ∈ zs, -9223372036854775808 ≤ z ∧ z ≤ 9223372036854775807 := by
  obtain ⟨n, y, hy⟩ := h
  rcases open_ints ht he hc hy with ⟨hcs, hx⟩ | ⟨a, len, cap, zs, hcs, _, hl, hm, hz, hx, hcell, hwz⟩
  · obtain rfl : v = .slice none 0 0 := by simpa using hcs
    exact ⟨[], Slc.nil W, fun z hz => by cases hz⟩
  · obtain rfl : v = .slice (some a) len cap := by simpa using hcs
    have hlz : len ≤ zs.length := by rw [hz]; split <;> omega
    have e1 : (zs.take len).length = len := by rw [List.length_take]; omega
    refine ⟨zs.take len, ⟨some a, cap, by rw [List.length_map, e1], by rw [List.length_map, e1]; exact hl, hm, fun h => (by cases h), fun k hk => ?_⟩, fun z h => bounds_i64 (hwz z (List.mem_of_mem_take h))⟩
    rw [List.length_map, e1] at hk
    have hc' := hcell k (by omega)
    have h0 := hcell 0 (by omega)
    obtain ⟨b, off, rfl⟩ := spot_none h0
    refine ⟨b, off, rfl, ?_⟩
    rw [add_plain] at hc'
    rw [hc']
    simp [List.getD, hk, show k < zs.length by omega]
end Go.Proofs.YtkfeofhifmebkaaGreatDoor
