/- Words of our own for the walks: slices by value, the world kept below the heap's end. -/
import Derived.Test.YtkfeofhifmebkaaGreatDoorChecked
import Derived.WalkKit
import Derived.WalkSpells
import Derived.WalkLawsBesides
import Derived.Lib.Hide
import Derived.RangeFuncBox
import Derived.OwnWalkIn
import Derived.Laws.AppendOwnNone
import Derived.Maps.AppendAt
namespace Go.Proofs.YtkfeofhifmebkaaGreatDoor
open Go.RowKit

/-- A slice value whose elements are one cell each: it reads as the list xs. -/
def Slc (w : World) (v : Value) (xs : List Value) : Prop :=
  ∃ p cap, v = .slice p xs.length cap ∧ xs.length ≤ cap ∧ cap ≤ maxLen ∧ (p = none → cap = 0) ∧
    ∀ k, k < xs.length → ∃ b off, p = some ⟨b, off, none⟩ ∧ w.cell? ⟨b, off + k, none⟩ = some (xs.getD k undef)
/-- The same of integers. -/
def Ints (w : World) (v : Value) (zs : List Int) : Prop := Slc w v (zs.map (Value.int .i64))

theorem cell_lt {w : World} {a : Addr} {v : Value} (h : w.cell? a = some v) : a.block < w.heap.size := by
  unfold World.cell? at h
  cases hb : w.heap[a.block]? with
  | none => rw [hb] at h; cases h
  | some o => exact (Array.getElem?_eq_some_iff.1 hb).1
theorem Slc.below {w w' : World} {v : Value} {xs : List Value} (h : Slc w v xs) (hb : Below w.heap.size w w') : Slc w' v xs := by
  obtain ⟨p, cap, hv, hl, hc, hn, h⟩ := h
  refine ⟨p, cap, hv, hl, hc, hn, fun k hk => ?_⟩
  obtain ⟨b, off, hp, hcell⟩ := h k hk
  exact ⟨b, off, hp, (hb.cell (p := ⟨b, off + k, none⟩) (cell_lt hcell)).trans hcell⟩
theorem Slc.nil (w : World) : Slc w (.slice none 0 0) [] := ⟨none, 0, rfl, Nat.le_refl _, Nat.zero_le _, fun _ => rfl, fun k hk => absurd hk (Nat.not_lt_zero k)⟩
/-- A slice's first k. -/
theorem Slc.take {w : World} {p : Option Addr} {n cap : Nat} {xs : List Value} (h : Slc w (.slice p n cap) xs) (k : Nat) (hk : k ≤ xs.length) : Slc w (.slice p k cap) (xs.take k) := by
  obtain ⟨q, c, hv, hl, hc, hn, h⟩ := h
  simp only [Value.slice.injEq] at hv
  obtain ⟨rfl, rfl, rfl⟩ := hv
  have e : (xs.take k).length = k := by rw [List.length_take]; omega
  refine ⟨p, cap, by rw [e], by omega, hc, hn, fun i hi => ?_⟩
  rw [e] at hi
  obtain ⟨b, off, hp, hcell⟩ := h i (by omega)
  refine ⟨b, off, hp, ?_⟩
  rw [hcell]; simp [List.getD, hi]
theorem Ints.len {w : World} {v : Value} {zs : List Int} (h : Ints w v zs) : zs.length ≤ maxLen := by
  obtain ⟨_, _, _, hl, hc, _⟩ := h; simp at hl; omega
/-- Old blocks lie as they lay. -/
abbrev Keeps (w w' : World) : Prop := Below w.heap.size w w'
theorem Keeps.refl (w : World) : Keeps w w := Below.refl _ _
theorem Keeps.trans {a b c : World} (h : Keeps a b) (k : Keeps b c) : Keeps a c := Below.trans h (Below.mono k h.size)
theorem Keeps.alloc (w : World) (o : Obj) : Keeps w (w.alloc o) := (Below.refl _ _).alloc (Nat.le_refl _) o
theorem Keeps.drew (w : World) : Keeps w w.drew := (Below.refl _ _).drew
/-! ### A block known whole -/
/-- Block b holds the cells cs, all free. -/
def Blk (W : World) (b : Nat) (t : TypeId) (cs : List Value) : Prop := W.heap[b]? = some (.cells cs.toArray t (0, 0))
theorem Blk.lt {W : World} {b : Nat} {t : TypeId} {cs : List Value} (h : Blk W b t cs) : b < W.heap.size := (Array.getElem?_eq_some_iff.1 h).1
theorem Blk.cell {W : World} {b : Nat} {t : TypeId} {cs : List Value} (h : Blk W b t cs) (k : Nat) (hk : k < cs.length) : W.cell? ⟨b, k, none⟩ = some cs[k] := by
  simp [World.cell?, show W.heap[b]? = _ from h, hk]
theorem Blk.cellD {W : World} {b : Nat} {t : TypeId} {cs : List Value} (h : Blk W b t cs) (k : Nat) (hk : k < cs.length) : W.cell? ⟨b, k, none⟩ = some (cs.getD k undef) := by
  rw [h.cell k hk]; simp [List.getD, hk]
theorem Blk.frozen {W : World} {b : Nat} {t : TypeId} {cs : List Value} (h : Blk W b t cs) (k : Nat) : W.frozen? ⟨b, k, none⟩ = false := by
  simp [World.frozen?, show W.heap[b]? = _ from h]
theorem Blk.new (W : World) (t : TypeId) (cs : List Value) : Blk (W.alloc (.cells cs.toArray t)) W.heap.size t cs := World.alloc_heap_new W _
theorem Blk.kept {W W' : World} {row : Option Nat} {b : Nat} {t : TypeId} {cs : List Value} (h : Blk W b t cs) (hg : W.grownBy W' row) (hne : some b ≠ row) : Blk W' b t cs := (hg.block b h.lt hne).trans h
theorem Blk.alloc {W : World} {b : Nat} {t : TypeId} {cs : List Value} (h : Blk W b t cs) (o : Obj) : Blk (W.alloc o) b t cs := h.kept (World.grownBy_alloc W o none) (by simp)
theorem Blk.other {W : World} {b b' : Nat} {t : TypeId} {cs : List Value} (h : Blk W b t cs) (hne : b ≠ b') (k : Nat) (u : Value) : Blk (W.setCell ⟨b', k, none⟩ u) b t cs := by
  show (W.setCell ⟨b', k, none⟩ u).heap[b]? = _
  rw [Below.heap_setCell W ⟨b', k, none⟩ u b hne]; exact h
theorem Blk.set {W : World} {b : Nat} {t : TypeId} {cs : List Value} (h : Blk W b t cs) (k : Nat) (u : Value) : Blk (W.setCell ⟨b, k, none⟩ u) b t (cs.set k u) := by
  obtain ⟨hlt, hk⟩ := Array.getElem?_eq_some_iff.1 h
  show (W.heap.modify b _)[b]? = _
  rw [Array.getElem?_eq_getElem (by rw [Array.size_modify]; exact hlt), Array.getElem_modify_self, hk]
  simp
theorem Blk.below {n : Nat} {W W' : World} {b : Nat} {t : TypeId} {cs : List Value} (h : Blk W b t cs) (hb : Below n W W') (hlt : b < n) : Blk W' b t cs := (hb.block b hlt).trans h
theorem Blk.keeps {W W' : World} {b : Nat} {t : TypeId} {cs : List Value} (h : Blk W b t cs) (hb : Keeps W W') : Blk W' b t cs := h.below hb h.lt
theorem Blk.boxed {W : World} {b : Nat} {t : TypeId} {v : Value} (h : Blk W b t [v]) : Boxed W b t v := h
theorem Boxed.blk {W : World} {b : Nat} {t : TypeId} {v : Value} (h : Boxed W b t v) : Blk W b t [v] := h
/-! ### 'out = append(out, y)': one element, onto a slice of the call's own -/
/-! ### 'out = append(out, src...)' -/
theorem Ints.take {w : World} {p : Option Addr} {n cap : Nat} {zs : List Int} (h : Ints w (.slice p n cap) zs) (k : Nat) (hk : k ≤ zs.length) : Ints w (.slice p k cap) (zs.take k) := by
  have := Slc.take h k (by simpa using hk)
  rw [← List.map_take] at this
  exact this
/-! ### make([]T, n) of one-cell elements -/
/-! ### Slices of structs -/
/-- A slice whose elements are sz cells each. -/
def SlcS (sz : Nat) (w : World) (v : Value) (els : List (List Value)) : Prop :=
  ∃ p cap, v = .slice p els.length cap ∧ els.length ≤ cap ∧ cap ≤ maxLen ∧ (p = none → cap = 0) ∧ (∀ el ∈ els, el.length = sz) ∧
    ∀ i, i < els.length → ∃ b off, p = some ⟨b, off, none⟩ ∧ ∀ j, j < sz → w.cell? ⟨b, off + i * sz + j, none⟩ = some ((els.getD i []).getD j undef)
theorem SlcS.below {sz : Nat} {w w' : World} {v : Value} {els : List (List Value)} (h : SlcS sz w v els) (hb : Below w.heap.size w w') : SlcS sz w' v els := by
  obtain ⟨p, cap, hv, hl, hc, hn, hs, h⟩ := h
  refine ⟨p, cap, hv, hl, hc, hn, hs, fun i hi => ?_⟩
  obtain ⟨b, off, hp, hcell⟩ := h i hi
  exact ⟨b, off, hp, fun j hj => (hb.cell (p := ⟨b, off + i * sz + j, none⟩) (cell_lt (hcell j hj))).trans (hcell j hj)⟩
theorem SlcS.nil (sz : Nat) (w : World) : SlcS sz w (.slice none 0 0) [] := ⟨none, 0, rfl, Nat.le_refl _, Nat.zero_le _, fun _ => rfl, fun _ h => (by cases h), fun k hk => absurd hk (Nat.not_lt_zero k)⟩
/-- What a walk wants. -/
theorem SlcS.get {sz : Nat} {w : World} {v : Value} {els : List (List Value)} (h : SlcS sz w v els) : ∃ p cap, v = .slice p els.length cap ∧ els.length ≤ cap ∧ cap ≤ 9223372036854775807 ∧
    ∀ i, i < els.length → ∃ b off, p = some ⟨b, off, none⟩ ∧ ∀ j, j < sz → w.cell? ⟨b, off + i * sz + j, none⟩ = some ((els.getD i []).getD j undef) := by
  obtain ⟨p, cap, hv, hl, hc, _, _, h⟩ := h
  exact ⟨p, cap, hv, hl, hc, h⟩
end Go.Proofs.YtkfeofhifmebkaaGreatDoor
