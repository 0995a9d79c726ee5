/- More on rows of structs: made, and set. -/
import Derived.Test.YtkfeofhifmebkaaGreatDoorStr
namespace Go.Proofs.YtkfeofhifmebkaaGreatDoor
open Go.RowKit

theorem flat_set {sz : Nat} : ∀ {els : List (List Value)}, (∀ el ∈ els, el.length = sz) → ∀ (i j : Nat) (v : Value), i < els.length → j < sz → els.flatten.set (i * sz + j) v = (els.set i ((els.getD i []).set j v)).flatten
  | [], _, i, j, v, hi, _ => absurd hi (Nat.not_lt_zero i)
  | el :: els, h, 0, j, v, hi, hj => by
    have he := h el (by simp)
    rw [Nat.zero_mul, Nat.zero_add, List.flatten_cons, List.set_append_left _ _ (by omega)]
    simp
  | el :: els, h, i + 1, j, v, hi, hj => by
    have he := h el (by simp)
    have := flat_set (els := els) (fun x hx => h x (by simp [hx])) i j v (by simpa using hi) hj
    rw [List.flatten_cons, List.set_append_right _ _ (by rw [he, Nat.succ_mul]; omega), he, show (i + 1) * sz + j - sz = i * sz + j by rw [Nat.succ_mul]; omega, this]
    simp
theorem make_runS {P : Program} (T e : TypeId) (z : Value) (zs : List Value) (sz bytes : Nat) (ht : P.underlying T = some (.slice e)) (hinfo : (P.info? e).map (fun i => (i.zero, i.size, i.bytes)) = some (some z, sz, bytes)) (hz : z.cells = zs.toArray) (hl : zs.length = sz) (h0 : 0 < sz)
    (n : Nat) (hn : bytes * n ≤ 281474976710656) (h63 : n ≤ 9223372036854775807) (w : World) :
    (Instr.makeSlice T (.int .i64 (n : Int)) (.int .i64 (n : Int))).run P w = .ok (.slice (some ⟨w.heap.size, 0, none⟩) n n) (w.alloc (.cells ((List.replicate n zs).flatten).toArray e)) := by
  obtain ⟨i, hi, h1, h2, h3⟩ := info_parts hinfo
  have h := run_make (P := P) w T e i z ht hi h1 .i64 .i64 (n : Int) (n : Int) (by omega) (by omega) (by rw [h3]; omega) (by omega)
  rw [h, h2, hz]
  simp only [Int.toNat_natCast]
  congr 3
  have hs : ∀ el ∈ List.replicate n zs, el.length = sz := fun el hel => by rw [List.eq_of_mem_replicate hel, hl]
  apply Array.ext
  · simp only [madeCells, Array.size_map, Array.size_range, List.size_toArray]
    rw [flat_len hs, List.length_replicate]
  · intro j h1 h2
    simp only [List.size_toArray] at h2
    have hj : j < n * sz := by rw [flat_len hs, List.length_replicate] at h2; exact h2
    have hi' : j / sz < n := Nat.div_lt_of_lt_mul (by rw [Nat.mul_comm]; exact hj)
    have hr : j % sz < sz := Nat.mod_lt _ h0
    have hjj : j / sz * sz + j % sz = j := by rw [Nat.mul_comm]; exact Nat.div_add_mod j sz
    have hf := flat_get hs (j / sz) (j % sz) (by rw [List.length_replicate]; exact hi') hr
    rw [hjj, List.getElem?_eq_getElem h2] at hf
    simp only [List.getElem_toArray]
    rw [Option.some.inj hf]
    have hj2 : j % sz < zs.length := by omega
    simp only [madeCells, List.getD, Array.getElem_map, Array.getElem_range, List.size_toArray, hl]
    simp [hi', List.getElem?_eq_getElem hj2]
theorem Chg.newCell {S : Nat → Prop} {w W : World} {g : Nat} (h : Chg S w W) (hg : w.heap.size ≤ g) (k : Nat) (v : Value) : Chg S w (W.setCell ⟨g, k, none⟩ v) :=
  ⟨h.os, h.tape, h.output, by simpa [World.setCell] using h.size, fun i hi hn => (Below.heap_setCell W ⟨g, k, none⟩ v i (by simp only [ne_eq]; omega)).trans (h.block i hi hn)⟩
theorem Chg.newRow {S : Nat → Prop} {w W : World} {g : Nat} (h : Chg S w W) (hg : w.heap.size ≤ g) (cs : Array Value) : Chg S w (W.setRow g cs) :=
  ⟨h.os, h.tape, h.output, by simpa [World.setRow] using h.size, fun i hi hn => by
    have : g ≠ i := by omega
    rw [← h.block i hi hn]
    simp [World.setRow, Array.getElem?_modify, this]⟩
theorem Blk.cellK {W : World} {b : Nat} {t : TypeId} {cs : List Value} (h : Blk W b t cs) {k : Nat} {v : Value} (hk : cs[k]? = some v) : W.cell? ⟨b, k, none⟩ = some v := by
  obtain ⟨h1, h2⟩ := List.getElem?_eq_some_iff.1 hk
  rw [h.cell k h1, h2]
theorem getElem?_set_ne' {α : Type} {cs : List α} {k j : Nat} {v u : α} (h : cs[k]? = some v) (hne : j ≠ k) : (cs.set j u)[k]? = some v := by rw [List.getElem?_set_ne hne]; exact h
end Go.Proofs.YtkfeofhifmebkaaGreatDoor
