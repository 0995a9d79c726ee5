/- What a call may turn: two blocks of its own. -/
import Derived.Test.YtkfeofhifmebkaaGreatDoorQuiet
namespace Go.Proofs.YtkfeofhifmebkaaGreatDoor
open Go.RowKit
/-- Of the blocks that were there, only p and b may have turned. -/
structure Mut (p b : Nat) (w w' : World) : Prop where
  os : w'.os = w.os
  tape : w'.tape = w.tape
  output : w'.output = w.output
  size : w.heap.size ≤ w'.heap.size
  block : ∀ k, k < w.heap.size → k ≠ p → k ≠ b → w'.heap[k]? = w.heap[k]?
theorem Mut.of_keeps {p b : Nat} {w w' : World} (h : Keeps w w') : Mut p b w w' := ⟨h.os, h.tape, h.output, h.size, fun k hk _ _ => h.block k hk⟩
theorem Mut.trans {p b : Nat} {x y z : World} (h : Mut p b x y) (k : Mut p b y z) : Mut p b x z :=
  ⟨k.os.trans h.os, k.tape.trans h.tape, k.output.trans h.output, Nat.le_trans h.size k.size, fun i hi h1 h2 => (k.block i (Nat.lt_of_lt_of_le hi h.size) h1 h2).trans (h.block i hi h1 h2)⟩
theorem Mut.below {p b n : Nat} {w w' : World} (h : Mut p b w w') (hn : n ≤ w.heap.size) (hp : n ≤ p) (hb : n ≤ b) : Below n w w' :=
  ⟨h.os, h.tape, h.output, h.size, fun k hk => h.block k (by omega) (by omega) (by omega)⟩
/-- The law's old memory lies as it lay, where both blocks are its own. -/
theorem Mut.after {p b : Nat} {w0 w w' : World} (h : Mut p b w w') (hk : Keeps w0 w) (hp : w0.heap.size ≤ p) (hb : w0.heap.size ≤ b) : Keeps w0 w' := Below.trans hk (h.below hk.size hp hb)
theorem Mut.setP {p b : Nat} {w : World} (k : Nat) (v : Value) : Mut p b w (w.setCell ⟨p, k, none⟩ v) :=
  ⟨rfl, rfl, rfl, by simp [World.setCell], fun i _ h1 _ => Below.heap_setCell w ⟨p, k, none⟩ v i h1⟩
theorem Mut.setB {p b : Nat} {w : World} (k : Nat) (v : Value) : Mut p b w (w.setCell ⟨b, k, none⟩ v) :=
  ⟨rfl, rfl, rfl, by simp [World.setCell], fun i _ _ h2 => Below.heap_setCell w ⟨b, k, none⟩ v i h2⟩
theorem Mut.drewN {p b : Nat} {w w' : World} (h : Mut p b w w') (n : Nat) : Mut p b w (w'.drewN n) := h.trans (Mut.of_keeps (below_drewN (Below.refl _ _) n))
theorem Keeps.drewN (w : World) (n : Nat) : Keeps w (w.drewN n) := below_drewN (Below.refl _ _) n
/-- A slice that lies in other blocks reads on. -/
theorem Slc.mut {p b : Nat} {w w' : World} {v : Value} {xs : List Value} (h : Slc w v xs) (hm : Mut p b w w') (hsep : ∀ c off n cap, v = .slice (some ⟨c, off, none⟩) n cap → 0 < n → c ≠ p ∧ c ≠ b) : Slc w' v xs := by
  obtain ⟨q, cap, hv, hl, hc, hn, h⟩ := h
  refine ⟨q, cap, hv, hl, hc, hn, fun k hk => ?_⟩
  obtain ⟨c, off, hp, hcell⟩ := h k hk
  subst hp
  obtain ⟨h1, h2⟩ := hsep _ _ _ _ hv (by omega)
  exact ⟨c, off, rfl, (World.cell?_of_block (w := w) (hm.block c (cell_lt hcell) h1 h2)).trans hcell⟩
end Go.Proofs.YtkfeofhifmebkaaGreatDoor
