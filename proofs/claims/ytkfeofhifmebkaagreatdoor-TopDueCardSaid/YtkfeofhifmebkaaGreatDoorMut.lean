/- What a call may turn: two blocks of its own. -/
import Derived.Test.YtkfeofhifmebkaaGreatDoorQuiet
namespace Go.Proofs.YtkfeofhifmebkaaGreatDoor
open Go.RowKit
/-- Of the blocks that were there, only p and b may have turned. -/
structure Mut (p b : Nat) (w w' : World) : Prop where
  os : w'.os = w.os
  tape : w'.tape = w.tape
  output : w'.output = w.output
  size : w.heap.size ≤ w'.heap.size
  block : ∀ k, k < w.heap.size → k ≠ p → k ≠ b → w'.heap[k]? = w.heap[k]?
theorem Mut.of_keeps {p b : Nat} {w w' : World} (h : Keeps w w') : Mut p b w w' := ⟨h.os, h.tape, h.output, h.size, fun k hk _ _ => h.block k hk⟩
theorem Mut.trans {p b : Nat} {x y z : World} (h : Mut p b x y) (k : Mut p b y z) : Mut p b x z :=
  ⟨k.os.trans h.os, k.tape.trans h.tape, k.output.trans h.output, Nat.le_trans h.size k.size, fun i hi h1 h2 => (k.block i (Nat.lt_of_lt_of_le hi h.size) h1 h2).trans (h.block i hi h1 h2)⟩
theorem Mut.below {p b n : Nat} {w w' : World} (h : Mut p b w w') (hn : n ≤ w.heap.size) (hp : n ≤ p) (hb : n ≤ b) : Below n w w' :=
  ⟨h.os, h.tape, h.output, h.size, fun k hk => h.block k (by omega) (by omega) (by omega)⟩
theorem Mut.drewN {p b : Nat} {w w' : World} (h : Mut p b w w') (n : Nat) : Mut p b w (w'.drewN n) := h.trans (Mut.of_keeps (below_drewN (Below.refl _ _) n))
theorem Keeps.drewN (w : World) (n : Nat) : Keeps w (w.drewN n) := below_drewN (Below.refl _ _) n
end Go.Proofs.YtkfeofhifmebkaaGreatDoor
