/- What an operation uses, what an instruction has. -/
import Derived.Test.YtmmglikbajiepaaDoorIsaD
namespace Go.Proofs.YtmmglikbajiepaaDoor
open Go.RowKit

/-- What an operation uses: dst, src, off, imm. -/
def usesM (op : Int) : Bool × Bool × Bool × Bool :=
  if op = 12 then (true, false, false, false) else if op = 32 then (false, false, true, false) else if op = 64 then (true, false, true, false) else if op = 65 then (false, true, true, false) else if op = 66 ∨ op = 67 then (true, true, true, false)
  else if op = 72 then (false, false, false, true) else if op = 73 then (false, false, false, false) else (true, byM op, decide (classM op = 2), !byM op)
def usesV (u : Bool × Bool × Bool × Bool) : Value := .agg #[.bool u.1, .bool u.2.1, .bool u.2.2.1, .bool u.2.2.2]
theorem sizeUses : (Tryd.prog.info? 58).map (·.size) = some 4 := by kernel_rfl
set_option maxHeartbeats 1000000 in
theorem used_any (op : Int) (w : World) : Calls Tryd.prog 29 #[.int .i64 op] w fun e w' => e = .returned (usesV (usesM op)) ∧ Keeps w w' := by
  have hcase : op = 12 ∨ op = 32 ∨ op = 64 ∨ op = 65 ∨ op = 66 ∨ op = 67 ∨ op = 72 ∨ op = 73 ∨ (op ≠ 12 ∧ op ≠ 32 ∧ op ≠ 64 ∧ op ≠ 65 ∧ op ≠ 66 ∧ op ≠ 67 ∧ op ≠ 72 ∧ op ≠ 73) := by omega
  rcases hcase with h | h | h | h | h | h | h | h | ⟨h1, h2, h3, h4, h5, h6, h7, h8⟩
  iterate 8
    · subst h
      go_enter Tryd.func29, Tryd.ntmps29
      go_wp2_with fail
      refine bodyPost_ret (results_row (t := 58) rfl _ (Blk.new w 58 [.bool _, .bool _, .bool _, .bool _]) rfl _ Tryd.underlying58 rfl 4 sizeUses rfl) rfl ?_
      exact ⟨rfl, Keeps.alloc _ _⟩
  have e : usesM op = (true, byM op, classM op == 2, !byM op) := by
    unfold usesM
    rw [if_neg h1, if_neg h2, if_neg h3, if_neg h4, if_neg (by omega), if_neg h7, if_neg h8]; rfl
  have q1 : (op == 12) = false := by rw [beq_eq_false_iff_ne]; exact h1
  have q2 : (op == 32) = false := by rw [beq_eq_false_iff_ne]; exact h2
  have q3 : (op == 64) = false := by rw [beq_eq_false_iff_ne]; exact h3
  have q4 : (op == 65) = false := by rw [beq_eq_false_iff_ne]; exact h4
  have q5 : (op == 66) = false := by rw [beq_eq_false_iff_ne]; exact h5
  have q6 : (op == 67) = false := by rw [beq_eq_false_iff_ne]; exact h6
  have q7 : (op == 72) = false := by rw [beq_eq_false_iff_ne]; exact h7
  have q8 : (op == 73) = false := by rw [beq_eq_false_iff_ne]; exact h8
  have fb := by_any op
  have fc := class_any op
  rw [e]
  unfold usesV
  generalize byM op = bb at *
  generalize classM op = cc at *
  replace fb := Lib.hid fb
  replace fc := Lib.hid fc
  clear e h1 h2 h3 h4 h5 h6 h7 h8
  go_enter Tryd.func29, Tryd.ntmps29
  go_wp2_with fail
  with_reducible refine (fb.out _).mono ?_
  rintro e w' ⟨rfl, rfl⟩
  go_wp2_with fail
  with_reducible refine (fc.out _).mono ?_
  rintro e w' ⟨rfl, rfl⟩
  go_wp2_with fail
  with_reducible refine (fb.out _).mono ?_
  rintro e w' ⟨rfl, rfl⟩
  go_wp2_with fail
  refine bodyPost_ret (results_row (t := 58) rfl _ (Blk.new w 58 [.bool _, .bool _, .bool _, .bool _]) rfl _ Tryd.underlying58 rfl 4 sizeUses rfl) rfl ?_
  exact ⟨rfl, Keeps.alloc _ _⟩
end Go.Proofs.YtmmglikbajiepaaDoor
