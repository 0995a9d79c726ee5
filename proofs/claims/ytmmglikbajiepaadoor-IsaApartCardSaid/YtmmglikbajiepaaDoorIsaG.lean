/- What is in both; out of bounds. -/
import Derived.Test.YtmmglikbajiepaaDoorIsaF
namespace Go.Proofs.YtmmglikbajiepaaDoor
open Go.RowKit

def andM (u v : Bool × Bool × Bool × Bool) : Bool × Bool × Bool × Bool := (u.1 && v.1, u.2.1 && v.2.1, u.2.2.1 && v.2.2.1, u.2.2.2 && v.2.2.2)
set_option maxHeartbeats 1000000 in
theorem out_any (n lo hi : Int) (w : World) : Calls Tryd.prog 26 #[.int .i64 n, .int .i64 lo, .int .i64 hi] w fun e w' => e = .returned (.bool (decide (n < lo) || decide (hi ≤ n))) ∧ w = w' := by
  by_cases h : n < lo
  · rw [decide_eq_true h, Bool.true_or]
    go_enter Tryd.func26, Tryd.ntmps26
    go_wp2
    go_ret
    exact ⟨rfl, rfl⟩
  · rw [decide_eq_false h, Bool.false_or]
    go_enter Tryd.func26, Tryd.ntmps26
    go_wp2
    go_ret
    exact ⟨rfl, rfl⟩
set_option maxHeartbeats 4000000 in
theorem and_any (u v : Bool × Bool × Bool × Bool) (w : World) : Calls Tryd.prog 28 #[usesV u, usesV v] w fun e w' => e = .returned (usesV (andM u v)) ∧ Keeps w w' := by
  obtain ⟨a, b, c, d⟩ := u
  obtain ⟨a', b', c', d'⟩ := v
  have hB := Blk.new ((w.alloc (.cells #[.bool a, .bool b, .bool c, .bool d] 58)).alloc (.cells #[.bool a', .bool b', .bool c', .bool d'] 58)) 58 [.bool (a && a'), .bool (b && b'), .bool (c && c'), .bool (d && d')]
  rw [World.size_alloc, World.size_alloc] at hB
  replace hB := Lib.hid hB
  simp only [usesV, andM]
  cases a <;> cases b <;> cases c <;> cases d <;> simp only [Bool.true_and, Bool.false_and] at hB ⊢
  all_goals
    go_enter Tryd.func28, Tryd.ntmps28
    go_wp2_with fail
    (try simp only [Exit.inBlock, Exit.then])
    refine bodyPost_ret (results_row (t := 58) rfl _ hB.out rfl _ Tryd.underlying58 rfl 4 sizeUses rfl) rfl ?_
    exact ⟨rfl, Keeps.trans (Keeps.trans (Keeps.alloc _ _) (Keeps.alloc _ _)) (Keeps.alloc _ _)⟩
end Go.Proofs.YtmmglikbajiepaaDoor
