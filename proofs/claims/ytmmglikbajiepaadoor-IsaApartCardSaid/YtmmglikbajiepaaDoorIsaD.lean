/- What an operation uses: isa.by, isa.used. -/
import Derived.Test.YtmmglikbajiepaaDoorIsaC
namespace Go.Proofs.YtmmglikbajiepaaDoor
open Go.RowKit

/-- With a register? -/
def byM (op : Int) : Bool := (classM op == 1 && decide (16 ≤ op)) || (classM op == 2 && decide (48 ≤ op))
theorem by_any (op : Int) (w : World) : Calls Tryd.prog 39 #[.int .i64 op] w fun e w' => e = .returned (.bool (byM op)) ∧ w = w' := by
  have hr := class_any op
  have hcase : (classM op = 1 ∧ 16 ≤ op) ∨ (classM op = 1 ∧ ¬ 16 ≤ op) ∨ (classM op = 2 ∧ 48 ≤ op) ∨ (classM op = 2 ∧ ¬ 48 ≤ op) ∨ classM op = 3 ∨ classM op = 4 ∨ classM op = 0 := by
    rcases class_range op with ⟨h, _⟩ | ⟨h, _⟩ | ⟨h, _⟩ | ⟨h, _⟩ | h <;> omega
  rcases hcase with ⟨hc, h⟩ | ⟨hc, h⟩ | ⟨hc, h⟩ | ⟨hc, h⟩ | hc | hc | hc
  all_goals
    rw [hc] at hr
    first
      | have e : byM op = true := by unfold byM; simp [hc, h]
        rw [e]
      | have e : byM op = false := by unfold byM; simp [hc]; omega
        rw [e]
      | have e : byM op = false := by unfold byM; simp [hc]
        rw [e]
    replace hr := Lib.hid hr
    clear hc e
    go_enter Tryd.func39, Tryd.ntmps39
    go_wp2_with fail
    with_reducible refine (hr.out _).mono ?_
    rintro e w' ⟨rfl, rfl⟩
    go_wp2_with fail
    first
      | (go_ret; refine ⟨?_, rfl⟩; first | rfl | (show Ending.returned (.bool (decide _)) = _; rw [decide_eq_false h]) | (simp [h]))
      | (with_reducible refine (hr.out _).mono ?_
         rintro e w' ⟨rfl, rfl⟩
         go_wp2_with fail
         go_ret
         refine ⟨?_, rfl⟩; first | rfl | (show Ending.returned (.bool (decide _)) = _; rw [decide_eq_false h]) | (simp [h]))
end Go.Proofs.YtmmglikbajiepaaDoor
