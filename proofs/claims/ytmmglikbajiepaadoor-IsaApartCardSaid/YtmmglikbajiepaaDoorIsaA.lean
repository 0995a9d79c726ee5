/- The classes of operations. -/
import Derived.Test.YtmmglikbajiepaaDoorBase
import Derived.Test.YtmmglikbajiepaaDoorQuiet
namespace Go.Proofs.YtmmglikbajiepaaDoor
open Go.RowKit

/-- An operation's class. -/
def classM (op : Int) : Int := if (0 ≤ op ∧ op ≤ 12) ∨ (16 ≤ op ∧ op ≤ 27) then 1 else if (32 ≤ op ∧ op ≤ 41) ∨ (49 ≤ op ∧ op ≤ 57) then 2 else if 64 ≤ op ∧ op ≤ 67 then 3 else if op = 72 ∨ op = 73 then 4 else 0
set_option maxHeartbeats 1000000 in
theorem class_any (op : Int) (w : World) : Calls Tryd.prog 9 #[.int .i64 op] w fun e w' => e = .returned (.int .i64 (classM op)) ∧ w = w' := by
  have hcase : (op < 0) ∨ (0 ≤ op ∧ op ≤ 12) ∨ (12 < op ∧ op < 16) ∨ (16 ≤ op ∧ op ≤ 27) ∨ (27 < op ∧ op < 32) ∨ (32 ≤ op ∧ op ≤ 41) ∨ (41 < op ∧ op < 49) ∨ (49 ≤ op ∧ op ≤ 57) ∨ (57 < op ∧ op < 64) ∨ (64 ≤ op ∧ op ≤ 67) ∨ (67 < op ∧ op < 72) ∨ (op = 72) ∨ (op = 73) ∨ (73 < op) := by omega
  rcases hcase with h | h | h | h | h | h | h | h | h | h | h | h | h | h
  · have hc : classM op = 0 := by unfold classM; rw [if_neg (by omega)]; rw [if_neg (by omega)]; rw [if_neg (by omega)]; rw [if_neg (by omega)]
    have g1 : ¬ (0 ≤ op) := by omega
    have g2 : ¬ (16 ≤ op) := by omega
    have g3 : ¬ (32 ≤ op) := by omega
    have g4 : ¬ (49 ≤ op) := by omega
    have g5 : ¬ (64 ≤ op) := by omega
    have g6 : op ≤ 12 := by omega
    have g7 : op ≤ 27 := by omega
    have g8 : op ≤ 41 := by omega
    have g9 : op ≤ 57 := by omega
    have g10 : op ≤ 67 := by omega
    have g11 : (op == 72) = false := by rw [beq_eq_false_iff_ne]; omega
    have g12 : (op == 73) = false := by rw [beq_eq_false_iff_ne]; omega
    clear h
    rw [hc]
    clear hc
    go_enter Tryd.func9, Tryd.ntmps9
    go_wp2
    go_ret
    exact ⟨rfl, rfl⟩
  · have hc : classM op = 1 := by unfold classM; rw [if_pos (by omega)]
    have g1 : 0 ≤ op := by omega
    have g2 : ¬ (16 ≤ op) := by omega
    have g3 : ¬ (32 ≤ op) := by omega
    have g4 : ¬ (49 ≤ op) := by omega
    have g5 : ¬ (64 ≤ op) := by omega
    have g6 : op ≤ 12 := by omega
    have g7 : op ≤ 27 := by omega
    have g8 : op ≤ 41 := by omega
    have g9 : op ≤ 57 := by omega
    have g10 : op ≤ 67 := by omega
    have g11 : (op == 72) = false := by rw [beq_eq_false_iff_ne]; omega
    have g12 : (op == 73) = false := by rw [beq_eq_false_iff_ne]; omega
    clear h
    rw [hc]
    clear hc
    go_enter Tryd.func9, Tryd.ntmps9
    go_wp2
    go_ret
    exact ⟨rfl, rfl⟩
  · have hc : classM op = 0 := by unfold classM; rw [if_neg (by omega)]; rw [if_neg (by omega)]; rw [if_neg (by omega)]; rw [if_neg (by omega)]
    have g1 : 0 ≤ op := by omega
    have g2 : ¬ (16 ≤ op) := by omega
    have g3 : ¬ (32 ≤ op) := by omega
    have g4 : ¬ (49 ≤ op) := by omega
    have g5 : ¬ (64 ≤ op) := by omega
    have g6 : ¬ (op ≤ 12) := by omega
    have g7 : op ≤ 27 := by omega
    have g8 : op ≤ 41 := by omega
    have g9 : op ≤ 57 := by omega
    have g10 : op ≤ 67 := by omega
    have g11 : (op == 72) = false := by rw [beq_eq_false_iff_ne]; omega
    have g12 : (op == 73) = false := by rw [beq_eq_false_iff_ne]; omega
    clear h
    rw [hc]
    clear hc
    go_enter Tryd.func9, Tryd.ntmps9
    go_wp2
    go_ret
    exact ⟨rfl, rfl⟩
  · have hc : classM op = 1 := by unfold classM; rw [if_pos (by omega)]
    have g1 : 0 ≤ op := by omega
    have g2 : 16 ≤ op := by omega
    have g3 : ¬ (32 ≤ op) := by omega
    have g4 : ¬ (49 ≤ op) := by omega
    have g5 : ¬ (64 ≤ op) := by omega
    have g6 : ¬ (op ≤ 12) := by omega
    have g7 : op ≤ 27 := by omega
    have g8 : op ≤ 41 := by omega
    have g9 : op ≤ 57 := by omega
    have g10 : op ≤ 67 := by omega
    have g11 : (op == 72) = false := by rw [beq_eq_false_iff_ne]; omega
    have g12 : (op == 73) = false := by rw [beq_eq_false_iff_ne]; omega
    clear h
    rw [hc]
    clear hc
    go_enter Tryd.func9, Tryd.ntmps9
    go_wp2
    go_ret
    exact ⟨rfl, rfl⟩
  · have hc : classM op = 0 := by unfold classM; rw [if_neg (by omega)]; rw [if_neg (by omega)]; rw [if_neg (by omega)]; rw [if_neg (by omega)]
    have g1 : 0 ≤ op := by omega
    have g2 : 16 ≤ op := by omega
    have g3 : ¬ (32 ≤ op) := by omega
    have g4 : ¬ (49 ≤ op) := by omega
    have g5 : ¬ (64 ≤ op) := by omega
    have g6 : ¬ (op ≤ 12) := by omega
    have g7 : ¬ (op ≤ 27) := by omega
    have g8 : op ≤ 41 := by omega
    have g9 : op ≤ 57 := by omega
    have g10 : op ≤ 67 := by omega
    have g11 : (op == 72) = false := by rw [beq_eq_false_iff_ne]; omega
    have g12 : (op == 73) = false := by rw [beq_eq_false_iff_ne]; omega
    clear h
    rw [hc]
    clear hc
    go_enter Tryd.func9, Tryd.ntmps9
    go_wp2
    go_ret
    exact ⟨rfl, rfl⟩
  · have hc : classM op = 2 := by unfold classM; rw [if_neg (by omega)]; rw [if_pos (by omega)]
    have g1 : 0 ≤ op := by omega
    have g2 : 16 ≤ op := by omega
    have g3 : 32 ≤ op := by omega
    have g4 : ¬ (49 ≤ op) := by omega
    have g5 : ¬ (64 ≤ op) := by omega
    have g6 : ¬ (op ≤ 12) := by omega
    have g7 : ¬ (op ≤ 27) := by omega
    have g8 : op ≤ 41 := by omega
    have g9 : op ≤ 57 := by omega
    have g10 : op ≤ 67 := by omega
    have g11 : (op == 72) = false := by rw [beq_eq_false_iff_ne]; omega
    have g12 : (op == 73) = false := by rw [beq_eq_false_iff_ne]; omega
    clear h
    rw [hc]
    clear hc
    go_enter Tryd.func9, Tryd.ntmps9
    go_wp2
    go_ret
    exact ⟨rfl, rfl⟩
  · have hc : classM op = 0 := by unfold classM; rw [if_neg (by omega)]; rw [if_neg (by omega)]; rw [if_neg (by omega)]; rw [if_neg (by omega)]
    have g1 : 0 ≤ op := by omega
    have g2 : 16 ≤ op := by omega
    have g3 : 32 ≤ op := by omega
    have g4 : ¬ (49 ≤ op) := by omega
    have g5 : ¬ (64 ≤ op) := by omega
    have g6 : ¬ (op ≤ 12) := by omega
    have g7 : ¬ (op ≤ 27) := by omega
    have g8 : ¬ (op ≤ 41) := by omega
    have g9 : op ≤ 57 := by omega
    have g10 : op ≤ 67 := by omega
    have g11 : (op == 72) = false := by rw [beq_eq_false_iff_ne]; omega
    have g12 : (op == 73) = false := by rw [beq_eq_false_iff_ne]; omega
    clear h
    rw [hc]
    clear hc
    go_enter Tryd.func9, Tryd.ntmps9
    go_wp2
    go_ret
    exact ⟨rfl, rfl⟩
  · have hc : classM op = 2 := by unfold classM; rw [if_neg (by omega)]; rw [if_pos (by omega)]
    have g1 : 0 ≤ op := by omega
    have g2 : 16 ≤ op := by omega
    have g3 : 32 ≤ op := by omega
    have g4 : 49 ≤ op := by omega
    have g5 : ¬ (64 ≤ op) := by omega
    have g6 : ¬ (op ≤ 12) := by omega
    have g7 : ¬ (op ≤ 27) := by omega
    have g8 : ¬ (op ≤ 41) := by omega
    have g9 : op ≤ 57 := by omega
    have g10 : op ≤ 67 := by omega
    have g11 : (op == 72) = false := by rw [beq_eq_false_iff_ne]; omega
    have g12 : (op == 73) = false := by rw [beq_eq_false_iff_ne]; omega
    clear h
    rw [hc]
    clear hc
    go_enter Tryd.func9, Tryd.ntmps9
    go_wp2
    go_ret
    exact ⟨rfl, rfl⟩
  · have hc : classM op = 0 := by unfold classM; rw [if_neg (by omega)]; rw [if_neg (by omega)]; rw [if_neg (by omega)]; rw [if_neg (by omega)]
    have g1 : 0 ≤ op := by omega
    have g2 : 16 ≤ op := by omega
    have g3 : 32 ≤ op := by omega
    have g4 : 49 ≤ op := by omega
    have g5 : ¬ (64 ≤ op) := by omega
    have g6 : ¬ (op ≤ 12) := by omega
    have g7 : ¬ (op ≤ 27) := by omega
    have g8 : ¬ (op ≤ 41) := by omega
    have g9 : ¬ (op ≤ 57) := by omega
    have g10 : op ≤ 67 := by omega
    have g11 : (op == 72) = false := by rw [beq_eq_false_iff_ne]; omega
    have g12 : (op == 73) = false := by rw [beq_eq_false_iff_ne]; omega
    clear h
    rw [hc]
    clear hc
    go_enter Tryd.func9, Tryd.ntmps9
    go_wp2
    go_ret
    exact ⟨rfl, rfl⟩
  · have hc : classM op = 3 := by unfold classM; rw [if_neg (by omega)]; rw [if_neg (by omega)]; rw [if_pos (by omega)]
    have g1 : 0 ≤ op := by omega
    have g2 : 16 ≤ op := by omega
    have g3 : 32 ≤ op := by omega
    have g4 : 49 ≤ op := by omega
    have g5 : 64 ≤ op := by omega
    have g6 : ¬ (op ≤ 12) := by omega
    have g7 : ¬ (op ≤ 27) := by omega
    have g8 : ¬ (op ≤ 41) := by omega
    have g9 : ¬ (op ≤ 57) := by omega
    have g10 : op ≤ 67 := by omega
    have g11 : (op == 72) = false := by rw [beq_eq_false_iff_ne]; omega
    have g12 : (op == 73) = false := by rw [beq_eq_false_iff_ne]; omega
    clear h
    rw [hc]
    clear hc
    go_enter Tryd.func9, Tryd.ntmps9
    go_wp2
    go_ret
    exact ⟨rfl, rfl⟩
  · have hc : classM op = 0 := by unfold classM; rw [if_neg (by omega)]; rw [if_neg (by omega)]; rw [if_neg (by omega)]; rw [if_neg (by omega)]
    have g1 : 0 ≤ op := by omega
    have g2 : 16 ≤ op := by omega
    have g3 : 32 ≤ op := by omega
    have g4 : 49 ≤ op := by omega
    have g5 : 64 ≤ op := by omega
    have g6 : ¬ (op ≤ 12) := by omega
    have g7 : ¬ (op ≤ 27) := by omega
    have g8 : ¬ (op ≤ 41) := by omega
    have g9 : ¬ (op ≤ 57) := by omega
    have g10 : ¬ (op ≤ 67) := by omega
    have g11 : (op == 72) = false := by rw [beq_eq_false_iff_ne]; omega
    have g12 : (op == 73) = false := by rw [beq_eq_false_iff_ne]; omega
    clear h
    rw [hc]
    clear hc
    go_enter Tryd.func9, Tryd.ntmps9
    go_wp2
    go_ret
    exact ⟨rfl, rfl⟩
  · have hc : classM op = 4 := by unfold classM; rw [if_neg (by omega)]; rw [if_neg (by omega)]; rw [if_neg (by omega)]; rw [if_pos (by omega)]
    subst h
    rw [hc]
    clear hc
    go_enter Tryd.func9, Tryd.ntmps9
    go_wp2
    go_ret
    exact ⟨rfl, rfl⟩
  · have hc : classM op = 4 := by unfold classM; rw [if_neg (by omega)]; rw [if_neg (by omega)]; rw [if_neg (by omega)]; rw [if_pos (by omega)]
    subst h
    rw [hc]
    clear hc
    go_enter Tryd.func9, Tryd.ntmps9
    go_wp2
    go_ret
    exact ⟨rfl, rfl⟩
  · have hc : classM op = 0 := by unfold classM; rw [if_neg (by omega)]; rw [if_neg (by omega)]; rw [if_neg (by omega)]; rw [if_neg (by omega)]
    have g1 : 0 ≤ op := by omega
    have g2 : 16 ≤ op := by omega
    have g3 : 32 ≤ op := by omega
    have g4 : 49 ≤ op := by omega
    have g5 : 64 ≤ op := by omega
    have g6 : ¬ (op ≤ 12) := by omega
    have g7 : ¬ (op ≤ 27) := by omega
    have g8 : ¬ (op ≤ 41) := by omega
    have g9 : ¬ (op ≤ 57) := by omega
    have g10 : ¬ (op ≤ 67) := by omega
    have g11 : (op == 72) = false := by rw [beq_eq_false_iff_ne]; omega
    have g12 : (op == 73) = false := by rw [beq_eq_false_iff_ne]; omega
    clear h
    rw [hc]
    clear hc
    go_enter Tryd.func9, Tryd.ntmps9
    go_wp2
    go_ret
    exact ⟨rfl, rfl⟩
end Go.Proofs.YtmmglikbajiepaaDoor
