/- The laws of layer 10: known, ScanNil. -/
import Derived.Test.YtefippjakkgjkaaDoorScanC
namespace Go.Proofs.YtefippjakkgjkaaDoor
open Go.RowKit Go.Shelf

theorem ScanAt.resect {w w' : World} {x p : Nat} {S S2 : SSt} {c : ScSt} (h : ScanAt w x p S c) (hC : Chg (· = p) w w') (hS : SectAt w' p S2) : ScanAt w' x p S2 c := ⟨h.hdr.chg hC h.ne, hS, h.ok, h.ne⟩

/-! ### Nil -/
theorem hasN_zeroS (r : Int) : hasN 0 r = false := by simp [hasN]
set_option maxRecDepth 100000 in
set_option maxHeartbeats 1000000 in
theorem look_zero {w : World} {x : Nat} (c1 : w.cell? ⟨x, 1, none⟩ = some (.int .u64 0)) (r : Int) :
    Calls Tryd.prog 78 #[.pointer (some ⟨x, 0, none⟩), .int .i64 r] w fun e w' => e = .returned (.bool false) ∧ Keeps w w' := by
  have hhas : ∀ y : After w, Calls Tryd.prog 89 #[.int .u64 0, .int .i64 r] y.now fun e w' => e = .returned (.bool false) ∧ ∃ z : After w, w' = z.now := fun y => by
    have := has_any 0 r y.now (by decide)
    rw [hasN_zeroS] at this
    exact After.same y this
  have x1 := After.cell c1
  replace hhas := Lib.hid hhas
  go_enter Tryd.func78, Tryd.ntmps78
  go_wp2_with fail
  refine region_after (by kernel_rfl) (by kernel_rfl) ?_
  repeat go_big_quiet_step (with_reducible exact hhas.out _)
  refine wpQuiet_nil ?_
  rintro W2 ⟨⟨_, hK2⟩, rfl⟩
  replace hK2 := Lib.hid hK2
  clear hhas x1
  go_wp2_with fail
  go_ret
  exact ⟨rfl, hK2.out⟩
set_option maxRecDepth 100000 in
set_option maxHeartbeats 1000000 in
theorem poll_zero {w : World} {x : Nat} (c1 : w.cell? ⟨x, 1, none⟩ = some (.int .u64 0)) (n : Int) :
    Calls Tryd.prog 64 #[.pointer (some ⟨x, 0, none⟩), .int .i64 n] w fun e w' => e = .returned (.int .i64 0) ∧ w = w' := by
  have hle := len_any 0 w (by decide)
  rw [show lenN 0 = 0 by decide] at hle
  replace hle := Lib.hid hle
  by_cases h1 : n ≤ 0
  all_goals
    go_enter Tryd.func64, Tryd.ntmps64
    go_wp2_with fail
    go_step3
    go_wp2_with fail
    refine hle.out.mono ?_
    rintro e w' ⟨rfl, rfl⟩
    go_wp2_with fail
    go_step3
    go_wp2_with fail
    go_loopw [5] (fun i wr => i = .int .i64 0 ∧ w = wr) (fun i _ => 0)
    case atStart => exact ⟨rfl, rfl⟩
    case round =>
      obtain ⟨rfl, rfl⟩ := hrel
      go_wp2_with fail
      refine hle.out.mono ?_
      rintro e w3 ⟨rfl, rfl⟩
      go_wp2_with fail
      rw [Exit.noGoto_ret]
      go_ret
      exact ⟨rfl, rfl⟩

end Go.Proofs.YtefippjakkgjkaaDoor
