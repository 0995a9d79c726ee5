/- The laws GuardCounts, GuardApart: what their walks come to. -/
import Derived.Test.YtmjknhjlhnljpaaLaw23
import Derived.Test.YtmjknhjlhnljpaaGuardM
namespace Go.Proofs.Ytmjknhjlhnljpaa
open Go.RowKit Go.Shelf

/-- A number, as a law takes it into a range. -/
theorem wrap_mod (x m : Int) (hm : 0 < m) : ∃ k : Nat, (k : Int) < m ∧ (IntKind.u64.wrap x).tmod m = (k : Int) := by
  rw [IntKind.wrap_u64, Int.tmod_eq_emod_of_nonneg (by omega)]
  have h1 := Int.emod_nonneg (x % 18446744073709551616) (Int.ne_of_gt hm)
  have h2 := Int.emod_lt_of_pos (x % 18446744073709551616) hm
  exact ⟨((x % 18446744073709551616) % m).toNat, by omega, by omega⟩

set_option maxRecDepth 100000 in
set_option maxHeartbeats 2000000 in
theorem lawCounts_any (cpus cpu prog n : Int) (w : World) :
    Calls Try.prog 4 #[.int .i64 cpus, .int .i64 cpu, .int .i64 prog, .int .i64 n] w fun e w' => e = .returned (.bool true) ∧ Keeps w w' := by
  obtain ⟨K, hK, e1⟩ := wrap_mod cpus 64 (by decide)
  obtain ⟨P, hP, e2⟩ := wrap_mod prog 16 (by decide)
  obtain ⟨N, hN, e3⟩ := wrap_mod n 400 (by decide)
  obtain ⟨C, hC, e4⟩ := wrap_mod cpu (1 + (K : Int)) (by omega)
  have hnew := gnew_yes (1 + K) w (by omega) (by omega)
  rw [show ((1 + K : Nat) : Int) = 1 + (K : Int) by omega] at hnew
  replace hnew := Lib.hid hnew
  go_enter Try.func4, Try.ntmps4
  go_wp2_with fail
  refine hnew.out.mono ?_
  rintro e w1 ⟨rfl, hG, hKw⟩
  obtain ⟨p, hpe⟩ : ∃ p, p = w.heap.size + 1 := ⟨_, rfl⟩
  obtain ⟨b, hbe⟩ : ∃ b, b = w.heap.size := ⟨_, rfl⟩
  have hpl : w.heap.size ≤ p := by omega
  have hbl : w.heap.size ≤ b := by omega
  rw [← hpe, ← hbe] at hG
  rw [← hpe]
  clear hpe hbe hnew e1 e2 e3 e4
  have hok := enter_ok hG C P (by simp; omega) (by omega) (by rw [getD_replicate _ _ _ _ (by omega)]; exact hasN_zero _)
  rw [getD_replicate _ _ _ _ (by omega)] at hok
  have hl1 : ((List.replicate (1 + K) 0).set C (orN 0 P)).length = 1 + K := by simp
  have hg1 : ((List.replicate (1 + K) 0).set C (orN 0 P)).getD C 0 = orN 0 P := getD_set_self _ _ _ _ (by simp; omega)
  generalize (List.replicate (1 + K) 0).set C (orN 0 P) = ms at *
  replace hok := Lib.hid hok
  replace hl1 := Lib.hid hl1
  replace hg1 := Lib.hid hg1
  clear hG
  replace hKw := Lib.hid hKw
  go_wp2_with fail
  refine hok.out.mono ?_
  rintro e w2 ⟨rfl, hG, hM⟩
  replace hKw := Lib.hid (hM.after hKw.out hpl hbl)
  rw [← cnts_zero P] at hG
  clear hM hok
  replace hG := Lib.hid hG
  go_wp2_with fail
  go_loopw [11] (fun i wr => ∃ k : Nat, k ≤ N ∧ i = .int .i64 k ∧ GuardAt wr p b ms (cnts P k) ∧ Keeps w wr) (fun i _ => N - (intOf i).toNat)
  case atStart => exact ⟨0, Nat.zero_le _, rfl, hG.out, hKw.out⟩
  case round =>
    clear hG hKw
    obtain ⟨k, hk, rfl, hG, hKw⟩ := hrel
    by_cases hlt : k < N
    · have hmi := enter_miss hG C P (by rw [hl1.out]; omega) (by omega) (by rw [hg1.out]; exact hasN_orN 0 P (by omega))
      rw [cnts_succ P k (by omega)] at hmi
      replace hmi := Lib.hid hmi
      replace hKw := Lib.hid hKw
      clear hG
      go_wp2_with fail
      refine hmi.out.mono ?_
      rintro e w3 ⟨rfl, hG, hM⟩
      replace hKw := Lib.hid (hM.after hKw.out hpl hbl)
      replace hG := Lib.hid hG
      clear hmi hM
      go_wp2_with fail
      go_roundw
      case rel => exact ⟨k + 1, by omega, by go_num, hG.out, hKw.out⟩
      case measure => (simp [intOf]; try omega)
    · obtain rfl : k = N := by omega
      replace hKw := Lib.hid hKw
      replace hG := Lib.hid hG
      go_wp2_with fail
      refine (known23_any _).mono ?_
      rintro e w4 ⟨rfl, hK4⟩
      replace hG := hG.out.keeps hK4
      replace hKw := Lib.hid (Keeps.trans hKw.out hK4)
      have hmis := missed_yes hG P (by omega)
      have htot := total_any hG
      have hact := active_yes hG C (by rw [hl1.out]; omega)
      rw [hg1.out] at hact
      rw [cnts_getD P k (by omega)] at hmis
      rw [cnts_sum P k (by omega)] at htot
      have hof : ∀ W : World, Calls Try.prog 20 #[.slice (some ⟨W.heap.size, 0, none⟩) 1 1] (W.alloc (.cells #[.int .i64 (P : Int)] 3)) fun e w' => e = .returned (.int .u64 (orN 0 P : Nat)) ∧ (W.alloc (.cells #[.int .i64 (P : Int)] 3)) = w' :=
        fun W => of_any _ [(P : Int)] _ (ints_at W 3 [(P : Int)] _ rfl (by simp [maxLen]))
      rw [show ((min k 255 : Nat) : Int) = min (k : Int) 255 by omega] at hmis htot
      generalize orN 0 P = m at *
      replace hmis := Lib.hid hmis
      replace htot := Lib.hid htot
      replace hact := Lib.hid hact
      replace hof := Lib.hid hof
      clear hG hK4
      go_wp2_with fail
      refine hmis.out.mono ?_
      rintro e w5 ⟨rfl, rfl⟩
      go_wp2_with fail
      all_goals
        refine htot.out.mono ?_
        rintro e w5 ⟨rfl, rfl⟩
        go_wp2_with fail
        refine hact.out.mono ?_
        rintro e w5 ⟨rfl, rfl⟩
        go_wp2_with fail
        refine (hof.out _).mono ?_
        rintro e w5 ⟨rfl, rfl⟩
        go_wp2_with fail
        go_ret
        exact ⟨rfl, Keeps.trans hKw.out (Keeps.alloc _ _)⟩
end Go.Proofs.Ytmjknhjlhnljpaa
