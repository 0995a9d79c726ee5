/- The walks of detentref10: Word, Count. -/
import Derived.Test.YtpncnddlmlciaaaDoorScanC
import Derived.Test.YtpncnddlmlciaaaDoorRef01
namespace Go.Proofs.YtpncnddlmlciaaaDoor
open Go.RowKit Go.Shelf

set_option maxRecDepth 100000 in
set_option maxHeartbeats 1000000 in
theorem r10Word_any (b p : Int) (v : Value) (m : Nat) (w : World) (hm : m < 18446744073709551616) (hv : Bools w v m) :
    Calls Tryd.prog 19 #[.agg #[.int .i64 b, .int .i64 p, v]] w fun e w' => e = .returned (.int .u64 m) ∧ Keeps w w' := by
  obtain ⟨vb, off, cap, rfl, h64, hc, hvlt, hcell⟩ := hv.open
  replace hcell := Lib.hid hcell
  clear hv
  go_enter Tryd.func19, Tryd.ntmps19
  go_upto_region 1 with (fail)
  refine wp_gen (fun W => Blk W w.heap.size 50 [.int .i64 b, .int .i64 p, .slice (some ⟨vb, off, none⟩) 64 cap] ∧ Keeps w W) ⟨Blk.at rfl rfl, Keeps.alloc _ _⟩ ?_
  rintro W ⟨hB, hK⟩
  have c2 := hB.cell 2 (by simp)
  simp only [List.getElem_cons_succ, List.getElem_cons_zero] at c2
  replace hK := Lib.hid hK
  clear hB
  go_wp2
  go_loop [3, 4] (fun x i => ∃ j : Nat, j ≤ 64 ∧ i = .int .i64 ((j : Int) - 1) ∧ x = .int .u64 (wordL ((bitsL m).drop j))) (fun _ i => (intOf i + 1).toNat)
  case atStart => exact ⟨64, by omega, rfl, by rw [List.drop_of_length_le (by rw [bitsL_len]; exact Nat.le_refl _)]; rfl⟩
  case round =>
    obtain ⟨j, hj, rfl, rfl⟩ := hrel
    cases j with
    | zero =>
      go_wp2
      go_ret
      exact ⟨ret_int (by rw [wordL_bitsL m hm]), hK.out⟩
    | succ j =>
      rw [show ((j + 1 : Nat) : Int) - 1 = (j : Int) by omega]
      have hs := drop_bits m j (by omega)
      have hl := drop_lt m (j + 1)
      have hl2 : wordL ((bitsL m).drop (j + 1)) < 9223372036854775808 := Nat.lt_of_lt_of_le hl (Nat.pow_le_pow_right (by omega) (by omega : 64 - (j + 1) ≤ 63))
      have hk := (hK.out.cell (p := ⟨vb, off + j, none⟩) hvlt).trans (hcell.out j (by omega))
      clear hcell hl
      generalize wordL ((bitsL m).drop (j + 1)) = x at *
      cases hb : m.testBit j with
      | true =>
        rw [hb] at hk hs
        replace hs := Lib.hid hs
        replace hb := Lib.hid hb
        go_wp2
        go_round
        case rel => exact ⟨j, by omega, rfl, by rw [hs.out]; go_num⟩
        case measure => (simp [intOf]; try omega)
      | false =>
        rw [hb] at hk hs
        replace hs := Lib.hid hs
        replace hb := Lib.hid hb
        go_wp2
        go_round
        case rel => exact ⟨j, by omega, rfl, by rw [hs.out]; go_num⟩
        case measure => (simp [intOf]; try omega)
def upC (m k : Nat) : Nat := ((List.range k).filter (m.testBit ·)).length
theorem upC_yes (m k : Nat) (h : m.testBit k = true) : upC m (k + 1) = upC m k + 1 := by simp [upC, List.range_succ, h]
theorem upC_no (m k : Nat) (h : m.testBit k = false) : upC m (k + 1) = upC m k := by simp [upC, List.range_succ, h]
theorem upC_le (m k : Nat) : upC m k ≤ k := by unfold upC; exact Nat.le_trans (List.length_filter_le _ _) (by simp)
set_option maxRecDepth 100000 in
set_option maxHeartbeats 1000000 in
theorem r10Count_any (b p : Int) (v : Value) (m : Nat) (w : World) (hv : Bools w v m) :
    Calls Tryd.prog 21 #[.agg #[.int .i64 b, .int .i64 p, v]] w fun e w' => e = .returned (.int .i64 (lenN m : Nat)) ∧ Keeps w w' := by
  obtain ⟨vb, off, cap, rfl, h64, hc, hvlt, hcell⟩ := hv.open
  replace hcell := Lib.hid hcell
  clear hv
  go_enter Tryd.func21, Tryd.ntmps21
  go_upto_region 1 with (fail)
  refine wp_gen (fun W => Blk W w.heap.size 50 [.int .i64 b, .int .i64 p, .slice (some ⟨vb, off, none⟩) 64 cap] ∧ Keeps w W) ⟨Blk.at rfl rfl, Keeps.alloc _ _⟩ ?_
  rintro W ⟨hB, hK⟩
  have c2 := hB.cell 2 (by simp)
  simp only [List.getElem_cons_succ, List.getElem_cons_zero] at c2
  replace hK := Lib.hid hK
  clear hB
  go_wp2
  go_loop [3, 4] (fun x i => ∃ k : Nat, k ≤ 64 ∧ i = .int .i64 k ∧ x = .int .i64 (upC m k : Nat)) (fun _ i => 64 - (intOf i).toNat)
  case atStart => exact ⟨0, by omega, rfl, rfl⟩
  case round =>
    obtain ⟨k, hk, rfl, rfl⟩ := hrel
    by_cases hlt : k < 64
    · have hk' := (hK.out.cell (p := ⟨vb, off + k, none⟩) hvlt).trans (hcell.out k hlt)
      have hy := upC_yes m k
      have hn := upC_no m k
      have hle := upC_le m k
      generalize upC m k = x at *
      clear hcell
      cases hb : m.testBit k with
      | true =>
        rw [hb] at hk'
        have hy' := hy hb
        replace hy' := Lib.hid hy'
        clear hy hn hb
        go_wp2
        go_round
        case rel => exact ⟨k + 1, by omega, by go_num, by rw [hy'.out]; go_num⟩
        case measure => (simp [intOf]; try omega)
      | false =>
        rw [hb] at hk'
        have hn' := hn hb
        replace hn' := Lib.hid hn'
        clear hy hn hb
        go_wp2
        go_round
        case rel => exact ⟨k + 1, by omega, by go_num, by rw [hn'.out]⟩
        case measure => (simp [intOf]; try omega)
    · obtain rfl : k = 64 := by omega
      have h64e : upC m 64 = lenN m := rfl
      go_wp2
      go_ret
      exact ⟨rfl, hK.out⟩
end Go.Proofs.YtpncnddlmlciaaaDoor
