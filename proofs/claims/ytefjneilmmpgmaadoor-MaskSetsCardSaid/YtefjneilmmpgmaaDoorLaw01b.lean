/- The laws of layer 1: what each walk comes to. -/
import Derived.Test.YtefjneilmmpgmaaDoorLaw01
namespace Go.Proofs.YtefjneilmmpgmaaDoor
open Go.RowKit

theorem testBit_full (n : Int) (j : Nat) (hj : j < 64) : (fullN n).testBit j = decide ((j : Int) < n) := by
  unfold fullN
  split
  · rw [Nat.zero_testBit]; symm; rw [decide_eq_false_iff_not]; omega
  · split
    · rw [show (18446744073709551615 : Nat) = 2 ^ 64 - 1 from rfl, Nat.testBit_two_pow_sub_one, decide_eq_decide]; omega
    · rw [Nat.testBit_two_pow_sub_one, decide_eq_decide]; omega
theorem fullN_lt (n : Int) : fullN n < 18446744073709551616 := by
  unfold fullN
  split
  · omega
  · split
    · omega
    · rename_i h1 h2
      have : 2 ^ n.toNat ≤ 2 ^ 63 := Nat.pow_le_pow_right (by omega) (by omega)
      omega
def belowTo (n : Int) (k : Nat) : List Bool := (List.range 64).map fun j => decide (j < k) && decide ((j : Int) < n)
theorem belowTo_zero (n : Int) : belowTo n 0 = bitsTo 0 0 := by simp [belowTo, bitsTo]
theorem belowTo_end (n : Int) : belowTo n 64 = bitsL (fullN n) := by
  unfold belowTo bitsL; apply List.map_congr_left; intro j hj; rw [List.mem_range] at hj; rw [testBit_full n j hj]; simp [hj]
theorem belowTo_succ (n : Int) (k : Nat) : (belowTo n k).set k (decide ((k : Int) < n)) = belowTo n (k + 1) := by
  apply List.ext_getElem
  · simp [belowTo]
  · intro j h1 h2
    rw [List.getElem_set]
    simp only [belowTo, List.getElem_map, List.getElem_range]
    by_cases hj : k = j
    · subst hj; simp
    · rw [if_neg hj]; congr 1; rw [decide_eq_decide]; omega
theorem falses64_zero : falses64 = (bitsL 0).map Value.bool := by rw [falses64_eq 0, ← bitsTo_end]; congr 1
set_option maxRecDepth 100000 in
set_option maxHeartbeats 2000000 in
theorem lawMakes_any (v : Value) (zs : List Int) (n : Int) (w : World) (hv : Ints w v zs) (hT : TabAt w) :
    Calls Tryd.prog 4 #[v, .int .i64 n] w fun e w' => e = .returned (.bool true) ∧ Keeps w w' := by
  obtain ⟨p, cap, rfl, hl, hc, h0, hcase⟩ := hv.upto 200
  clear hv
  have hmk := make64
  have hB0 := Blk.new w 4 falses64
  have hK0 := Keeps.alloc w (.cells falses64.toArray 4)
  have hbl := Bools.of_blk hB0 (cap := 64) (m := 0) (Nat.le_refl _) (by decide) (by rw [falses64_zero]; exact List.take_of_length_le (by simp [bitsL]))
  have hbel := Lib.hid (belowTo_zero n)
  rcases hcase with ⟨hlen, hs⟩ | ⟨hlen, hs⟩
  all_goals
    have hs0 := Slc.below hs hK0
    clear hs
    go_enter Tryd.func4, Tryd.ntmps4
    go_wp2_with fail
    refine (refPut_any 0 true _ _ _ _ hbl hs0).mono ?_
    rintro e w1 ⟨u1, rfl, hu1, hK1⟩
    have hs1 := Slc.below hs0 hK1
    have hKw := hK0.trans hK1
    have hB1 := Blk.new w1 4 falses64
    have hK2 := Keeps.alloc w1 (.cells falses64.toArray 4)
    clear hs0
    go_wp2_with fail
    go_loopw [7] (fun i wr => ∃ k : Nat, k ≤ 64 ∧ i = .int .i64 k ∧ Blk wr w1.heap.size 4 ((belowTo n k).map .bool) ∧ Keeps w1 wr) (fun i _ => 64 - (intOf i).toNat)
    case atStart => exact ⟨0, by omega, rfl, by rw [hbel.out]; exact hB1, hK2⟩
    case round =>
      obtain ⟨k, hk, rfl, hB, hK⟩ := hrel
      by_cases hlt : k < 64
      · have hc := hB.cellD k (by simp [belowTo]; exact hlt)
        have hf := hB.frozen k
        have hset := Lib.hid (hB.set k (.bool (decide ((k : Int) < n))))
        have hsucc := Lib.hid (belowTo_succ n k)
        replace hB := Lib.hid hB
        go_wp2_with fail
        go_roundw
        case rel =>
          refine ⟨k + 1, by omega, by go_num, ?_, hK.setCell (p := ⟨w1.heap.size, k, none⟩) (Nat.le_refl _) _⟩
          rw [← hsucc.out, List.map_set]; exact hset.out
        case measure => (simp [intOf]; try omega)
      · obtain rfl : k = 64 := by omega
        rw [belowTo_end] at hB
        have hu2 := Slc.below hu1 hK
        have hs2 := Slc.below hs1 hK
        have hKx := hKw.trans hK
        have hf2 := Bools.of_blk hB (cap := 64) (Nat.le_refl _) (by decide) (List.take_of_length_le (by simp [bitsL]))
        clear hu1 hs1 hB
        go_wp2_with fail
        refine (known01_any _ (hT.keeps hKx)).mono ?_
        rintro e w3 ⟨rfl, hK3⟩
        go_wp2_with fail
        refine (of_any _ _ _ (Slc.below hs2 hK3)).mono ?_
        rintro e w4 ⟨rfl, rfl⟩
        go_wp2_with fail
        refine (refWord_any _ _ _ (withN_lt _ 0 (by omega)) (Slc.below hu2 hK3)).mono ?_
        rintro e w4 ⟨rfl, rfl⟩
        go_wp2_with fail
        refine (full_any _ _).mono ?_
        rintro e w4 ⟨rfl, rfl⟩
        go_wp2_with fail
        refine (refWord_any _ _ _ (fullN_lt n) (Slc.below hf2 hK3)).mono ?_
        rintro e w4 ⟨rfl, rfl⟩
        go_wp2_with fail
        go_ret
        exact ⟨rfl, hKx.trans hK3⟩
end Go.Proofs.YtefjneilmmpgmaaDoor
