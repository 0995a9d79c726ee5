/- The laws of layer 1: what each walk comes to. -/
import Derived.Test.YtefjneilmmpgmaaDoorRef01
namespace Go.Proofs.YtefjneilmmpgmaaDoor
open Go.RowKit

theorem k1 : withN 0 [3, 0, 3, 64] = 9 := by decide
theorem k2 : withN 0 [3, 0] = 9 := by decide
theorem k3 : listN 9 = [0, 3] := by decide
theorem k3' : lenN 9 = 2 := by decide
theorem k4 : aroundV 9 4 = 0 := by decide
theorem k5 : aroundIs 9 4 = true := by decide
theorem k6 : turnN 9 1 = withN 0 [2, 63] := by decide
set_option maxRecDepth 100000 in
set_option maxHeartbeats 2000000 in
theorem known01_any (w : World) (hT : TabAt w) :
    Calls Tryd.prog 14 #[] w fun e w' => e = .returned (.bool true) ∧ Keeps w w' := by
  go_enter Tryd.func14, Tryd.ntmps14
  go_wp2_with fail
  refine (of_any _ [3, 0, 3, 64] _ (ints_at _ _ [3, 0, 3, 64] _ (by simp) (by decide))).mono ?_
  rintro e w1 ⟨rfl, rfl⟩
  rw [k1]
  have hK1 := Keeps.alloc w (.cells #[.int .i64 3, .int .i64 0, .int .i64 3, .int .i64 64] 3)
  go_wp2_with fail
  refine (list_any 9 _ (by omega) (hT.keeps hK1)).mono ?_
  rintro e w1 ⟨v, rfl, hrow, hK2⟩
  rw [k3, k3'] at hrow
  obtain ⟨g, cap, cs, rfl, _, hblk, _, _, _, ht⟩ := row_blk hrow
  have hK := hK1.trans hK2
  clear hrow hK1 hK2
  have hl : 2 ≤ cs.length := by have := congrArg List.length ht; simp [natInts] at this; omega
  have hc0 : w1.cell? ⟨g, 0, none⟩ = some (.int .i64 0) := by
    rw [hblk.cellD 0 (by omega)]; have := congrArg (·.getD 0 undef) ht; simpa [natInts, List.getD, List.getElem?_take] using this
  have hc1 : w1.cell? ⟨g, 1, none⟩ = some (.int .i64 3) := by
    rw [hblk.cellD 1 (by omega)]; have := congrArg (·.getD 1 undef) ht; simpa [natInts, List.getD, List.getElem?_take] using this
  have hg := hblk.lt
  clear hblk ht hl
  go_wp2_with fail
  refine (of_any _ [3, 0] _ (ints_at _ _ [3, 0] _ (by simp) (by decide))).mono ?_
  rintro e w2 ⟨rfl, rfl⟩
  rw [k2]
  have hKa := Keeps.alloc w1 (.cells #[.int .i64 3, .int .i64 0] 3)
  go_wp2_with fail
  refine (around_any 9 4 _ (by omega) (hT.keeps (hK.trans hKa))).mono ?_
  rintro e w2 ⟨rfl, hKb⟩
  rw [k4, k5]
  have hK2 := hKa.trans hKb
  have hc0 := (hK2.cell (p := ⟨g, 0, none⟩) hg).trans hc0
  have hc1 := (hK2.cell (p := ⟨g, 1, none⟩) hg).trans hc1
  have hg2 : g < w2.heap.size := Nat.lt_of_lt_of_le hg hK2.size
  replace hK2 := hK.trans hK2
  go_wp2_with fail
  refine (of_any _ [3, 0, 3, 64] _ (ints_at _ _ [3, 0, 3, 64] _ (by simp) (by decide))).mono ?_
  rintro e w3 ⟨rfl, rfl⟩
  rw [k1]
  go_wp2_with fail
  refine (of_any _ [3, 0] _ (ints_at _ _ [3, 0] _ (by simp) (by decide))).mono ?_
  rintro e w3 ⟨rfl, rfl⟩
  rw [k2]
  go_wp2_with fail
  refine (turn_any 9 1 _ (by omega)).mono ?_
  rintro e w3 ⟨rfl, rfl⟩
  rw [k6]
  go_wp2_with fail
  refine (of_any _ [2, 63] _ (ints_at _ _ [2, 63] _ (by simp) (by decide))).mono ?_
  rintro e w3 ⟨rfl, rfl⟩
  go_wp2_with fail
  go_ret
  exact ⟨rfl, ((hK2.trans (Keeps.alloc _ _)).trans (Keeps.alloc _ _)).trans (Keeps.alloc _ _)⟩

set_option maxRecDepth 100000 in
set_option maxHeartbeats 2000000 in
theorem lawNext_any (m : Nat) (i : Int) (w : World) (hm : m < 18446744073709551616) (hT : TabAt w) :
    Calls Tryd.prog 3 #[.int .u64 m, .int .i64 i] w fun e w' => e = .returned (.bool true) ∧ Keeps w w' := by
  go_enter Tryd.func3, Tryd.ntmps3
  go_wp2_with fail
  refine (refBits_any m _ hm).mono ?_
  rintro e w1 ⟨rfl, hblk, hK⟩
  have hB := Bools.of_blk hblk (cap := 64) (Nat.le_refl _) (by decide) (List.take_of_length_le (by simp [bitsL]))
  clear hblk
  go_wp2_with fail
  refine (next_any m i _ hm (hT.keeps hK)).mono ?_
  rintro e w2 ⟨rfl, hK2⟩
  have hB2 := Slc.below hB hK2
  replace hK := hK.trans hK2
  clear hB hK2
  go_wp2_with fail
  refine (refNext_any m i _ _ hB2).mono ?_
  rintro e w3 ⟨rfl, rfl⟩
  go_wp2_with fail
  refine (around_any m i _ hm (hT.keeps hK)).mono ?_
  rintro e w3 ⟨rfl, hK2⟩
  have hB3 := Slc.below hB2 hK2
  replace hK := hK.trans hK2
  clear hB2 hK2
  go_wp2_with fail
  refine (refAround_any m i _ _ hB3).mono ?_
  rintro e w4 ⟨rfl, rfl⟩
  go_wp2_with fail
  refine (known01_any _ (hT.keeps hK)).mono ?_
  rintro e w4 ⟨rfl, hK2⟩
  replace hK := hK.trans hK2
  clear hB3 hK2
  go_wp2_with fail
  go_ret
  exact ⟨rfl, hK⟩
end Go.Proofs.YtefjneilmmpgmaaDoor
