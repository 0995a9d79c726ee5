/- EventTexts: the walk. -/
import Derived.Test.YtedfkonpkmckbaaDoorEvD
namespace Go.Proofs.YtedfkonpkmckbaaDoor
open Go.RowKit

theorem sizeRv : (Tryd.prog.info? 24).map (·.size) = some 5 := by kernel_rfl
set_option maxRecDepth 100000 in
set_option maxHeartbeats 2000000 in
theorem lawTexts_any (e : EvS) (he : e.Ok) (w : World) (hT : Tabs w) : Calls Tryd.prog 3 #[rvV e] w fun r w' => r = .returned (.bool true) ∧ Keeps w w' := by
  have fk := fun (W : World) (h : Keeps w W) => known28_any W (hT.keeps h)
  have ft := fun (W : World) (h : Keeps w W) => text_any e he W (hT.keeps h)
  have fr := fun (W : World) => rtext_any e he W
  have fo := fun (W : World) => to_any e W
  have fw := fun (k : Int) (W : World) (h : Keeps w W) => word_any k W (hT.keeps h)
  have fv := fun (k : Int) (W : World) => rword_any k W
  obtain ⟨t, k, a, b, n⟩ := e
  have hB := Blk.new w 24 [.int .u64 (t : Int), .int .i64 k, .int .i64 a, .int .i64 b, .int .u64 (n : Int)]
  have hK := Keeps.alloc w (.cells [Value.int .u64 (t : Int), .int .i64 k, .int .i64 a, .int .i64 b, .int .u64 (n : Int)].toArray 24)
  obtain ⟨B, eB⟩ : ∃ B, B = w.heap.size := ⟨_, rfl⟩
  rw [← eB] at hB
  replace eB := Lib.hid eB
  replace hB := Lib.hid hB
  replace hK := Lib.hid hK
  replace fk := Lib.hid fk
  replace ft := Lib.hid ft
  replace fr := Lib.hid fr
  replace fo := Lib.hid fo
  replace fw := Lib.hid fw
  replace fv := Lib.hid fv
  clear hT he
  go_enter Tryd.func3, Tryd.ntmps3
  go_upto_region 2 with (fail)
  rw [← eB.out]
  refine wp_gen (fun W => Blk W B 24 [.int .u64 (t : Int), .int .i64 k, .int .i64 a, .int .i64 b, .int .u64 (n : Int)] ∧ Keeps w W) ⟨hB.out, hK.out⟩ ?_
  clear hB hK eB
  rintro W1 ⟨hB, hK⟩
  replace hB := Lib.hid hB
  replace hK := Lib.hid hK
  go_loopw [3] (fun iv wr => ∃ j : Int, iv = .int .i64 j ∧ -2 ≤ j ∧ j ≤ 15 ∧ Keeps W1 wr) (fun iv _ => (15 - RowKit.intOf iv).toNat)
  case atStart => exact ⟨-2, rfl, by omega, by omega, Keeps.refl _⟩
  case round =>
    obtain ⟨j, rfl, hj0, hj1, hKr⟩ := hrel
    by_cases hlt : j < 15
    · have f1 := fw.out j wr (Keeps.trans hK.out hKr)
      have f2 := fv.out j
      have hne : ((str (wordB j)).toList != (str (wordB j)).toList) = false := by simp
      generalize str (wordB j) = s at *
      replace f1 := Lib.hid f1
      replace f2 := Lib.hid f2
      replace hKr := Lib.hid hKr
      go_wp2_with fail
      with_reducible refine f1.out.mono ?_
      rintro e w2 ⟨rfl, hK2⟩
      replace hK2 := Lib.hid hK2
      go_wp2_with fail
      with_reducible refine (f2.out _).mono ?_
      rintro e w3 ⟨rfl, hK3⟩
      have hK4 := Lib.hid (Keeps.trans hKr.out (Keeps.trans hK2.out hK3))
      clear hK3
      go_wp2_with fail
      go_roundw
      case rel => exact ⟨j + 1, by go_num, by omega, by omega, hK4.out⟩
      case measure => (simp [RowKit.intOf]; try omega)
    · obtain rfl : j = 15 := by omega
      have hBw := hB.out.keeps hKr
      have hKw := Keeps.trans hK.out hKr
      have q1 := hBw.cell 1 (by simp)
      have q0 := hBw.cell 0 (by simp)
      have q2 := hBw.cell 2 (by simp)
      have q3 := hBw.cell 3 (by simp)
      have q4 := hBw.cell 4 (by simp)
      simp only [List.getElem_cons_zero, List.getElem_cons_succ] at q0 q1 q2 q3 q4
      have p0 := After.cell q0
      have p1 := After.cell q1
      have p2 := After.cell q2
      have p3 := After.cell q3
      have p4 := After.cell q4
      have g1 := Lib.hid fun y : After wr => y.call (fk.out y.now (Keeps.trans hKw y.keeps))
      have g2 := Lib.hid fun y : After wr => y.call (ft.out y.now (Keeps.trans hKw y.keeps))
      have g3 := Lib.hid fun y : After wr => y.call (fr.out y.now)
      have g4 := Lib.hid fun y : After wr => y.call (fo.out y.now)
      have g5 := Lib.hid fun y : After wr => y.call (fw.out k y.now (Keeps.trans hKw y.keeps))
      have g6 := Lib.hid fun y : After wr => y.call (fv.out k y.now)
      generalize str (wordB k) = s1 at *
      generalize str (textB ⟨t, k, a, b, n⟩) = s2 at *
      clear q0 q1 q2 q3 q4 hBw hB hK hKr fk ft fr fo fw fv
      replace hKw := Lib.hid hKw
      go_upto_region 6 with (fail)
      refine region_after (by kernel_rfl) (by kernel_rfl) ?_
      repeat go_big_quiet_step (first | (with_reducible exact g1.out _) | (with_reducible exact g2.out _) | (with_reducible exact g3.out _) | (with_reducible exact g4.out _) | (with_reducible exact g5.out _) | (with_reducible exact g6.out _))
      trace_state
      refine wpQuiet_nil ?_
      rintro W3 ⟨⟨X3, hK3⟩, hX3⟩
      replace hX3 := show W3 = X3 from hX3
      subst hX3
      replace hK3 := Lib.hid hK3
      go_wp2_with fail
      go_ret
      exact ⟨rfl, Keeps.trans hKw.out hK3.out⟩
end Go.Proofs.YtedfkonpkmckbaaDoor
