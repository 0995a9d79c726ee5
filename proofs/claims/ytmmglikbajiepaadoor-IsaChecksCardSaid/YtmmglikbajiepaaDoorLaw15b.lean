/- IsaChecks. -/
import Derived.Test.YtmmglikbajiepaaDoorIsaK2
namespace Go.Proofs.YtmmglikbajiepaaDoor
open Go.RowKit

set_option maxRecDepth 100000 in
set_option maxHeartbeats 2000000 in
theorem lawChecks_any (x : InsS) (w : World) (hT : Tabs w) : Calls Tryd.prog 4 #[insV x] w fun e w' => e = .returned (.bool true) ∧ Keeps w w' := by
  have frc := rcheck_any x
  have frt := rtext_any x
  have fto := to_any x
  have fck := check_any x
  have ftx := fun (W : World) (hk : Keeps w W) => text_any x W (hT.keeps hk)
  have fkn := fun (W : World) (hk : Keeps w W) => known_any W (hT.keeps hk)
  have htm : errM x = 0 → textM x = textB x := fun h => by rw [textM, if_pos h]
  have htn : errM x ≠ 0 → textM x = [] := fun h => by rw [textM, if_neg h]
  obtain ⟨op, dst, src, off, imm⟩ := x
  simp only [insV] at frc frt fto fck ftx
  have hB := Blk.new w 29 (insC ⟨op, dst, src, off, imm⟩)
  have hK := Keeps.alloc w (.cells (insC ⟨op, dst, src, off, imm⟩).toArray 29)
  obtain ⟨B, eB⟩ : ∃ B, B = w.heap.size := ⟨_, rfl⟩
  rw [← eB] at hB
  generalize errM ⟨op, dst, src, off, imm⟩ = er at *
  generalize textM ⟨op, dst, src, off, imm⟩ = tm at *
  generalize textB ⟨op, dst, src, off, imm⟩ = tb at *
  clear hT
  replace frc := Lib.hid frc
  replace frt := Lib.hid frt
  replace fto := Lib.hid fto
  replace fck := Lib.hid fck
  replace ftx := Lib.hid ftx
  replace fkn := Lib.hid fkn
  replace htm := Lib.hid htm
  replace htn := Lib.hid htn
  replace hB := Lib.hid hB
  replace hK := Lib.hid hK
  replace eB := Lib.hid eB
  unfold insV
  go_enter Tryd.func4, Tryd.ntmps4
  go_upto_region 1 with (fail)
  rw [← eB.out]
  refine wp_gen (fun W => Blk W B 29 (insC ⟨op, dst, src, off, imm⟩) ∧ Keeps w W) ⟨hB.out, hK.out⟩ ?_
  clear hB hK eB
  rintro W ⟨hB, hK⟩
  obtain ⟨y0, y1, y2, y3, y4⟩ := insBlk hB
  replace hB := Lib.hid hB
  replace hK := Lib.hid hK
  go_wp2_with fail
  with_reducible refine (frc.out _).mono ?_
  rintro e w1 ⟨rfl, hK1⟩
  have hB1 := hB.out.keeps hK1
  replace hK1 := Lib.hid (hK.out.trans hK1)
  clear y0 y1 y2 y3 y4 hB hK frc
  obtain ⟨y0, y1, y2, y3, y4⟩ := insBlk hB1
  replace hB1 := Lib.hid hB1
  by_cases he : er = 0
  · have ht := htm.out he
    subst he ht
    clear htm htn
    go_wp2_with fail
    with_reducible refine (frt.out trivial _).mono ?_
    rintro e w2 ⟨rfl, hK2⟩
    have hB2 := hB1.out.keeps hK2
    replace hK2 := Lib.hid (hK1.out.trans hK2)
    clear y0 y1 y2 y3 y4 hB1 hK1 frt
    generalize str tm = s at *
    replace hB2 := Lib.hid hB2
    go_wp2_with fail
    refine (fkn.out _ hK2.out).mono ?_
    rintro e w3 ⟨rfl, hK3⟩
    have hB3 := hB2.out.keeps hK3
    replace hK3 := Lib.hid (hK2.out.trans hK3)
    clear hB2 hK2 fkn
    obtain ⟨y0, y1, y2, y3, y4⟩ := insBlk hB3
    replace hB3 := Lib.hid hB3
    go_wp2_with fail
    with_reducible refine (fto.out _).mono ?_
    rintro e w4 ⟨rfl, hK4⟩
    have hB4 := hB3.out.keeps hK4
    replace hK4 := Lib.hid (hK3.out.trans hK4)
    clear y0 y1 y2 y3 y4 hB3 hK3
    replace hB4 := Lib.hid hB4
    go_wp2_with fail
    with_reducible refine (fck.out _).mono ?_
    rintro e w5 ⟨rfl, hK5⟩
    have hB5 := hB4.out.keeps hK5
    replace hK5 := Lib.hid (hK4.out.trans hK5)
    clear hB4 hK4
    obtain ⟨y0, y1, y2, y3, y4⟩ := insBlk hB5
    replace hB5 := Lib.hid hB5
    go_wp2_with fail
    with_reducible refine (fto.out _).mono ?_
    rintro e w6 ⟨rfl, hK6⟩
    replace hK6 := Lib.hid (hK5.out.trans hK6)
    clear y0 y1 y2 y3 y4 hB5 hK5
    go_wp2_with fail
    refine (ftx.out _ hK6.out).mono ?_
    rintro e w7 ⟨rfl, hK7⟩
    replace hK7 := Lib.hid (hK6.out.trans hK7)
    go_wp2_with fail
    go_ret
    exact ⟨rfl, hK7.out⟩
  · have ht := htn.out he
    subst ht
    have heb : (er == 0) = false := by rw [beq_eq_false_iff_ne]; exact he
    rw [show str [] = ⟨#[]⟩ from rfl] at ftx
    replace he := Lib.hid he
    clear htm htn
    go_wp2_with fail
    refine (fkn.out _ hK1.out).mono ?_
    rintro e w3 ⟨rfl, hK3⟩
    have hB3 := hB1.out.keeps hK3
    replace hK3 := Lib.hid (hK1.out.trans hK3)
    clear hB1 hK1 fkn y0 y1 y2 y3 y4
    obtain ⟨y0, y1, y2, y3, y4⟩ := insBlk hB3
    replace hB3 := Lib.hid hB3
    go_wp2_with fail
    with_reducible refine (fto.out _).mono ?_
    rintro e w4 ⟨rfl, hK4⟩
    have hB4 := hB3.out.keeps hK4
    replace hK4 := Lib.hid (hK3.out.trans hK4)
    clear y0 y1 y2 y3 y4 hB3 hK3
    replace hB4 := Lib.hid hB4
    go_wp2_with fail
    with_reducible refine (fck.out _).mono ?_
    rintro e w5 ⟨rfl, hK5⟩
    have hB5 := hB4.out.keeps hK5
    replace hK5 := Lib.hid (hK4.out.trans hK5)
    clear hB4 hK4
    obtain ⟨y0, y1, y2, y3, y4⟩ := insBlk hB5
    replace hB5 := Lib.hid hB5
    go_wp2_with fail
    with_reducible refine (fto.out _).mono ?_
    rintro e w6 ⟨rfl, hK6⟩
    replace hK6 := Lib.hid (hK5.out.trans hK6)
    clear y0 y1 y2 y3 y4 hB5 hK5
    go_wp2_with fail
    refine (ftx.out _ hK6.out).mono ?_
    rintro e w7 ⟨rfl, hK7⟩
    replace hK7 := Lib.hid (hK6.out.trans hK7)
    go_wp2_with fail
    go_ret
    exact ⟨rfl, hK7.out⟩
end Go.Proofs.YtmmglikbajiepaaDoor
