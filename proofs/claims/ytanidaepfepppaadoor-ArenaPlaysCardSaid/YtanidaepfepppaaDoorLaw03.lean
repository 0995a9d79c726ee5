/- A nil arena has nothing: the walk. -/
import Derived.Test.YtanidaepfepppaaDoorAr7I
namespace Go.Proofs.YtanidaepfepppaaDoor.ArI
open Go.RowKit Go.Proofs.YtanidaepfepppaaDoor

theorem live_nil (w : World) : Calls Tryd.prog 26 #[.pointer none] w fun e w' => e = .returned (.slice none 0 0) ∧ w = w' := by
  go_enter Tryd.func26, Tryd.ntmps26
  go_wp2_with fail
  go_ret
  exact ⟨rfl, rfl⟩
set_option maxRecDepth 100000 in
set_option maxHeartbeats 4000000 in
theorem lawNil_any (s g x : Int) (w : World) (hT : TabAt w) : Calls Tryd.prog 7 #[.agg #[.int .i64 s, .int .i64 g], .int .i64 x] w fun e w' => e = .returned (.bool true) ∧ Keeps w w' := by
  replace hT := Lib.hid hT
  go_enter Tryd.func7, Tryd.ntmps7
  go_upto_region 2 with (fail)
  refine wp_gen (fun W => Blk W w.heap.size 34 (hEl (s, g)) ∧ Keeps w W) ⟨Blk.at rfl rfl, Keeps.alloc _ _⟩ ?_
  rintro w1 ⟨hH, hK⟩
  generalize w.heap.size = h1 at *
  have hlt := hH.lt
  replace hH := Lib.hid hH
  replace hK := Lib.hid hK
  go_wp2_with fail
  refine ((put_nil x w1).mono (fun e W' (hh : _ ∧ _) => (⟨hh.1, hh.2⟩ : e = .returned (.tuple #[.agg #[.int .i64 0, .int .i64 0], .int .i64 6]) ∧ Keeps w1 W'))).mono ?_
  rintro e w2 ⟨rfl, hK2⟩
  have hH2 := hH.out.keeps hK2
  have hKK := Keeps.trans hK.out hK2
  have hlt2 := hH2.lt
  replace hH2 := Lib.hid hH2
  replace hKK := Lib.hid hKK
  clear hH hK hK2
  go_upto_region 3 with (fail)
  refine wp_gen (fun W => Blk W h1 34 (hEl (s, g)) ∧ Blk W w2.heap.size 34 (hEl (0, 0)) ∧ Keeps w W) ⟨hH2.out.keeps (Keeps.alloc _ _), Blk.at rfl rfl, Keeps.trans hKK.out (Keeps.alloc _ _)⟩ ?_
  clear hH2 hKK hlt2
  rintro w3 ⟨hH, hG, hK⟩
  generalize w2.heap.size = h2 at *
  have a0 := hH.cell 0 (by simp [hEl])
  have a1 := hH.cell 1 (by simp [hEl])
  simp only [hEl, List.getElem_cons_zero, List.getElem_cons_succ] at a0 a1
  replace hH := Lib.hid hH
  replace hG := Lib.hid hG
  replace hK := Lib.hid hK
  go_wp2_with fail
  refine (get_nil s g w3).mono ?_
  rintro e w4 ⟨rfl, hK4⟩
  have hH4 := hH.out.keeps hK4
  have hG4 := hG.out.keeps hK4
  have hKK := Keeps.trans hK.out hK4
  replace hH4 := Lib.hid hH4
  replace hG4 := Lib.hid hG4
  replace hKK := Lib.hid hKK
  clear hH hG hK hK4 a0 a1
  go_wp2_with fail
  refine (known_any w4 (hT.out.keeps hKK.out)).mono ?_
  rintro e w5 ⟨rfl, hK5⟩
  have hH5 := hH4.out.keeps hK5
  have hG5 := hG4.out.keeps hK5
  have hK6 := Keeps.trans hKK.out hK5
  have a0 := hH5.cell 0 (by simp [hEl])
  have a1 := hH5.cell 1 (by simp [hEl])
  have b0 := hG5.cell 0 (by simp [hEl])
  have b1 := hG5.cell 1 (by simp [hEl])
  simp only [hEl, List.getElem_cons_zero, List.getElem_cons_succ] at a0 a1 b0 b1
  replace hH5 := Lib.hid hH5
  replace hK6 := Lib.hid hK6
  clear hH4 hG4 hG5 hKK hK5 hT
  go_wp2_with fail
  refine (set_nil s g x w5).mono ?_
  rintro e w6 ⟨rfl, hK7⟩
  have hH6 := hH5.out.keeps hK7
  have hK8 := Keeps.trans hK6.out hK7
  have c0 := hH6.cell 0 (by simp [hEl])
  have c1 := hH6.cell 1 (by simp [hEl])
  simp only [hEl, List.getElem_cons_zero, List.getElem_cons_succ] at c0 c1
  replace hK8 := Lib.hid hK8
  clear hH5 hK6 hK7 hH6 a0 a1 b0 b1
  go_wp2_with fail
  refine (free_nil _ _).mono ?_
  rintro e w7 ⟨rfl, rfl⟩
  go_wp2_with fail
  refine (live_nil _).mono ?_
  rintro e w7 ⟨rfl, rfl⟩
  go_wp2_with fail
  refine (len_nil _).mono ?_
  rintro e w7 ⟨rfl, rfl⟩
  go_wp2_with fail
  refine (room_nil _).mono ?_
  rintro e w7 ⟨rfl, rfl⟩
  go_wp2_with fail
  go_ret
  exact ⟨rfl, Keeps.trans hK8.out (Keeps.alloc _ _)⟩
end Go.Proofs.YtanidaepfepppaaDoor.ArI
