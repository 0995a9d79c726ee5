/- Arenas of integers: release, Set, Free, Len, Room. -/
import Derived.Test.YtanidaepfepppaaDoorAr3I
import Derived.Deep.CutBlock
namespace Go.Proofs.YtanidaepfepppaaDoor.ArI
open Go.RowKit Go.Proofs.YtanidaepfepppaaDoor

theorem hasF {l : List (Slot El)} (j : Nat) : (freeM l).testBit j = ((l[j]?).map (·.open)).getD false := by
  unfold freeM; rw [testBit_wordB]; simp [List.getD]
set_option maxRecDepth 100000 in
set_option maxHeartbeats 4000000 in
theorem release_any {w : World} {p b : Nat} {l : List (Slot El)} (h : ArenaAt w p b l) (i : Nat) (hi : i < l.length) (hu : l[i].used = true) :
    Calls Tryd.prog 35 #[.pointer (some ⟨p, 0, none⟩), .pointer (some ⟨b, i * 3, none⟩)] w fun e w' => e = .returned (.tuple #[]) ∧ ArenaAt w' p b (freeAt zEl l i) ∧ Chg (fun k => k = p ∨ k = b) w w' := by
  have hl64 := h.hi
  have hgen := h.ok.gen _ (List.getElem_mem hi)
  have hg255 := h.ok.used _ (List.getElem_mem hi) hu
  have hfr : freeAt zEl l i = l.set i ⟨l[i].gen + 1, false, zEl⟩ := modify_set l i hi _
  rw [hfr]
  have hU : usedM (l.set i ⟨l[i].gen + 1, false, zEl⟩) = withoutN (usedM l) [(i : Int)] := by rw [usedM_set l hl64 i hi]; rfl
  have hF : freeM (l.set i ⟨l[i].gen + 1, false, zEl⟩) = if l[i].gen = 255 then freeM l else withN (freeM l) [(i : Int)] := by
    rw [freeM_set l hl64 i hi]
    by_cases hg : l[i].gen = 255
    · rw [if_pos hg, if_neg (by simp [Slot.open]; omega), without_same h.freeLt]
      rw [hasF, List.getElem?_eq_getElem hi]; simp [Slot.open, hu]
    · rw [if_neg hg, if_pos (by simp [Slot.open]; omega)]
  have hfin := fun (W : World) => h.setAt (w' := W) i hi ⟨l[i].gen + 1, false, zEl⟩ (by simp only; omega) (fun h' => by cases h')
  rw [hU, hF] at hfin
  have hwo := fun (W : World) (g : Nat) (hc : W.cell? ⟨g, 0, none⟩ = some (.int .i64 (i : Int))) => without_any (usedM l) (.slice (some ⟨g, 0, none⟩) 1 1) [(i : Int)] W h.usedLt (ints_cell hc)
  have hwi := fun (W : World) (g : Nat) (hc : W.cell? ⟨g, 0, none⟩ = some (.int .i64 (i : Int))) => with_any (freeM l) (.slice (some ⟨g, 0, none⟩) 1 1) [(i : Int)] W h.freeLt (ints_cell hc)
  have hlt := h.hdr.lt
  have hblt := h.buf.lt
  have hne := h.ne
  have hsl : ∀ (j : Nat) (hj : j < 3), (arEls l).flatten[i * 3 + j]? = some ((slotEl i l[i]).getD j undef) := fun j hj => by
    have h1 := flat_get (arEls_size l) i j (by rw [arEls_len]; exact hi) hj
    rwa [arEls_get l i hi] at h1
  have hmin : ((min l[i].gen 255 : Nat) : Int) = (l[i].gen : Int) := by omega
  have s0 := hsl 0 (by decide)
  have s1 := hsl 1 (by decide)
  have s2 := hsl 2 (by decide)
  simp only [slotEl, xCells, hmin, Nat.add_zero, List.cons_append, List.nil_append, List.getD_cons_zero, List.getD_cons_succ] at s0 s1 s2
  have hfl0 : ((arEls l).set i (slotEl i ⟨l[i].gen + 1, false, zEl⟩)).flatten = if l[i].gen = 255 then (arEls l).flatten.set (i * 3 + 2) (.int .i64 0) else ((arEls l).flatten.set (i * 3 + 2) (.int .i64 0)).set (i * 3 + 1) (.int .i64 ((l[i].gen : Int) + 1)) := by
    rw [flat_set (arEls_size l) i 2 _ (by rw [arEls_len]; exact hi) (by decide), arEls_get l i hi]
    by_cases hg : l[i].gen = 255
    · rw [if_pos hg]
      simp [slotEl, xCells, zEl, hg]
    · rw [if_neg hg, ← arEls_get l i hi]
      have hsz : ∀ el ∈ (arEls l).set i (((arEls l).getD i []).set 2 (.int .i64 0)), el.length = 3 := by
        intro el hel
        rcases List.mem_or_eq_of_mem_set hel with h' | rfl
        · exact arEls_size l el h'
        · rw [List.length_set, arEls_get l i hi]; rfl
      rw [flat_set hsz i 1 _ (by rw [List.length_set, arEls_len]; exact hi) (by decide)]
      rw [arEls_get l i hi]
      have e1 : ((min (l[i].gen + 1) 255 : Nat) : Int) = (l[i].gen : Int) + 1 := by omega
      simp [slotEl, xCells, zEl, arEls_len, hi]
      rw [e1]
  rw [hfl0] at hfin
  have hP := h.hdr
  have hB := h.buf
  have hsz0 : (arEls l).flatten.length = l.length * 3 := by rw [flat_len (arEls_size l), arEls_len]
  generalize hG : l[i].gen = G at *
  generalize l[i].x = x0 at *
  generalize hUU : withoutN (usedM l) [(i : Int)] = U2 at *
  generalize hFF : withN (freeM l) [(i : Int)] = F2 at *
  generalize hfl : (arEls l).flatten = fl at *
  generalize hU1 : usedM l = U1 at *
  generalize hF1 : freeM l = F1 at *
  clear hU hF hfl0 hfr hmin hsl h hfl hUU hFF hU1 hF1 hu
  have c2 : w.cell? ⟨b, i * 3 + 2, none⟩ = some (.int .i64 x0) := hB.cellK s2
  have f2 := hB.frozen (i * 3 + 2)
  replace hfin := Lib.hid hfin
  replace hwo := Lib.hid hwo
  replace hwi := Lib.hid hwi
  replace hP := Lib.hid hP
  replace hB := Lib.hid hB
  replace s0 := Lib.hid s0
  replace s1 := Lib.hid s1
  replace s2 := Lib.hid s2
  replace hG := Lib.hid hG
  replace hsz0 := Lib.hid hsz0
  go_enter Tryd.func35, Tryd.ntmps35
  go_upto_region 2 with (fail)
  refine wp_gen (fun W => Blk W p 85 [.slice (some ⟨b, 0, none⟩) l.length l.length, .int .u64 (U1 : Int), .int .u64 (F1 : Int)] ∧ Blk W b 87 (fl.set (i * 3 + 2) (.int .i64 0)) ∧ Chg (fun k => k = p ∨ k = b) w W) ⟨hP.out.other hne.symm _ _, hB.out.set _ _, Chg.setCell _ _ (.inr rfl)⟩ ?_
  clear hP hB c2 f2
  rintro W ⟨hP, hB, hC⟩
  have d1 := hP.cell 1 (by simp)
  have g1 := hP.frozen 1
  simp only [List.getElem_cons_zero, List.getElem_cons_succ] at d1
  have b0 := hB.cellK (getElem?_set_ne' s0.out (u := .int .i64 0) (show i * 3 + 2 ≠ i * 3 by omega))
  have hltW := hP.lt
  have hbltW := hB.lt
  replace hP := Lib.hid hP
  replace hB := Lib.hid hB
  replace hC := Lib.hid hC
  go_cut [] (fun wx => Blk wx p 85 [.slice (some ⟨b, 0, none⟩) l.length l.length, .int .u64 (U2 : Int), .int .u64 (F1 : Int)] ∧ Blk wx b 87 (fl.set (i * 3 + 2) (.int .i64 0)) ∧ Chg (fun k => k = p ∨ k = b) w wx)
  case first =>
    go_region_with (first | (go_at_call 30; with_reducible refine (hwo.out _ _ (by simp)).mono ?_; rintro e w' ⟨rfl, rfl⟩))
    all_goals
      go_wp2_with fail
      go_meet
      exact ⟨(hP.out.set 1 _).keeps (Keeps.trans (Keeps.alloc _ _) (Keeps.drew _)), (hB.out.other hne _ _).keeps (Keeps.trans (Keeps.alloc _ _) (Keeps.drew _)), hC.out.trans ((Chg.setCell _ _ (.inl rfl)).trans (Chg.of_keeps (Keeps.trans (Keeps.alloc _ _) (Keeps.drew _))))⟩
  case rest =>
    clear hP hB hC d1 g1 b0 hltW hbltW hwo
    obtain ⟨hP, hB, hC⟩ := hcut
    have d2 := hP.cell 2 (by simp)
    have g2 := hP.frozen 2
    simp only [List.getElem_cons_zero, List.getElem_cons_succ] at d2
    have b0 := hB.cellK (getElem?_set_ne' s0.out (u := .int .i64 0) (show i * 3 + 2 ≠ i * 3 by omega))
    have b1 := hB.cellK (getElem?_set_ne' s1.out (u := .int .i64 0) (show i * 3 + 2 ≠ i * 3 + 1 by omega))
    have f1 := hB.frozen (i * 3 + 1)
    have hlt2 := hP.lt
    replace hP := Lib.hid hP
    replace hB := Lib.hid hB
    replace hC := Lib.hid hC
    by_cases hg : G = 255
    · subst hg
      replace hfin := hfin.out
      simp only [if_true] at hfin
      replace hfin := Lib.hid hfin
      go_wp2_with fail
      (try simp only [Exit.inBlock, Exit.then])
      refine bodyPost_ret (results_none rfl _ _ _) rfl ?_
      exact ⟨rfl, hfin.out _ hP.out hB.out, hC.out⟩
    · have hg1 : ((G : Int) = 255) = False := by simp; omega
      have hg2 : decide ((G : Int) = 255) = false := by simp; omega
      replace hfin := hfin.out
      simp only [if_neg hg] at hfin
      replace hfin := Lib.hid hfin
      go_upto_region 5 with (fail)
      refine wp_gen (fun W => Blk W p 85 [.slice (some ⟨b, 0, none⟩) l.length l.length, .int .u64 (U2 : Int), .int .u64 (F1 : Int)] ∧ Blk W b 87 ((fl.set (i * 3 + 2) (.int .i64 0)).set (i * 3 + 1) (.int .i64 ((G : Int) + 1))) ∧ Chg (fun k => k = p ∨ k = b) w W) ⟨hP.out.other hne.symm _ _, hB.out.set _ _, hC.out.trans (Chg.setCell _ _ (.inr rfl))⟩ ?_
      clear hP hB hC d2 g2 b0 b1 f1 hlt2
      rintro W2 ⟨hP, hB, hC⟩
      have d2 := hP.cell 2 (by simp)
      have g2 := hP.frozen 2
      simp only [List.getElem_cons_zero, List.getElem_cons_succ] at d2
      have b0 := hB.cellK (getElem?_set_ne' (getElem?_set_ne' s0.out (u := .int .i64 0) (show i * 3 + 2 ≠ i * 3 by omega)) (u := .int .i64 ((G : Int) + 1)) (show i * 3 + 1 ≠ i * 3 by omega))
      have hlt2 := hP.lt
      have hblt2 := hB.lt
      replace hP := Lib.hid hP
      replace hB := Lib.hid hB
      replace hC := Lib.hid hC
      go_region_with (first | (go_at_call 29; with_reducible refine (hwi.out _ _ (by simp)).mono ?_; rintro e w' ⟨rfl, rfl⟩))
      all_goals
        go_wp2_with fail
        go_end0
        exact ⟨rfl, hfin.out _ ((hP.out.set 2 _).keeps (Keeps.trans (Keeps.alloc _ _) (Keeps.drew _))) ((hB.out.other hne _ _).keeps (Keeps.trans (Keeps.alloc _ _) (Keeps.drew _))), hC.out.trans ((Chg.setCell _ _ (.inl rfl)).trans (Chg.of_keeps (Keeps.trans (Keeps.alloc _ _) (Keeps.drew _))))⟩
end Go.Proofs.YtanidaepfepppaaDoor.ArI
