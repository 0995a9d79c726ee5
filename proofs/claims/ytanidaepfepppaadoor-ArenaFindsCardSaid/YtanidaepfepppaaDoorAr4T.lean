/- Arenas of things: release. -/
import Derived.Test.YtanidaepfepppaaDoorAr3T
import Derived.Deep.CutBlock
namespace Go.Proofs.YtanidaepfepppaaDoor.ArT
open Go.RowKit Go.Proofs.YtanidaepfepppaaDoor

theorem hasF {l : List (Slot El)} (j : Nat) : (freeM l).testBit j = ((l[j]?).map (·.open)).getD false := by
  unfold freeM; rw [testBit_wordB]; simp [List.getD]
theorem set_size {sz : Nat} {els : List (List Value)} (hs : ∀ el ∈ els, el.length = sz) (i : Nat) {e : List Value} (he : e.length = sz) : ∀ el ∈ els.set i e, el.length = sz := by
  intro el hel
  rcases List.mem_or_eq_of_mem_set hel with h' | rfl
  · exact hs el h'
  · exact he
theorem getD_set_self {els : List (List Value)} {i : Nat} (hi : i < els.length) (e : List Value) : (els.set i e).getD i [] = e := by
  rw [List.getD_eq_getElem?_getD, List.getElem?_set_self hi]; rfl
theorem getD_size {sz : Nat} {els : List (List Value)} (hs : ∀ el ∈ els, el.length = sz) {i : Nat} (hi : i < els.length) : (els.getD i []).length = sz := by
  rw [List.getD_eq_getElem?_getD, List.getElem?_eq_getElem hi]
  exact hs _ (List.getElem_mem hi)
theorem flat_set2 {sz : Nat} {els : List (List Value)} (hs : ∀ el ∈ els, el.length = sz) (i j j' : Nat) (v v' : Value) (hi : i < els.length) (hj : j < sz) (hj' : j' < sz) : (els.flatten.set (i * sz + j) v).set (i * sz + j') v' = (els.set i (((els.getD i []).set j v).set j' v')).flatten := by
  rw [flat_set hs i j v hi hj, flat_set (set_size hs i (by rw [List.length_set]; exact getD_size hs hi)) i j' v' (by rw [List.length_set]; exact hi) hj', getD_set_self hi, List.set_set]
theorem flat_set3 {sz : Nat} {els : List (List Value)} (hs : ∀ el ∈ els, el.length = sz) (i j j' k : Nat) (v v' u : Value) (hi : i < els.length) (hj : j < sz) (hj' : j' < sz) (hk : k < sz) : ((els.flatten.set (i * sz + j) v).set (i * sz + j') v').set (i * sz + k) u = (els.set i ((((els.getD i []).set j v).set j' v').set k u)).flatten := by
  rw [flat_set2 hs i j j' v v' hi hj hj', flat_set (set_size hs i (by rw [List.length_set, List.length_set]; exact getD_size hs hi)) i k u (by rw [List.length_set]; exact hi) hk, getD_set_self hi, List.set_set]
theorem set23 {fl : List Value} {k j j' : Nat} {v u u' : Value} (h : fl[k]? = some v) (h1 : j ≠ k) (h2 : j' ≠ k) : ((fl.set j u).set j' u')[k]? = some v := getElem?_set_ne' (getElem?_set_ne' h h1) h2
set_option maxRecDepth 100000 in
set_option maxHeartbeats 4000000 in
theorem release_any {w : World} {p b : Nat} {l : List (Slot El)} (h : ArenaAt w p b l) (i : Nat) (hi : i < l.length) (hu : l[i].used = true) :
    Calls Tryd.prog 33 #[.pointer (some ⟨p, 0, none⟩), .pointer (some ⟨b, i * 4, none⟩)] w fun e w' => e = .returned (.tuple #[]) ∧ ArenaAt w' p b (freeAt zEl l i) ∧ Chg (fun k => k = p ∨ k = b) w w' := by
  have hl64 := h.hi
  have hgen := h.ok.gen _ (List.getElem_mem hi)
  have hg255 := h.ok.used _ (List.getElem_mem hi) hu
  have hfr : freeAt zEl l i = l.set i ⟨l[i].gen + 1, false, zEl⟩ := modify_set l i hi _
  rw [hfr]
  have hU : usedM (l.set i ⟨l[i].gen + 1, false, zEl⟩) = withoutN (usedM l) [(i : Int)] := by rw [usedM_set l hl64 i hi]; rfl
  have hF : freeM (l.set i ⟨l[i].gen + 1, false, zEl⟩) = if l[i].gen = 255 then freeM l else withN (freeM l) [(i : Int)] := by
    rw [freeM_set l hl64 i hi]
    by_cases hg : l[i].gen = 255
    · rw [if_pos hg, if_neg (by simp [Slot.open]; omega), without_same h.freeLt]
      rw [hasF, List.getElem?_eq_getElem hi]; simp [Slot.open, hu]
    · rw [if_neg hg, if_pos (by simp [Slot.open]; omega)]
  have hfin := fun (W : World) => h.setAt (w' := W) i hi ⟨l[i].gen + 1, false, zEl⟩ (by simp only; omega) (fun h' => by cases h')
  rw [hU, hF] at hfin
  have hwo := fun (W : World) (g : Nat) (hc : W.cell? ⟨g, 0, none⟩ = some (.int .i64 (i : Int))) => without_any (usedM l) (.slice (some ⟨g, 0, none⟩) 1 1) [(i : Int)] W h.usedLt (ints_cell hc)
  have hwi := fun (W : World) (g : Nat) (hc : W.cell? ⟨g, 0, none⟩ = some (.int .i64 (i : Int))) => with_any (freeM l) (.slice (some ⟨g, 0, none⟩) 1 1) [(i : Int)] W h.freeLt (ints_cell hc)
  have hlt := h.hdr.lt
  have hblt := h.buf.lt
  have hne := h.ne
  have hsl : ∀ (j : Nat) (hj : j < 4), (arEls l).flatten[i * 4 + j]? = some ((slotEl i l[i]).getD j undef) := fun j hj => by
    have h1 := flat_get (arEls_size l) i j (by rw [arEls_len]; exact hi) hj
    rwa [arEls_get l i hi] at h1
  have hmin : ((min l[i].gen 255 : Nat) : Int) = (l[i].gen : Int) := by omega
  have s0 := hsl 0 (by decide)
  have s1 := hsl 1 (by decide)
  have s2 := hsl 2 (by decide)
  have s3 := hsl 3 (by decide)
  simp only [slotEl, xCells, hmin, Nat.add_zero, List.cons_append, List.nil_append, List.getD_cons_zero, List.getD_cons_succ] at s0 s1 s2 s3
  have hfl0 : ((arEls l).set i (slotEl i ⟨l[i].gen + 1, false, zEl⟩)).flatten = if l[i].gen = 255 then ((arEls l).flatten.set (i * 4 + 2) (.int .i64 0)).set (i * 4 + 3) (.string ByteArray.empty) else (((arEls l).flatten.set (i * 4 + 2) (.int .i64 0)).set (i * 4 + 3) (.string ByteArray.empty)).set (i * 4 + 1) (.int .i64 ((l[i].gen : Int) + 1)) := by
    have hi2 : i < (arEls l).length := by rw [arEls_len]; exact hi
    by_cases hg : l[i].gen = 255
    · rw [if_pos hg, flat_set2 (arEls_size l) i 2 3 _ _ hi2 (by decide) (by decide), arEls_get l i hi]
      congr 2
      simp [slotEl, xCells, zEl, hg]
    · have e1 : ((min (l[i].gen + 1) 255 : Nat) : Int) = (l[i].gen : Int) + 1 := by omega
      rw [if_neg hg, flat_set3 (arEls_size l) i 2 3 1 _ _ _ hi2 (by decide) (by decide) (by decide), arEls_get l i hi]
      congr 2
      simp only [slotEl, xCells, zEl, e1]
      rfl
  rw [hfl0] at hfin
  have hP := h.hdr
  have hB := h.buf
  have hsz0 : (arEls l).flatten.length = l.length * 4 := by rw [flat_len (arEls_size l), arEls_len]
  generalize hG : l[i].gen = G at *
  generalize l[i].x = x0 at *
  generalize hUU : withoutN (usedM l) [(i : Int)] = U2 at *
  generalize hFF : withN (freeM l) [(i : Int)] = F2 at *
  generalize hfl : (arEls l).flatten = fl at *
  generalize hU1 : usedM l = U1 at *
  generalize hF1 : freeM l = F1 at *
  clear hU hF hfl0 hfr hmin hsl h hfl hUU hFF hU1 hF1 hu
  obtain ⟨x0a, x0s⟩ := x0
  replace hfin := Lib.hid hfin
  replace hwo := Lib.hid hwo
  replace hwi := Lib.hid hwi
  replace hP := Lib.hid hP
  replace hB := Lib.hid hB
  replace s0 := Lib.hid s0
  replace s1 := Lib.hid s1
  replace s2 := Lib.hid s2
  replace s3 := Lib.hid s3
  replace hG := Lib.hid hG
  replace hsz0 := Lib.hid hsz0
  go_enter Tryd.func33, Tryd.ntmps33
  go_upto_region 1 with (fail)
  refine wp_gen (fun W => Blk W p 73 [.slice (some ⟨b, 0, none⟩) l.length l.length, .int .u64 (U1 : Int), .int .u64 (F1 : Int)] ∧ Blk W b 75 fl ∧ Blk W w.heap.size 29 (xCells zEl) ∧ Keeps w W) ⟨hP.out.alloc _, hB.out.alloc _, Blk.at rfl rfl, Keeps.alloc _ _⟩ ?_
  clear hP hB
  rintro W0 ⟨hP, hB, hN, hK0⟩
  have c2 := hB.cellK s2.out
  have c3 := hB.cellK s3.out
  have f2 := hB.frozen (i * 4 + 2)
  have f3 := hB.frozen (i * 4 + 3)
  have n0 := hN.cell 0 (by simp [xCells])
  have n1 := hN.cell 1 (by simp [xCells])
  simp only [xCells, zEl, List.getElem_cons_zero, List.getElem_cons_succ] at n0 n1
  have hP1 := (hP.other hne.symm (i * 4 + 2) (.int .i64 0)).other hne.symm (i * 4 + 3) (.string ByteArray.empty)
  have hB1 := (hB.set (i * 4 + 2) (.int .i64 0)).set (i * 4 + 3) (.string ByteArray.empty)
  have hC1 : Chg (fun k => k = p ∨ k = b) w ((W0.setCell ⟨b, i * 4 + 2, none⟩ (.int .i64 0)).setCell ⟨b, i * 4 + 3, none⟩ (.string ByteArray.empty)) := (Chg.of_keeps hK0).trans ((Chg.setCell _ _ (.inr rfl)).trans (Chg.setCell _ _ (.inr rfl)))
  replace hP1 := Lib.hid hP1
  replace hB1 := Lib.hid hB1
  replace hC1 := Lib.hid hC1
  clear hP hB hN hK0
  go_upto_region 2 with (fail)
  refine wp_gen (fun W => Blk W p 73 [.slice (some ⟨b, 0, none⟩) l.length l.length, .int .u64 (U1 : Int), .int .u64 (F1 : Int)] ∧ Blk W b 75 ((fl.set (i * 4 + 2) (.int .i64 0)).set (i * 4 + 3) (.string ByteArray.empty)) ∧ Chg (fun k => k = p ∨ k = b) w W) ⟨hP1.out, hB1.out, hC1.out⟩ ?_
  clear hP1 hB1 hC1 c2 c3 f2 f3 n0 n1
  rintro W ⟨hP, hB, hC⟩
  have d1 := hP.cell 1 (by simp)
  have g1 := hP.frozen 1
  simp only [List.getElem_cons_zero, List.getElem_cons_succ] at d1
  have b0 := hB.cellK (set23 s0.out (u := .int .i64 0) (u' := .string ByteArray.empty) (show i * 4 + 2 ≠ i * 4 by omega) (show i * 4 + 3 ≠ i * 4 by omega))
  have hltW := hP.lt
  have hbltW := hB.lt
  replace hP := Lib.hid hP
  replace hB := Lib.hid hB
  replace hC := Lib.hid hC
  go_cut [] (fun wx => Blk wx p 73 [.slice (some ⟨b, 0, none⟩) l.length l.length, .int .u64 (U2 : Int), .int .u64 (F1 : Int)] ∧ Blk wx b 75 ((fl.set (i * 4 + 2) (.int .i64 0)).set (i * 4 + 3) (.string ByteArray.empty)) ∧ Chg (fun k => k = p ∨ k = b) w wx)
  case first =>
    go_region_with (first | (go_at_call 30; with_reducible refine (hwo.out _ _ (by simp)).mono ?_; rintro e w' ⟨rfl, rfl⟩))
    all_goals
      go_wp2_with fail
      go_meet
      exact ⟨(hP.out.set 1 _).keeps (Keeps.trans (Keeps.alloc _ _) (Keeps.drew _)), (hB.out.other hne _ _).keeps (Keeps.trans (Keeps.alloc _ _) (Keeps.drew _)), hC.out.trans ((Chg.setCell _ _ (.inl rfl)).trans (Chg.of_keeps (Keeps.trans (Keeps.alloc _ _) (Keeps.drew _))))⟩
  case rest =>
    clear hP hB hC d1 g1 b0 hltW hbltW hwo
    obtain ⟨hP, hB, hC⟩ := hcut
    have d2 := hP.cell 2 (by simp)
    have g2 := hP.frozen 2
    simp only [List.getElem_cons_zero, List.getElem_cons_succ] at d2
    have b0 := hB.cellK (set23 s0.out (u := .int .i64 0) (u' := .string ByteArray.empty) (show i * 4 + 2 ≠ i * 4 by omega) (show i * 4 + 3 ≠ i * 4 by omega))
    have b1 := hB.cellK (set23 s1.out (u := .int .i64 0) (u' := .string ByteArray.empty) (show i * 4 + 2 ≠ i * 4 + 1 by omega) (show i * 4 + 3 ≠ i * 4 + 1 by omega))
    have f1 := hB.frozen (i * 4 + 1)
    have hlt2 := hP.lt
    replace hP := Lib.hid hP
    replace hB := Lib.hid hB
    replace hC := Lib.hid hC
    by_cases hg : G = 255
    · subst hg
      replace hfin := hfin.out
      simp only [if_true] at hfin
      replace hfin := Lib.hid hfin
      go_wp2_with fail
      (try simp only [Exit.inBlock, Exit.then])
      refine bodyPost_ret (results_none rfl _ _ _) rfl ?_
      exact ⟨rfl, hfin.out _ hP.out hB.out, hC.out⟩
    · have hg1 : ((G : Int) = 255) = False := by simp; omega
      have hg2 : decide ((G : Int) = 255) = false := by simp; omega
      replace hfin := hfin.out
      simp only [if_neg hg] at hfin
      replace hfin := Lib.hid hfin
      go_upto_region 5 with (fail)
      refine wp_gen (fun W => Blk W p 73 [.slice (some ⟨b, 0, none⟩) l.length l.length, .int .u64 (U2 : Int), .int .u64 (F1 : Int)] ∧ Blk W b 75 (((fl.set (i * 4 + 2) (.int .i64 0)).set (i * 4 + 3) (.string ByteArray.empty)).set (i * 4 + 1) (.int .i64 ((G : Int) + 1))) ∧ Chg (fun k => k = p ∨ k = b) w W) ⟨hP.out.other hne.symm _ _, hB.out.set _ _, hC.out.trans (Chg.setCell _ _ (.inr rfl))⟩ ?_
      clear hP hB hC d2 g2 b0 b1 f1 hlt2
      rintro W2 ⟨hP, hB, hC⟩
      have d2 := hP.cell 2 (by simp)
      have g2 := hP.frozen 2
      simp only [List.getElem_cons_zero, List.getElem_cons_succ] at d2
      have b0 := hB.cellK (getElem?_set_ne' (set23 s0.out (u := .int .i64 0) (u' := .string ByteArray.empty) (show i * 4 + 2 ≠ i * 4 by omega) (show i * 4 + 3 ≠ i * 4 by omega)) (u := .int .i64 ((G : Int) + 1)) (show i * 4 + 1 ≠ i * 4 by omega))
      have hlt2 := hP.lt
      have hblt2 := hB.lt
      replace hP := Lib.hid hP
      replace hB := Lib.hid hB
      replace hC := Lib.hid hC
      go_region_with (first | (go_at_call 29; with_reducible refine (hwi.out _ _ (by simp)).mono ?_; rintro e w' ⟨rfl, rfl⟩))
      all_goals
        go_wp2_with fail
        go_end0
        exact ⟨rfl, hfin.out _ ((hP.out.set 2 _).keeps (Keeps.trans (Keeps.alloc _ _) (Keeps.drew _))) ((hB.out.other hne _ _).keeps (Keeps.trans (Keeps.alloc _ _) (Keeps.drew _))), hC.out.trans ((Chg.setCell _ _ (.inl rfl)).trans (Chg.of_keeps (Keeps.trans (Keeps.alloc _ _) (Keeps.drew _))))⟩
end Go.Proofs.YtanidaepfepppaaDoor.ArT
