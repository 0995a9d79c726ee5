/- Arenas of integers: Put where there is room. -/
import Derived.Test.YtanidaepfepppaaDoorAr6I
import Derived.Deep.CutBlock
namespace Go.Proofs.YtanidaepfepppaaDoor.ArI
open Go.RowKit Go.Proofs.YtanidaepfepppaaDoor

set_option maxRecDepth 100000 in
set_option maxHeartbeats 4000000 in
theorem put_ok {w : World} {p b : Nat} {l : List (Slot El)} (h : ArenaAt w p b l) (hT : TabAt w) (i : Nat) (hn : openAt l 0 = some i) (x : El) :
    Calls Tryd.prog 15 #[.pointer (some ⟨p, 0, none⟩), .int .i64 x] w fun e w' => e = .returned (.tuple #[.agg (hEl ((i : Int), (((l[i]?).map (·.gen)).getD 0 : Nat))).toArray, .int .i64 0]) ∧ ArenaAt w' p b (putL l x) ∧ Chg (fun k => k = p ∨ k = b) w w' := by
  obtain ⟨_, hi, ho, hbef⟩ := openAt_some hn
  simp only [Nat.sub_zero] at hi ho hbef
  have hl64 := h.hi
  have hbit : ∀ j, (freeM l).testBit j = ((l[j]?).map (·.open)).getD false := fun j => by
    unfold freeM; rw [testBit_wordB]; simp [List.getD]
  obtain ⟨e1, e2⟩ := next0_yes (freeM l) i (by omega) (by rw [hbit, List.getElem?_eq_getElem hi]; exact ho) (fun j hj => by rw [hbit, List.getElem?_eq_getElem (by omega)]; exact hbef j hj)
  have hnx := fun (W : World) (hk : Keeps w W) => next_any (freeM l) 0 W h.freeLt (hT.keeps hk)
  rw [e1, e2] at hnx
  have hgen := h.ok.gen _ (List.getElem_mem hi)
  have ho' : l[i].used = false ∧ l[i].gen ≤ 255 := by simpa [Slot.open] using ho
  have hput : putL l x = l.set i ⟨l[i].gen, true, x⟩ := by unfold putL; rw [hn]; exact modify_set l i hi _
  have hU : usedM (l.set i ⟨l[i].gen, true, x⟩) = withN (usedM l) [(i : Int)] := by rw [usedM_set l hl64 i hi]; rfl
  have hF : freeM (l.set i ⟨l[i].gen, true, x⟩) = withoutN (freeM l) [(i : Int)] := by rw [freeM_set l hl64 i hi]; rfl
  rw [hput, List.getElem?_eq_getElem hi, Option.map_some, Option.getD_some]
  have hfin := fun (W : World) => h.setAt (w' := W) i hi ⟨l[i].gen, true, x⟩ hgen (fun _ => ho'.2)
  rw [hU, hF] at hfin
  have hw := fun (W : World) (g : Nat) (hc : W.cell? ⟨g, 0, none⟩ = some (.int .i64 (i : Int))) => with_any (usedM l) (.slice (some ⟨g, 0, none⟩) 1 1) [(i : Int)] W h.usedLt (ints_cell hc)
  have hwo := fun (W : World) (g : Nat) (hc : W.cell? ⟨g, 0, none⟩ = some (.int .i64 (i : Int))) => without_any (freeM l) (.slice (some ⟨g, 0, none⟩) 1 1) [(i : Int)] W h.freeLt (ints_cell hc)
  have hall := fun (W : World) (hk : Keeps w W) => h.keeps hk
  have hlt := h.hdr.lt
  have hblt := h.buf.lt
  have hne := h.ne
  have hslot := fun (W : World) (hk : Blk W b 87 (arEls l).flatten) (j : Nat) (hj : j < 3) => flat_get (arEls_size l) i j (by rw [arEls_len]; exact hi) hj
  have hsl : ∀ (j : Nat) (hj : j < 3), (arEls l).flatten[i * 3 + j]? = some ((slotEl i l[i]).getD j undef) := fun j hj => by
    have h1 := flat_get (arEls_size l) i j (by rw [arEls_len]; exact hi) hj
    rwa [arEls_get l i hi] at h1
  have hflat : ((arEls l).set i (slotEl i ⟨l[i].gen, true, x⟩)).flatten = (arEls l).flatten.set (i * 3 + 2) (.int .i64 x) := by
    rw [flat_set (arEls_size l) i 2 _ (by rw [arEls_len]; exact hi) (by decide), arEls_get l i hi]; rfl
  rw [hflat] at hfin
  have hmin : ((min l[i].gen 255 : Nat) : Int) = (l[i].gen : Int) := by have := ho'.2; omega
  have s0 := hsl 0 (by decide)
  have s1 := hsl 1 (by decide)
  have s2 := hsl 2 (by decide)
  skip
  simp only [slotEl, xCells, hmin, Nat.add_zero, List.cons_append, List.nil_append, List.getD_cons_zero, List.getD_cons_succ] at s0 s1 s2
  generalize hG : l[i].gen = G at *
  generalize l[i].x = x0 at *
  generalize hUU : withN (usedM l) [(i : Int)] = U2 at *
  generalize hFF : withoutN (freeM l) [(i : Int)] = F2 at *
  generalize hfl : (arEls l).flatten = fl at *
  have hi0 : (0 : Int) ≤ (i : Int) := by omega
  have hi1 : (i : Int) < (l.length : Int) := by omega
  replace hnx := Lib.hid hnx
  replace hfin := Lib.hid hfin
  replace hw := Lib.hid hw
  replace hwo := Lib.hid hwo
  replace hall := Lib.hid hall
  replace hG := Lib.hid hG
  replace hUU := Lib.hid hUU
  replace hFF := Lib.hid hFF
  replace hfl := Lib.hid hfl
  replace s0 := Lib.hid s0
  replace s1 := Lib.hid s1
  replace s2 := Lib.hid s2
  clear h e1 e2 hbit hput hU hF hn hslot hsl hmin hflat ho' ho hbef hgen hT
  go_enter Tryd.func15, Tryd.ntmps15
  go_upto_region 1 with (fail)
  refine wp_gen (fun W => Blk W w.heap.size 34 (hEl (0, 0)) ∧ Keeps w W) ⟨Blk.at rfl rfl, Keeps.alloc _ _⟩ ?_
  rintro W ⟨hR, hK⟩
  have c2 := (hall.out W hK).c2
  have hnx2 := hnx.out W hK
  replace hnx2 := Lib.hid hnx2
  replace hR := Lib.hid hR
  replace hK := Lib.hid hK
  clear hnx
  go_wp2_with fail
  refine hnx2.out.mono ?_
  rintro e W2 ⟨rfl, hK2⟩
  have hR2 := hR.out.keeps hK2
  have hK3 := Keeps.trans hK.out hK2
  replace hR2 := Lib.hid hR2
  replace hK3 := Lib.hid hK3
  clear hR hK hK2 hnx2 c2
  go_upto_region 6 with (fail)
  have hA := hall.out W2 hK3.out
  have c1 := hA.c1
  have c2 := hA.c2
  have f1 := hA.hdr.frozen 1
  have f2 := hA.hdr.frozen 2
  have hlt2 := hA.hdr.lt
  replace hA := Lib.hid hA
  go_cut [] (fun wx => Blk wx p 85 [.slice (some ⟨b, 0, none⟩) l.length l.length, .int .u64 (U2 : Int), .int .u64 (F2 : Int)] ∧ Chg (· = p) W2 wx)
  case first =>
    clear hall s0 s1 s2 hG hfl hUU hFF hi0 hi1 hl64 hlt hblt hne hfin hR2 hK3 hi
    go_region_with
      (first
        | (go_at_call 29; with_reducible refine (hw.out _ _ (by simp)).mono ?_; rintro e w' ⟨rfl, rfl⟩)
        | (go_at_call 30; with_reducible refine (hwo.out _ _ (by simp)).mono ?_; rintro e w' ⟨rfl, rfl⟩))
    all_goals
      go_wp2_with fail
      go_meet
      exact ⟨((hA.out.hdr.set 1 _).set 2 _).keeps (Keeps.trans (Keeps.trans (Keeps.alloc _ _) (Keeps.alloc _ _)) (Keeps.drew _)), ((Chg.setCell (S := (· = p)) _ _ rfl).trans (Chg.setCell (S := (· = p)) _ _ rfl)).trans (Chg.of_keeps (Keeps.trans (Keeps.trans (Keeps.alloc _ _) (Keeps.alloc _ _)) (Keeps.drew _)))⟩
  case rest =>
    clear c1 c2 f1 f2 hlt2
    obtain ⟨hP, hC⟩ := hcut
    have hB := hA.out.buf.chg hC (by simpa using hne)
    have hR := hR2.out.chg hC (by omega)
    rw [hfl.out] at hB
    have hC3 := hK3.out
    have d0 := hP.cell 0 (by simp)
    simp only [List.getElem_cons_zero] at d0
    have b2 := hB.cellK s2.out
    have f2 := hB.frozen (i * 3 + 2)
    have hCC := (Chg.of_keeps (S := fun k => k = p ∨ k = b) hK3.out).trans (hC.mono fun k _ h => .inl h)
    have hRlt : w.heap.size ≠ b := by omega
    have hRp : w.heap.size ≠ p := by omega
    replace hP := Lib.hid hP
    replace hB := Lib.hid hB
    replace hR := Lib.hid hR
    replace hCC := Lib.hid hCC
    clear hC hA hR2 hK3 hC3 hw hwo hall
    go_upto_region 8 with (fail)
    refine wp_gen (fun W => Blk W p 85 [.slice (some ⟨b, 0, none⟩) l.length l.length, .int .u64 (U2 : Int), .int .u64 (F2 : Int)] ∧ Blk W b 87 (fl.set (i * 3 + 2) (.int .i64 x)) ∧ Blk W w.heap.size 34 (hEl (0, 0)) ∧ Chg (fun k => k = p ∨ k = b) w W) ⟨hP.out.other hne.symm _ _, hB.out.set _ _, hR.out.other hRlt _ _, hCC.out.trans (Chg.setCell _ _ (.inr rfl))⟩ ?_
    clear hP hB hR hCC d0 b2 f2
    rintro W4 ⟨hP, hB, hR, hCC⟩
    have d0 := hP.cell 0 (by simp)
    simp only [List.getElem_cons_zero] at d0
    have b0 := hB.cellK (getElem?_set_ne' s0.out (u := .int .i64 x) (show i * 3 + 2 ≠ i * 3 by omega))
    have b1 := hB.cellK (getElem?_set_ne' s1.out (u := .int .i64 x) (show i * 3 + 2 ≠ i * 3 + 1 by omega))
    have r0 := hR.cell 0 (by simp [hEl])
    have r1 := hR.cell 1 (by simp [hEl])
    have g0 := hR.frozen 0
    have g1 := hR.frozen 1
    simp only [hEl, List.getElem_cons_zero, List.getElem_cons_succ] at r0 r1
    have hA4 := hfin.out _ hP hB
    replace hA4 := Lib.hid hA4
    replace hR := Lib.hid hR
    replace hCC := Lib.hid hCC
    clear hP hB
    go_wp2_with fail
    have hAA : ArenaAt ((W4.setCell ⟨w.heap.size, 0, none⟩ (.int .i64 (i : Int))).setCell ⟨w.heap.size, 1, none⟩ (.int .i64 (G : Int))) p b (l.set i ⟨G, true, x⟩) :=
      ⟨(hA4.out.hdr.other hRp.symm _ _).other hRp.symm _ _, (hA4.out.buf.other hRlt.symm _ _).other hRlt.symm _ _, hA4.out.ne, hA4.out.lo, hA4.out.hi, hA4.out.ok⟩
    exact bodyPost_ret (results_row_slot (cs := hEl ((i : Int), (G : Int))) rfl _ ((hR.out.set 0 _).set 1 _) rfl _ Tryd.underlying34 rfl 2 sizeH rfl) rfl ⟨rfl, hAA, (hCC.out.newCell (Nat.le_refl _) _ _).newCell (Nat.le_refl _) _ _⟩
end Go.Proofs.YtanidaepfepppaaDoor.ArI
