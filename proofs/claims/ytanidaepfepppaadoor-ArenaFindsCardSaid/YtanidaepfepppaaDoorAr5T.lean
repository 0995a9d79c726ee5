/- Arenas of things: Put where there is room. -/
import Derived.Test.YtanidaepfepppaaDoorAr6T
import Derived.Deep.CutBlock
namespace Go.Proofs.YtanidaepfepppaaDoor.ArT
open Go.RowKit Go.Proofs.YtanidaepfepppaaDoor

set_option maxRecDepth 100000 in
set_option maxHeartbeats 4000000 in
theorem put_ok {w : World} {p b : Nat} {l : List (Slot El)} (h : ArenaAt w p b l) (hT : TabAt w) (i : Nat) (hn : openAt l 0 = some i) (x : El) :
    Calls Tryd.prog 9 #[.pointer (some ⟨p, 0, none⟩), .agg #[.int .i64 x.1, .string x.2]] w fun e w' => e = .returned (.tuple #[.agg (hEl ((i : Int), (((l[i]?).map (·.gen)).getD 0 : Nat))).toArray, .int .i64 0]) ∧ ArenaAt w' p b (putL l x) ∧ Chg (fun k => k = p ∨ k = b) w w' := by
  obtain ⟨_, hi, ho, hbef⟩ := openAt_some hn
  simp only [Nat.sub_zero] at hi ho hbef
  have hl64 := h.hi
  have hbit : ∀ j, (freeM l).testBit j = ((l[j]?).map (·.open)).getD false := fun j => by
    unfold freeM; rw [testBit_wordB]; simp [List.getD]
  obtain ⟨e1, e2⟩ := next0_yes (freeM l) i (by omega) (by rw [hbit, List.getElem?_eq_getElem hi]; exact ho) (fun j hj => by rw [hbit, List.getElem?_eq_getElem (by omega)]; exact hbef j hj)
  have hnx := fun (W : World) (hk : Keeps w W) => next_any (freeM l) 0 W h.freeLt (hT.keeps hk)
  rw [e1, e2] at hnx
  have hgen := h.ok.gen _ (List.getElem_mem hi)
  have ho' : l[i].used = false ∧ l[i].gen ≤ 255 := by simpa [Slot.open] using ho
  have hput : putL l x = l.set i ⟨l[i].gen, true, x⟩ := by unfold putL; rw [hn]; exact modify_set l i hi _
  have hU : usedM (l.set i ⟨l[i].gen, true, x⟩) = withN (usedM l) [(i : Int)] := by rw [usedM_set l hl64 i hi]; rfl
  have hF : freeM (l.set i ⟨l[i].gen, true, x⟩) = withoutN (freeM l) [(i : Int)] := by rw [freeM_set l hl64 i hi]; rfl
  rw [hput, List.getElem?_eq_getElem hi, Option.map_some, Option.getD_some]
  have hfin := fun (W : World) => h.setAt (w' := W) i hi ⟨l[i].gen, true, x⟩ hgen (fun _ => ho'.2)
  rw [hU, hF] at hfin
  have hw := fun (W : World) (g : Nat) (hc : W.cell? ⟨g, 0, none⟩ = some (.int .i64 (i : Int))) => with_any (usedM l) (.slice (some ⟨g, 0, none⟩) 1 1) [(i : Int)] W h.usedLt (ints_cell hc)
  have hwo := fun (W : World) (g : Nat) (hc : W.cell? ⟨g, 0, none⟩ = some (.int .i64 (i : Int))) => without_any (freeM l) (.slice (some ⟨g, 0, none⟩) 1 1) [(i : Int)] W h.freeLt (ints_cell hc)
  have hall := fun (W : World) (hk : Keeps w W) => h.keeps hk
  have hlt := h.hdr.lt
  have hblt := h.buf.lt
  have hne := h.ne
  have hslot := fun (W : World) (hk : Blk W b 75 (arEls l).flatten) (j : Nat) (hj : j < 4) => flat_get (arEls_size l) i j (by rw [arEls_len]; exact hi) hj
  have hsl : ∀ (j : Nat) (hj : j < 4), (arEls l).flatten[i * 4 + j]? = some ((slotEl i l[i]).getD j undef) := fun j hj => by
    have h1 := flat_get (arEls_size l) i j (by rw [arEls_len]; exact hi) hj
    rwa [arEls_get l i hi] at h1
  have hflat : ((arEls l).set i (slotEl i ⟨l[i].gen, true, x⟩)).flatten = ((arEls l).flatten.set (i * 4 + 2) (.int .i64 x.1)).set (i * 4 + 3) (.string x.2) := by
    rw [flat_set2 (arEls_size l) i 2 3 _ _ (by rw [arEls_len]; exact hi) (by decide) (by decide), arEls_get l i hi]; rfl
  rw [hflat] at hfin
  have hmin : ((min l[i].gen 255 : Nat) : Int) = (l[i].gen : Int) := by have := ho'.2; omega
  have s0 := hsl 0 (by decide)
  have s1 := hsl 1 (by decide)
  have s2 := hsl 2 (by decide)
  have s3 := hsl 3 (by decide)
  simp only [slotEl, xCells, hmin, Nat.add_zero, List.cons_append, List.nil_append, List.getD_cons_zero, List.getD_cons_succ] at s0 s1 s2 s3
  generalize hG : l[i].gen = G at *
  generalize l[i].x = x0 at *
  generalize hUU : withN (usedM l) [(i : Int)] = U2 at *
  generalize hFF : withoutN (freeM l) [(i : Int)] = F2 at *
  generalize hfl : (arEls l).flatten = fl at *
  have hi0 : (0 : Int) ≤ (i : Int) := by omega
  have hi1 : (i : Int) < (l.length : Int) := by omega
  replace hnx := Lib.hid hnx
  replace hfin := Lib.hid hfin
  replace hw := Lib.hid hw
  replace hwo := Lib.hid hwo
  replace hall := Lib.hid hall
  replace hG := Lib.hid hG
  replace hUU := Lib.hid hUU
  replace hFF := Lib.hid hFF
  replace hfl := Lib.hid hfl
  replace s0 := Lib.hid s0
  replace s1 := Lib.hid s1
  replace s2 := Lib.hid s2
  replace s3 := Lib.hid s3
  clear h e1 e2 hbit hput hU hF hn hslot hsl hmin hflat ho' ho hbef hgen hT
  obtain ⟨xa, xs⟩ := x
  obtain ⟨R, eR⟩ : ∃ R, R = w.heap.size + 1 := ⟨_, rfl⟩
  obtain ⟨B, eB⟩ : ∃ B, B = w.heap.size := ⟨_, rfl⟩
  have hX0 : Blk ((w.alloc (.cells #[.int .i64 xa, .string xs] 29)).alloc (.cells #[.int .i64 0, .int .i64 0] 34)) B 29 [.int .i64 xa, .string xs] := (Blk.at eB rfl).alloc _
  have hR0 : Blk ((w.alloc (.cells #[.int .i64 xa, .string xs] 29)).alloc (.cells #[.int .i64 0, .int .i64 0] 34)) R 34 (hEl (0, 0)) := Blk.at (by rw [World.size_alloc, eR]) rfl
  have hRB : R ≠ B := by omega
  have hRn : w.heap.size ≤ R := by omega
  have hBp : B ≠ p := by omega
  have hBb : B ≠ b := by omega
  have hRlt : R ≠ b := by omega
  have hRp : R ≠ p := by omega
  replace hX0 := Lib.hid hX0
  replace hR0 := Lib.hid hR0
  replace eR := Lib.hid eR
  replace eB := Lib.hid eB
  replace hRn := Lib.hid hRn
  simp only at hfin
  go_enter Tryd.func9, Tryd.ntmps9
  go_upto_region 1 with (fail)
  rw [← eR.out, ← eB.out]
  refine wp_gen (fun W => Blk W R 34 (hEl (0, 0)) ∧ Blk W B 29 [.int .i64 xa, .string xs] ∧ Keeps w W) ⟨hR0.out, hX0.out, Keeps.trans (Keeps.alloc _ _) (Keeps.alloc _ _)⟩ ?_
  clear hR0 hX0 eR eB
  rintro W ⟨hR, hX, hK⟩
  replace hX := Lib.hid hX
  have c2 := (hall.out W hK).c2
  have hnx2 := hnx.out W hK
  replace hnx2 := Lib.hid hnx2
  replace hR := Lib.hid hR
  replace hK := Lib.hid hK
  clear hnx
  go_wp2_with fail
  refine hnx2.out.mono ?_
  rintro e W2 ⟨rfl, hK2⟩
  have hR2 := hR.out.keeps hK2
  have hX2 := hX.out.keeps hK2
  replace hX2 := Lib.hid hX2
  have hK3 := Keeps.trans hK.out hK2
  replace hR2 := Lib.hid hR2
  replace hK3 := Lib.hid hK3
  clear hR hX hK hK2 hnx2 c2
  go_upto_region 6 with (fail)
  have hA := hall.out W2 hK3.out
  have c1 := hA.c1
  have c2 := hA.c2
  have f1 := hA.hdr.frozen 1
  have f2 := hA.hdr.frozen 2
  have hlt2 := hA.hdr.lt
  replace hA := Lib.hid hA
  go_cut [] (fun wx => Blk wx p 73 [.slice (some ⟨b, 0, none⟩) l.length l.length, .int .u64 (U2 : Int), .int .u64 (F2 : Int)] ∧ Chg (· = p) W2 wx)
  case first =>
    clear hall s0 s1 s2 hG hfl hUU hFF hi0 hi1 hl64 hlt hblt hne hfin hR2 hX2 hK3 hi
    go_region_with
      (first
        | (go_at_call 29; with_reducible refine (hw.out _ _ (by simp)).mono ?_; rintro e w' ⟨rfl, rfl⟩)
        | (go_at_call 30; with_reducible refine (hwo.out _ _ (by simp)).mono ?_; rintro e w' ⟨rfl, rfl⟩))
    all_goals
      go_wp2_with fail
      go_meet
      exact ⟨((hA.out.hdr.set 1 _).set 2 _).keeps (Keeps.trans (Keeps.trans (Keeps.alloc _ _) (Keeps.alloc _ _)) (Keeps.drew _)), ((Chg.setCell (S := (· = p)) _ _ rfl).trans (Chg.setCell (S := (· = p)) _ _ rfl)).trans (Chg.of_keeps (Keeps.trans (Keeps.trans (Keeps.alloc _ _) (Keeps.alloc _ _)) (Keeps.drew _)))⟩
  case rest =>
    clear c1 c2 f1 f2 hlt2
    obtain ⟨hP, hC⟩ := hcut
    have hB := hA.out.buf.chg hC (by simpa using hne)
    have hR := hR2.out.chg hC hRp
    have hX := hX2.out.chg hC hBp
    rw [hfl.out] at hB
    have d0 := hP.cell 0 (by simp)
    simp only [List.getElem_cons_zero] at d0
    have x0c := hX.cell 0 (by simp)
    have x1c := hX.cell 1 (by simp)
    simp only [List.getElem_cons_zero, List.getElem_cons_succ] at x0c x1c
    have b2 := hB.cellK s2.out
    have b3 := hB.cellK s3.out
    have f2 := hB.frozen (i * 4 + 2)
    have f3 := hB.frozen (i * 4 + 3)
    have hCC := (Chg.of_keeps (S := fun k => k = p ∨ k = b) hK3.out).trans (hC.mono fun k _ h => .inl h)
    have hP1 := (hP.other hne.symm (i * 4 + 2) (.int .i64 xa)).other hne.symm (i * 4 + 3) (.string xs)
    have hB1 := (hB.set (i * 4 + 2) (.int .i64 xa)).set (i * 4 + 3) (.string xs)
    have hR1 := (hR.other hRlt (i * 4 + 2) (.int .i64 xa)).other hRlt (i * 4 + 3) (.string xs)
    have hC1 := hCC.trans ((Chg.setCell (S := fun k => k = p ∨ k = b) (w := wc) (i * 4 + 2) (.int .i64 xa) (.inr rfl)).trans (Chg.setCell (i * 4 + 3) (.string xs) (.inr rfl)))
    replace hP1 := Lib.hid hP1
    replace hB1 := Lib.hid hB1
    replace hR1 := Lib.hid hR1
    replace hC1 := Lib.hid hC1
    clear hC hA hR2 hX2 hK3 hw hwo hall hP hB hR hX hCC
    go_upto_region 7 with (fail)
    go_region
    go_upto_region 8 with (fail)
    refine wp_gen (fun W => Blk W p 73 [.slice (some ⟨b, 0, none⟩) l.length l.length, .int .u64 (U2 : Int), .int .u64 (F2 : Int)] ∧ Blk W b 75 ((fl.set (i * 4 + 2) (.int .i64 xa)).set (i * 4 + 3) (.string xs)) ∧ Blk W R 34 (hEl (0, 0)) ∧ Chg (fun k => k = p ∨ k = b) w W) ⟨hP1.out.keeps (Keeps.drew _), hB1.out.keeps (Keeps.drew _), hR1.out.keeps (Keeps.drew _), hC1.out.trans (Chg.of_keeps (Keeps.drew _))⟩ ?_
    clear hP1 hB1 hR1 hC1 d0 b2 b3 f2 f3 x0c x1c
    rintro W4 ⟨hP, hB, hR, hCC⟩
    have d0 := hP.cell 0 (by simp)
    simp only [List.getElem_cons_zero] at d0
    have b0 := hB.cellK (set23 s0.out (u := .int .i64 xa) (u' := .string xs) (show i * 4 + 2 ≠ i * 4 by omega) (show i * 4 + 3 ≠ i * 4 by omega))
    have b1 := hB.cellK (set23 s1.out (u := .int .i64 xa) (u' := .string xs) (show i * 4 + 2 ≠ i * 4 + 1 by omega) (show i * 4 + 3 ≠ i * 4 + 1 by omega))
    have r0 := hR.cell 0 (by simp [hEl])
    have r1 := hR.cell 1 (by simp [hEl])
    have g0 := hR.frozen 0
    have g1 := hR.frozen 1
    simp only [hEl, List.getElem_cons_zero, List.getElem_cons_succ] at r0 r1
    have hA4 := hfin.out _ hP hB
    replace hA4 := Lib.hid hA4
    replace hR := Lib.hid hR
    replace hCC := Lib.hid hCC
    clear hP hB
    go_wp2_with fail
    have hAA : ArenaAt ((W4.setCell ⟨R, 0, none⟩ (.int .i64 (i : Int))).setCell ⟨R, 1, none⟩ (.int .i64 (G : Int))) p b (l.set i ⟨G, true, (xa, xs)⟩) :=
      ⟨(hA4.out.hdr.other hRp.symm _ _).other hRp.symm _ _, (hA4.out.buf.other hRlt.symm _ _).other hRlt.symm _ _, hA4.out.ne, hA4.out.lo, hA4.out.hi, hA4.out.ok⟩
    exact bodyPost_ret (results_row_slot (cs := hEl ((i : Int), (G : Int))) rfl _ ((hR.out.set 0 _).set 1 _) rfl _ Tryd.underlying34 rfl 2 sizeH rfl) rfl ⟨rfl, hAA, (hCC.out.newCell hRn.out _ _).newCell hRn.out _ _⟩
end Go.Proofs.YtanidaepfepppaaDoor.ArT
