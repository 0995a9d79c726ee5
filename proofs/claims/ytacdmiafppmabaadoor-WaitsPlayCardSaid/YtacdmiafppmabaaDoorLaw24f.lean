/- WaitsPlay: the walk. -/
import Derived.Test.YtacdmiafppmabaaDoorLaw24e
import Derived.Deep.DeepCutAuto
import Derived.Deep.CutBlock
namespace Go.Proofs.YtacdmiafppmabaaDoor
open Go.RowKit

set_option maxRecDepth 100000 in
set_option maxHeartbeats 4000000 in
theorem lawPlay24_any (v : Value) (acts : List (Int × Int × Int)) (w : World) (hv : SlcS 3 w v (acts.map aEl24)) (hbd : ∀ a ∈ acts, (-9223372036854775808 ≤ a.2.1 ∧ a.2.1 ≤ 9223372036854775807) ∧ (-9223372036854775808 ≤ a.2.2 ∧ a.2.2 ≤ 9223372036854775807)) (hT : TabAt w) :
    Calls Tryd.prog 4 #[v] w fun e w' => e = .returned (.bool true) ∧ Keeps w w' := by
  have hkn := fun (W : World) (hk : Keeps w W) => known24_any W (hT.keeps hk)
  have hnw := fun (W : World) => rNew_any W
  have hz := zero32
  obtain ⟨q, cap, rfl, hl, hc, _⟩ := SlcS.get hv
  rw [List.length_map] at hl ⊢
  have haI : (0 : Int) ≤ (acts.length : Int) := by omega
  obtain ⟨P, hP⟩ : ∃ P, P = w.heap.size := ⟨_, rfl⟩
  have hI := WI.start w
  rw [← hP] at hI
  replace hI := Lib.hid hI
  replace hP := Lib.hid hP
  replace hkn := Lib.hid hkn
  replace hnw := Lib.hid hnw
  replace hv := Lib.hid hv
  replace hbd := Lib.hid hbd
  go_enter Tryd.func4, Tryd.ntmps4
  go_upto_region 2 with (fail)
  rw [← hP.out]
  refine wp_gen (fun W => WI w P none 0 wnone W) hI.out ?_
  clear hI
  rintro W hI
  replace hI := Lib.hid hI
  go_wp2_with fail
  refine (hnw.out _).mono ?_
  rintro e W1 ⟨rfl, hk1⟩
  have hI1 := hI.out.kept hk1
  obtain ⟨M, hM⟩ : ∃ M, M = W1.heap.size := ⟨_, rfl⟩
  have hMb : Blk (W1.alloc (.cells zc32.toArray 38)) W1.heap.size 38 zc32 := Blk.new _ _ _
  have hI2 : WP w P none 0 M wnone ((W1.alloc (.cells zc32.toArray 38)).setRow M (wc wnone).toArray) :=
    WP.store (hI1.kept (Keeps.alloc _ _)) (by rw [hM]; exact hMb) (by rw [hM]; exact hI1.keeps.size) (fun hF => by have := hI1.at'.lt M hF; omega)
  replace hI2 := Lib.hid hI2
  replace hMb := Lib.hid hMb
  replace hM := Lib.hid hM
  clear hI hI1 hk1
  go_upto_region 3 with (refine storeW hMb.out (by simp) rfl _ _ rfl rfl rfl rfl ?_)
  rw [← hM.out]
  refine wp_gen (fun W => WP w P none 0 M wnone W) hI2.out ?_
  clear hI2 hM hMb
  rintro W hI
  replace hI := Lib.hid hI
  go_wp2_with fail
  go_loopw [5] (fun iv wr => ∃ (k : Nat) (bo : Option Nat) (f : WS), k ≤ acts.length ∧ k ≤ 60 ∧ iv = .int .i64 (k : Int) ∧ WP w P bo k M f wr) (fun iv _ => acts.length - (intOf iv).toNat)
  case atStart => exact ⟨0, none, _, Nat.zero_le _, by omega, rfl, hI.out⟩
  case round =>
    clear hI
    obtain ⟨k, bo, f, hk, hk60, rfl, hI⟩ := hrel
    obtain ⟨wo, hwo⟩ : ∃ wo : World, wo = wr := ⟨_, rfl⟩
    rw [← hwo] at hI ⊢
    clear hwo
    by_cases hgo : k < acts.length ∧ k < 60
    · obtain ⟨hlt, h60⟩ := hgo
      have hltI := Int.ofNat_lt.2 hlt
      have h60I : (k : Int) < 60 := by omega
      have hk0 : (0 : Int) ≤ (k : Int) := by omega
      obtain ⟨ab, aoff, rfl, y0, y1, y2⟩ := act_cells hv.out hI.wi.keeps k hlt
      have hbda := hbd.out _ (List.getElem_mem hlt)
      generalize acts[k] = a at *
      obtain ⟨ki, av, bv⟩ := a
      simp only at y0 y1 y2 hbda
      obtain ⟨hba, hbb⟩ := hbda
      obtain ⟨kd, hkd, ek⟩ := wrap_mod ki 4 (by decide)
      obtain ⟨A, hA⟩ : ∃ A, A = wo.heap.size := ⟨_, rfl⟩
      have hB := Blk.new wo 28 (aEl24 (ki, av, bv))
      rw [← hA] at hB
      have hI2 := hI.kept (Keeps.alloc wo (.cells (aEl24 (ki, av, bv)).toArray 28))
      have hAP : ¬ WF P bo A := fun hF => by have := hI.wi.at'.lt A hF; omega
      have hAM : A ≠ M := fun e => by have := hI.bm.lt; omega
      have hAw : w.heap.size ≤ A := by rw [hA]; exact hI.wi.keeps.size
      replace hA := Lib.hid hA
      replace hB := Lib.hid hB
      replace hI2 := Lib.hid hI2
      replace hba := Lib.hid hba
      replace hbb := Lib.hid hbb
      replace hAP := Lib.hid hAP
      replace hAM := Lib.hid hAM
      clear hI
      unfold aEl24 at hB hI2
      go_upto_region 7 with (fail)
      rw [← hA.out]
      refine wp_gen (fun W => WP w P bo k M f W ∧ Blk W A 28 [.int .i64 ki, .int .i64 av, .int .i64 bv]) ⟨hI2.out, hB.out⟩ ?_
      clear hI2 hB hA y0 y1 y2
      rintro W ⟨hI, hB⟩
      have a0 := hB.cell 0 (by simp)
      have a1 := hB.cell 1 (by simp)
      have a2 := hB.cell 2 (by simp)
      simp only [List.getElem_cons_zero, List.getElem_cons_succ] at a0 a1 a2
      replace hI := Lib.hid hI
      replace hB := Lib.hid hB
      go_upto_block 2 with fail
      go_cut [] (fun wx => ∃ (bo2 : Option Nat) (f2 : WS), WP w P bo2 (k + 1) M f2 wx ∧ Blk wx A 28 [.int .i64 ki, .int .i64 av, .int .i64 bv])
      case first =>
        have hkd4 : (kd = 0 ∨ kd = 1) ∨ kd = 2 ∨ kd = 3 := by omega
        rcases hkd4 with hw | rfl | rfl
        · -- Wait
          have hr := rWait_any hI.out.wi.ok av bv W
          generalize hF : waitF f av bv = F at *
          generalize hCo : waitC f av bv = Co at *
          replace hr := Lib.hid hr
          replace hF := Lib.hid hF
          replace hCo := Lib.hid hCo
          rcases hw with rfl | rfl
          all_goals
            as_aux_lemma =>
            go_wp2_with (refine loadW hI.out.bm rfl _ rfl rfl ?_)
            refine hr.out.mono ?_
            rintro e W2 ⟨rfl, hk2⟩
            have hC0 : Blk (W2.alloc (.cells zc32.toArray 38)) W2.heap.size 38 zc32 := Blk.new _ _ _
            have hCK : Keeps W2 ((W2.alloc (.cells zc32.toArray 38)).setRow W2.heap.size (wc F).toArray) := Chg.keeps (S := fun j => j = W2.heap.size) (Chg.setRow _ rfl) (Keeps.alloc _ _) (fun j hj => by omega)
            have hCB := hC0.setRow (wc F)
            obtain ⟨C, hC⟩ : ∃ C, C = W2.heap.size := ⟨_, rfl⟩
            have hCF : ¬ WF P bo C := fun hF => by have := (hI.out.kept hk2).wi.at'.lt C hF; omega
            have hCM : C ≠ M := fun e => by have := (hI.out.kept hk2).bm.lt; omega
            replace hC := Lib.hid hC
            replace hC0 := Lib.hid hC0
            replace hCK := Lib.hid hCK
            replace hCB := Lib.hid hCB
            replace hCF := Lib.hid hCF
            replace hCM := Lib.hid hCM
            clear hr a0 a1 a2
            go_upto_region 16 with (refine storeW hC0.out (by simp) rfl _ _ rfl rfl rfl rfl ?_)
            rw [← hC.out]
            refine wp_gen (fun X => Keeps W2 X ∧ Blk X C 38 (wc F)) (by rw [hC.out]; exact ⟨hCK.out, hCB.out⟩) ?_
            clear hC0 hCK hCB hC
            rintro X ⟨hKX, hCX⟩
            have hIX := (hI.out.kept hk2).kept hKX
            have hBX := (hB.out.keeps hk2).keeps hKX
            have hwt := hIX.wi.wait2 av bv (by unfold maxLen; omega)
            rw [hF.out, hCo.out] at hwt
            have a1 := hBX.cell 1 (by simp)
            have a2 := hBX.cell 2 (by simp)
            simp only [List.getElem_cons_zero, List.getElem_cons_succ] at a1 a2
            replace hwt := Lib.hid hwt
            replace hIX := Lib.hid hIX
            replace hBX := Lib.hid hBX
            replace hCX := Lib.hid hCX
            clear hKX hk2
            go_wp2_with fail
            refine hwt.out.mono ?_
            rintro e W5 ⟨rfl, bo5, hI5, hc5, hs5⟩
            have hC5 := hCX.out.chg hc5 hCF.out
            have hM5 := hIX.out.bm.chg hc5 hIX.out.nf
            have hB5 := (hBX.out.chg hc5 hAP.out).otherRow hAM.out (wc F).toArray
            have hP5 : WP w P bo5 (k + 1) M F (W5.setRow M (wc F).toArray) := WP.store hI5 hM5 hIX.out.new (fun hF => by
              rcases hs5 M hF with h | h
              · exact hIX.out.nf h
              · have := hIX.out.bm.lt; omega)
            replace hC5 := Lib.hid hC5
            replace hM5 := Lib.hid hM5
            replace hB5 := Lib.hid hB5
            replace hP5 := Lib.hid hP5
            clear hc5 hs5 hI5 hwt a1 a2
            go_wp2_with (first | (refine loadW hC5.out rfl _ rfl rfl ?_) | (refine storeW hM5.out (wc_len _) rfl _ _ rfl rfl rfl rfl ?_))
            go_meet
            exact ⟨_, _, hP5.out, hB5.out⟩
        · -- Wake
          as_aux_lemma =>
          have hr := rWake_any f av bv W
          have hst := such_two f av bv
          obtain ⟨L, hL⟩ : ∃ L, L = suchL f (fun c => (c : Int) == av || (c : Int) == bv) 32 := ⟨_, rfl⟩
          rw [← hL] at hr hst
          obtain ⟨F, hF⟩ : ∃ F, F = dropAll f L := ⟨_, rfl⟩
          rw [← hF] at hr
          replace hr := Lib.hid hr
          replace hst := Lib.hid hst
          replace hF := Lib.hid hF
          replace hL := Lib.hid hL
          go_wp2_with (refine loadW hI.out.bm rfl _ rfl rfl ?_)
          refine hr.out.mono ?_
          rintro e W2 ⟨v, rfl, hrow, hk2⟩
          have hv2 : Ints W2 v (castW L) := by have := slc_of_row hrow; rw [natInts_ints] at this; exact this
          have hvo := row_ownB hrow
          obtain ⟨vq, vcap, hvv, _⟩ := hv2.open
          have hC0 : Blk (W2.alloc (.cells zc32.toArray 38)) W2.heap.size 38 zc32 := Blk.new _ _ _
          have hCK : Keeps W2 ((W2.alloc (.cells zc32.toArray 38)).setRow W2.heap.size (wc F).toArray) := Chg.keeps (S := fun j => j = W2.heap.size) (Chg.setRow _ rfl) (Keeps.alloc _ _) (fun j hj => by omega)
          have hCB := hC0.setRow (wc F)
          obtain ⟨C, hC⟩ : ∃ C, C = W2.heap.size := ⟨_, rfl⟩
          have hCF : ¬ WF P bo C := fun hF => by have := (hI.out.kept hk2).wi.at'.lt C hF; omega
          replace hC := Lib.hid hC
          replace hC0 := Lib.hid hC0
          replace hCK := Lib.hid hCK
          replace hCB := Lib.hid hCB
          replace hCF := Lib.hid hCF
          replace hv2 := Lib.hid hv2
          replace hvo := Lib.hid hvo
          subst hvv
          clear hr a0 a1 a2 hrow
          go_upto_region 21 with (refine storeW hC0.out (by simp) rfl _ _ rfl rfl rfl rfl ?_)
          rw [← hC.out]
          generalize hvv : Value.slice vq (castW L).length vcap = v at *
          refine wp_gen (fun X => Keeps W2 X ∧ Blk X C 38 (wc F)) (by rw [hC.out]; exact ⟨hCK.out, hCB.out⟩) ?_
          clear hC0 hCK hCB hC
          rintro X ⟨hKX, hCX⟩
          have hka := Keeps.alloc X (.cells #[.int .i64 av, .int .i64 bv] 3)
          have hIX := ((hI.out.kept hk2).kept hKX).kept hka
          have hBX0 := (hB.out.keeps hk2).keeps hKX
          have hBX := hBX0.keeps hka
          have hvX := Slc.below (Slc.below hv2.out hKX) hka
          have hwk := hIX.wi.wake hT _ _ (ints_two X av bv)
          rw [hst.out, ← hF.out] at hwk
          have a1 := hBX0.cell 1 (by simp)
          have a2 := hBX0.cell 2 (by simp)
          simp only [List.getElem_cons_zero, List.getElem_cons_succ] at a1 a2
          replace hCX := Lib.hid (hCX.keeps hka)
          replace hwk := Lib.hid hwk
          replace hIX := Lib.hid hIX
          replace hBX := Lib.hid hBX
          replace hvX := Lib.hid hvX
          replace hvv := Lib.hid hvv
          clear hKX hBX0 hka
          go_wp2_with fail
          refine hwk.out.mono ?_
          rintro e W5 ⟨u, rfl, hu5, _, hI5, hc5⟩
          have hv5 : Ints W5 v (castW L) := Slc.chg hvX.out hc5 (fun b hb hF => by
            have h1 := hvo.out b hb
            have h2 := hI.out.wi.at'.lt b hF
            omega)
          have hs := same_any (castW L) (castW L) u v W5 hu5 hv5
          rw [sameL_self] at hs
          have hC5 := hCX.out.chg hc5 hCF.out
          have hM5 := hIX.out.bm.chg hc5 hIX.out.nf
          have hB5 := hBX.out.chg hc5 hAP.out
          obtain ⟨uq, ucap, huu, _⟩ := hu5.open
          subst huu
          replace hs := Lib.hid hs
          replace hC5 := Lib.hid hC5
          replace hM5 := Lib.hid hM5
          replace hB5 := Lib.hid hB5
          replace hI5 := Lib.hid hI5
          clear hc5 hwk a1 a2 hu5 hv5
          go_wp2_with fail
          refine hs.out.mono ?_
          rintro e W6 ⟨rfl, hk6⟩
          have hC6 := hC5.out.keeps hk6
          have hM6 := hM5.out.keeps hk6
          have hB6 := (hB5.out.keeps hk6).otherRow hAM.out (wc F).toArray
          have hP6 : WP w P bo (k + 1) M F (W6.setRow M (wc F).toArray) := WP.store ((hI5.out.kept hk6).mono (Nat.le_succ k)) hM6 hIX.out.new hIX.out.nf
          replace hC6 := Lib.hid hC6
          replace hM6 := Lib.hid hM6
          replace hB6 := Lib.hid hB6
          replace hP6 := Lib.hid hP6
          clear hk6
          go_wp2_with (first | (refine loadW hC6.out rfl _ rfl rfl ?_) | (refine storeW hM6.out (wc_len _) rfl _ _ rfl rfl rfl rfl ?_))
          go_meet
          exact ⟨_, _, hP6.out, hB6.out⟩
        · -- Drop
          as_aux_lemma =>
          cases hw : whomB f av with
          | true =>
            obtain ⟨x, c, rfl, hfx, hx32, hc32⟩ := whomB_true hI.out.wi.ok hw
            have hd := drop_yes hI.out.wi.at' x c hfx
            have hwi : wI f x = c := by unfold wI; rw [hfx]
            have hcell := hI.out.bm.cellK (wc_get f x hx32)
            rw [hwi] at hcell
            have hx0 : (0 : Int) ≤ (x : Int) := by omega
            have hxI : (x : Int) < 32 := by omega
            have hc0 : (0 : Int) ≤ (c : Int) := by omega
            replace hd := Lib.hid hd
            replace hwi := Lib.hid hwi
            replace hfx := Lib.hid hfx
            replace hw := Lib.hid hw
            go_wp2_with fail
            refine hd.out.mono ?_
            rintro e W5 ⟨rfl, hA5, hc5⟩
            have hI5 : WI w P bo k (updW f x none) W5 := hI.out.wi.chg hA5 hc5 (fun k hk => .inl hk)
            have hM5 := hI.out.bm.chg hc5 hI.out.nf
            have hB5 := hB.out.chg hc5 hAP.out
            have b1 := hB5.cell 1 (by simp)
            simp only [List.getElem_cons_zero, List.getElem_cons_succ] at b1
            have hP5 := (WP.setCell hI5 hM5 hx32 hI.out.new hI.out.nf).up
            have hB6 := hB5.other hAM.out x (.int .i64 (-1))
            have hcell5 := hM5.cellK (wc_get f x hx32)
            have hfr5 := hM5.frozen x
            replace hP5 := Lib.hid hP5
            replace hB6 := Lib.hid hB6
            clear hA5 hc5 hI5 hM5 hB5 hd hcell a0 a1 a2
            go_wp2_with fail
            go_meet
            exact ⟨_, _, hP5.out, hB6.out⟩
          | false =>
            have hd := drop_no hI.out.wi.at' av hba.out hw
            have hcase := whomB_false hw
            have hP5 := hI.out.up
            replace hP5 := Lib.hid hP5
            replace hd := Lib.hid hd
            replace hw := Lib.hid hw
            rcases hcase with h1 | h1 | ⟨x, rfl, hx32, hfx⟩
            · have h1' : ¬ 0 ≤ av := by omega
              go_wp2_with fail
              refine hd.out.mono ?_
              rintro e W5 ⟨rfl, rfl⟩
              go_wp2_with fail
              go_meet
              exact ⟨_, _, hP5.out, hB.out⟩
            · have h1' : 0 ≤ av := by omega
              have h1'' : ¬ av < 32 := by omega
              go_wp2_with fail
              refine hd.out.mono ?_
              rintro e W5 ⟨rfl, rfl⟩
              go_wp2_with fail
              go_meet
              exact ⟨_, _, hP5.out, hB.out⟩
            · have hwi : wI f x = -1 := by unfold wI; rw [hfx]
              have hcell := hI.out.bm.cellK (wc_get f x hx32)
              rw [hwi] at hcell
              have hx0 : (0 : Int) ≤ (x : Int) := by omega
              have hxI : (x : Int) < 32 := by omega
              replace hwi := Lib.hid hwi
              replace hfx := Lib.hid hfx
              go_wp2_with fail
              refine hd.out.mono ?_
              rintro e W5 ⟨rfl, rfl⟩
              go_wp2_with fail
              go_meet
              exact ⟨_, _, hP5.out, hB.out⟩
      case rest =>
        as_aux_lemma =>
        obtain ⟨bo2, f2, hI2, hB2⟩ := hcut
        obtain ⟨W0, hW0⟩ : ∃ W0, W0 = wc := ⟨_, rfl⟩
        rw [← hW0] at hI2 hB2 ⊢
        clear hW0 hI hB a0 a1 a2 wc
        have b1 := hB2.cell 1 (by simp)
        simp only [List.getElem_cons_zero, List.getElem_cons_succ] at b1
        have hfo := for_any hI2.wi.at' av hba.out
        have hrc := fun W => rChain_any hI2.wi.ok av W
        have hpos := @chainI_pos f2 av
        have hlen := chainI_len hI2.wi.ok av
        obtain ⟨L, hL⟩ : ∃ L, L = chainI f2 av := ⟨_, rfl⟩
        rw [← hL] at hrc hpos hlen
        have hcase : (whomB f2 av = false ∧ whomV f2 av = 0 ∧ L.length = 0) ∨ (whomB f2 av = true ∧ 0 < L.length ∧ ∃ x c : Nat, av = x ∧ x < 32 ∧ whomV f2 av = c ∧ (wc f2)[x]? = some (.int .i64 (c : Int))) := by
          cases hw : whomB f2 av with
          | false =>
            refine .inl ⟨rfl, ?_, ?_⟩
            · unfold whomB at hw
              unfold whomV
              cases hx : whom f2 av with
              | none => rfl
              | some c => rw [hx] at hw; cases hw
            · rw [hw] at hpos
              have : ¬ 0 < L.length := fun h => by cases hpos.1 h
              omega
          | true =>
            obtain ⟨x, c, hx, hfx, hx32, hc32⟩ := whomB_true hI2.wi.ok hw
            refine .inr ⟨rfl, hpos.2 hw, x, c, hx, hx32, ?_, ?_⟩
            · rw [hx]; exact (whom_some hfx).1
            · rw [wc_get f2 x hx32]; unfold wI; rw [hfx]
        replace hI2 := Lib.hid hI2
        replace hB2 := Lib.hid hB2
        replace hrc := Lib.hid hrc
        replace hL := Lib.hid hL
        clear hpos
        generalize whomB f2 av = T at *
        generalize whomV f2 av = V at *
        replace hfo := Lib.hid hfo
        go_wp2_with fail
        refine hfo.out.mono ?_
        rintro e w' ⟨rfl, rfl⟩
        go_upto_region 25 with (fail)
        go_cut [130] (fun x wx => x = .bool false ∧ Keeps W0 wx)
        case first =>
          rcases hcase with ⟨rfl, rfl, hl0⟩ | ⟨rfl, hl0, x, c, rfl, hx32, rfl, hget⟩
          · go_wp2_with (refine loadW hI2.out.bm rfl _ rfl rfl ?_)
            refine (hrc.out _).mono ?_
            rintro e W1 ⟨v, rfl, hrow, hk1⟩
            obtain ⟨vq, vcap, hvv, _⟩ := slc_of_row hrow
            rw [natInts_len, hl0] at hvv
            subst hvv
            replace hk1 := Lib.hid hk1
            clear hrow hl0
            go_wp2_with fail
            go_meet
            exact ⟨rfl, hk1.out⟩
          · have hx0 : (0 : Int) ≤ (x : Int) := by omega
            have hxI : (x : Int) < 32 := by omega
            have hlI : (0 : Int) < (L.length : Int) := by omega
            replace hget := Lib.hid hget
            go_wp2_with (refine loadW hI2.out.bm rfl _ rfl rfl ?_)
            refine (hrc.out _).mono ?_
            rintro e W1 ⟨v, rfl, hrow, hk1⟩
            obtain ⟨vq, vcap, hvv, _⟩ := slc_of_row hrow
            rw [natInts_len] at hvv
            subst hvv
            have b2 := (hB2.out.keeps hk1).cell 1 (by simp)
            simp only [List.getElem_cons_zero, List.getElem_cons_succ] at b2
            have hcell := (hI2.out.bm.keeps hk1).cellK hget.out
            replace hk1 := Lib.hid hk1
            clear hrow b1
            go_wp2_with fail
            go_meet
            exact ⟨rfl, hk1.out⟩
        case rest =>
          obtain ⟨rfl, hk1⟩ := hcut
          obtain ⟨W1, hW1⟩ : ∃ W1, W1 = wc := ⟨_, rfl⟩
          rw [← hW1] at hk1 ⊢
          clear hW1 hcase hfo b1 hlen wc
          have hI3 := hI2.out.kept hk1
          have hB3 := hB2.out.keeps hk1
          have c1 := hB3.cell 1 (by simp)
          have c2 := hB3.cell 2 (by simp)
          simp only [List.getElem_cons_zero, List.getElem_cons_succ] at c1 c2
          have hx1 := After.cell c1
          have hx2 := After.cell c2
          have hch : ∀ W, Keeps W1 W → Calls Tryd.prog 8 #[.pointer (some ⟨P, 0, none⟩), .int .i64 av] W fun e W' => ∃ v, e = .returned v ∧ Ints W' v (castW L) ∧ (∀ b, v.ownBlock = some b → W.heap.size ≤ b) ∧ Keeps W W' := fun W hk => by rw [hL.out]; exact (hI3.kept hk).wi.chain av hba.out
          have hby : ∀ W, Keeps W1 W → Calls Tryd.prog 18 #[.pointer (some ⟨P, 0, none⟩), .int .i64 bv] W fun e w' => e = .returned (.int .u64 (suchW f2 (fun c => (c : Int) == bv) 32 : Nat)) ∧ Keeps W w' := fun W hk => by_any (hI3.kept hk).wi.at' bv
          have hrb : ∀ W, Calls Tryd.prog 19 #[.agg (wc f2).toArray, .int .i64 bv, .bool false] W fun e w' => e = .returned (.int .u64 (suchW f2 (fun c => (c : Int) == bv) 32 : Nat)) ∧ Keeps W w' := fun W => by
            have := rBy_any f2 bv false W
            rwa [such_same] at this
          have hwt : ∀ W, Keeps W1 W → Calls Tryd.prog 20 #[.pointer (some ⟨P, 0, none⟩)] W fun e w' => e = .returned (.int .u64 (suchW f2 (fun _ => true) 32 : Nat)) ∧ Keeps W w' := fun W hk => waiting_any (hI3.kept hk).wi.at'
          have hra : ∀ W, Calls Tryd.prog 19 #[.agg (wc f2).toArray, .int .i64 0, .bool true] W fun e w' => e = .returned (.int .u64 (suchW f2 (fun _ => true) 32 : Nat)) ∧ Keeps W w' := fun W => by
            have := rBy_any f2 0 true W
            rwa [such_all] at this
          have hrow : ∀ w', (∃ x : After W1, w' = x.now) → Blk w' M 38 (wc f2) := by rintro _ ⟨x, rfl⟩; exact hI3.bm.keeps x.keeps
          generalize suchW f2 (fun c => (c : Int) == bv) 32 = m1 at *
          generalize suchW f2 (fun _ => true) 32 = m2 at *
          have hfin : ∀ W, Keeps W1 W → ∃ bo f, WP w P bo (k + 1) M f W := fun W hk => ⟨_, _, hI3.kept hk⟩
          replace hch := Lib.hid hch
          replace hby := Lib.hid hby
          replace hrb := Lib.hid hrb
          replace hwt := Lib.hid hwt
          replace hra := Lib.hid hra
          replace hrow := Lib.hid hrow
          replace hfin := Lib.hid hfin
          clear hI2 hB2 hk1 hI3 hB3 c1 c2 hL
          go_wp2_with fail
          refine region_seqA [2, 6, 7, 9, 12, 16, 19, 20, 22] (by kernel_rfl) (by kernel_rfl) ?_
          rintro ⟨X, hkX⟩
          refine wpSeq_reads 2 (by rfl) ?_
          simp only [List.take_succ_cons, List.take_zero, List.drop_succ_cons, List.drop_zero]
          iterate 2 go_big_quiet_step (fail)
          refine wpQuiet_nil ?_
          refine wpSeq_call (by rfl) ?_
          go_wp2_with fail
          refine (hch.out X hkX).mono ?_
          rintro e X1 ⟨v1, rfl, hv1, _, hk1⟩
          have hkX1 := Keeps.trans hkX hk1
          replace hkX1 := Lib.hid hkX1
          replace hv1 := Lib.hid hv1
          clear hk1
          go_wp2_with fail
          refine seq_on hkX1.out ?_
          refine wpSeq_reads 3 (by rfl) ?_
          simp only [List.take_succ_cons, List.take_zero, List.drop_succ_cons, List.drop_zero]
          refine quietRow hrow.out rfl 38 _ rfl rfl _ Tryd.underlying38 rfl 32 size32 (wc_len _) ?_
          go_frame
          iterate 2 go_big_quiet_step (fail)
          refine wpQuiet_nil ?_
          refine wpSeq_call (by rfl) ?_
          go_wp2_with fail
          refine (hrc.out X1).mono ?_
          rintro e X2 ⟨v2, rfl, hrow2, hk2⟩
          have hv2 : Ints X2 v2 (castW L) := by have := slc_of_row hrow2; rw [natInts_ints] at this; exact this
          have hs := same_any (castW L) (castW L) v1 v2 X2 (Slc.below hv1.out hk2) hv2
          rw [sameL_self] at hs
          have hkX2 := Keeps.trans hkX1.out hk2
          replace hkX2 := Lib.hid hkX2
          replace hs := Lib.hid hs
          clear hk2 hrow2 hv2 hv1 hkX1
          go_wp2_with fail
          refine seq_on hkX2.out ?_
          refine wpSeq_call (by rfl) ?_
          go_wp2_with fail
          refine hs.out.mono ?_
          rintro e X3 ⟨rfl, hk3⟩
          have hkX3 := Keeps.trans hkX2.out hk3
          replace hkX3 := Lib.hid hkX3
          clear hk3 hkX2 hs
          go_wp2_with fail
          refine seq_on hkX3.out ?_
          refine wpSeq_reads 1 (by rfl) ?_
          simp only [List.take_succ_cons, List.take_zero, List.drop_succ_cons, List.drop_zero]
          iterate 1 go_big_quiet_step (fail)
          refine wpQuiet_nil ?_
          refine wpSeq_call (by rfl) ?_
          go_wp2_with fail
          refine seq_on hkX3.out ?_
          refine wpSeq_reads 2 (by rfl) ?_
          simp only [List.take_succ_cons, List.take_zero, List.drop_succ_cons, List.drop_zero]
          iterate 2 go_big_quiet_step (fail)
          refine wpQuiet_nil ?_
          refine wpSeq_call (by rfl) ?_
          go_wp2_with fail
          refine (hby.out X3 hkX3.out).mono ?_
          rintro e X4 ⟨rfl, hk4⟩
          have hkX4 := Keeps.trans hkX3.out hk4
          replace hkX4 := Lib.hid hkX4
          clear hk4 hkX3
          go_wp2_with fail
          refine seq_on hkX4.out ?_
          refine wpSeq_reads 3 (by rfl) ?_
          simp only [List.take_succ_cons, List.take_zero, List.drop_succ_cons, List.drop_zero]
          refine quietRow hrow.out rfl 38 _ rfl rfl _ Tryd.underlying38 rfl 32 size32 (wc_len _) ?_
          go_frame
          iterate 2 go_big_quiet_step (fail)
          refine wpQuiet_nil ?_
          refine wpSeq_call (by rfl) ?_
          go_wp2_with fail
          refine (hrb.out X4).mono ?_
          rintro e X5 ⟨rfl, hk5⟩
          have hkX5 := Keeps.trans hkX4.out hk5
          replace hkX5 := Lib.hid hkX5
          clear hk5 hkX4
          go_wp2_with fail
          refine seq_on hkX5.out ?_
          refine wpSeq_reads 2 (by rfl) ?_
          simp only [List.take_succ_cons, List.take_zero, List.drop_succ_cons, List.drop_zero]
          iterate 2 go_big_quiet_step (fail)
          refine wpQuiet_nil ?_
          refine wpSeq_call (by rfl) ?_
          go_wp2_with fail
          refine seq_on hkX5.out ?_
          refine wpSeq_call (by rfl) ?_
          go_wp2_with fail
          refine (hwt.out X5 hkX5.out).mono ?_
          rintro e X6 ⟨rfl, hk6⟩
          have hkX6 := Keeps.trans hkX5.out hk6
          replace hkX6 := Lib.hid hkX6
          clear hk6 hkX5
          go_wp2_with fail
          refine seq_on hkX6.out ?_
          refine wpSeq_reads 1 (by rfl) ?_
          simp only [List.take_succ_cons, List.take_zero, List.drop_succ_cons, List.drop_zero]
          refine quietRow hrow.out rfl 38 _ rfl rfl _ Tryd.underlying38 rfl 32 size32 (wc_len _) ?_
          go_frame
          refine wpQuiet_nil ?_
          refine wpSeq_call (by rfl) ?_
          go_wp2_with fail
          refine (hra.out X6).mono ?_
          rintro e X7 ⟨rfl, hk7⟩
          have hkX7 := Keeps.trans hkX6.out hk7
          replace hkX7 := Lib.hid hkX7
          clear hk7 hkX6
          go_wp2_with fail
          refine seq_on hkX7.out ?_
          refine wpSeq_reads 2 (by rfl) ?_
          simp only [List.take_succ_cons, List.take_zero, List.drop_succ_cons, List.drop_zero]
          iterate 2 go_big_quiet_step (fail)
          refine wpQuiet_nil ?_
          refine wpSeq_nil ?_
          obtain ⟨bo9, f9, hP9⟩ := hfin.out X7 hkX7.out
          replace hP9 := Lib.hid hP9
          clear hx1 hx2
          go_wp2_with fail
          go_roundw
          case rel => exact ⟨k + 1, bo9, f9, by omega, by omega, by go_num, hP9.out⟩
          case measure => (simp [intOf]; try omega)
    · have hk4 := hkn.out wo hI.wi.keeps
      have hend : (k : Int) = (acts.length : Int) ∨ (k : Int) = 60 := by omega
      replace hI := Lib.hid hI
      replace hk4 := Lib.hid hk4
      rcases hend with h1 | h1
      · have hx : ¬ (k : Int) < (acts.length : Int) := by omega
        replace h1 := Lib.hid h1
        go_wp2_with fail
        refine hk4.out.mono ?_
        rintro e w2 ⟨rfl, hK2⟩
        replace hK2 := Lib.hid hK2
        go_wp2_with fail
        go_ret
        exact ⟨rfl, Keeps.trans hI.out.wi.keeps hK2.out⟩
      · have hx : ¬ (k : Int) < 60 := by omega
        replace h1 := Lib.hid h1
        by_cases hy : (k : Int) < (acts.length : Int)
        all_goals
          go_wp2_with fail
          refine hk4.out.mono ?_
          rintro e w2 ⟨rfl, hK2⟩
          replace hK2 := Lib.hid hK2
          go_wp2_with fail
          go_ret
          exact ⟨rfl, Keeps.trans hI.out.wi.keeps hK2.out⟩
end Go.Proofs.YtacdmiafppmabaaDoor
