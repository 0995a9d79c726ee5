/- The document's answer for works: Begin: the walk. -/
import Derived.Test.YtcggbfpangnllaaRef27e
import Derived.Test.YtcggbfpangnllaaQuietRow
import Derived.Test.YtcggbfpangnllaaSeqC
namespace Go.Proofs.Ytcggbfpangnllaa
open Go.RowKit i64

section
variable {w W W' : World} {n : Nat} {vq vr va : Value} {on : Nat → Int} {sh : Nat → Bool} {pr : Nat → Int} {s : WS} {Z : Nat → Prop}
set_option maxRecDepth 100000 in
set_option maxHeartbeats 4000000 in
theorem rbegin27_any (h : RW Z w vq vr va s) (hZ : ∀ b, Z b → b < w.heap.size) (hQ : s.Q.length ≤ 10000) (hR : s.Rn.length ≤ 10000) (hon : ∀ c, c < 32 → 0 ≤ s.on c ∧ s.on c ≤ 64) (c x : Int) (hb2 : busyR s.on c ≤ 2)
    (hid : (begM n s.Q s.Rn c x).2.2 = 0 → 0 ≤ (begM n s.Q s.Rn c x).2.1 ∧ (begM n s.Q s.Rn c x).2.1 < 256) :
    Calls Try.prog 47 #[rk n vq vr va s.on, .int .i64 c, .int .i64 x] w fun e w' => ∃ uq ur ua, e = .returned (.tuple #[rk n uq ur ua (beginW n s c x).1.on, .int .i64 (beginW n s c x).2.1, .int .i64 (beginW n s c x).2.2.1, .int .i64 (beginW n s c x).2.2.2]) ∧ RW Z w' uq ur ua (beginW n s c x).1 ∧ Keeps w w' := by
  obtain ⟨r, hr⟩ : ∃ r, r = beginW n s c x := ⟨_, rfl⟩
  rw [← hr]
  replace hr := Lib.hid hr
  replace hZ := Lib.hid hZ
  have hbu := fun W vq vr va => rbusy_any (w := W) (n := n) (vq := vq) (vr := vr) (va := va) hon c
  unfold rk at hbu
  replace hbu := Lib.hid hbu
  have hsz4 : ∀ c, c < 32 → ∀ vq vr va, (wkC n vq vr va s.on)[4 + c]? = some (.int .i64 (s.on c - 1)) := fun c hc vq vr va => wkC_on n vq vr va s.on c hc
  replace hsz4 := Lib.hid hsz4
  obtain ⟨vqp, vqk, hvq, -⟩ := h.pd.q.get
  obtain ⟨vrp, vrk, hvr, -⟩ := h.pd.r.get
  generalize s.Q.length = vqn at hvq
  generalize s.Rn.length = vrn at hvr
  subst hvq
  subst hvr
  obtain ⟨hq1, hr1, ha1⟩ := h.ones
  have hwl := wkC_len n (.slice vqp vqn vqk) (.slice vrp vrn vrk) va s.on
  have hone := wkC_one (n := n) (on := s.on) hq1 hr1 ha1
  replace hone := Lib.hid hone
  unfold rk
  have c0 : (wkC n (.slice vqp vqn vqk) (.slice vrp vrn vrk) va s.on)[0]? = some (.int .i64 (n : Int)) := rfl
  have c1 : (wkC n (.slice vqp vqn vqk) (.slice vrp vrn vrk) va s.on)[1]? = some (.slice vqp vqn vqk) := rfl
  have c2 : (wkC n (.slice vqp vqn vqk) (.slice vrp vrn vrk) va s.on)[2]? = some (.slice vrp vrn vrk) := rfl
  have c3 : (wkC n (.slice vqp vqn vqk) (.slice vrp vrn vrk) va s.on)[3]? = some va := rfl
  have cU := fun uq ur => (show (((wkC n (.slice vqp vqn vqk) (.slice vrp vrn vrk) va s.on).set 0 (.int .i64 (n : Int))).set 1 uq).set 2 ur = wkC n uq ur va s.on from rfl)
  generalize hcs : wkC n (.slice vqp vqn vqk) (.slice vrp vrn vrk) va s.on = cs at *
  replace c0 := Lib.hid c0
  replace c1 := Lib.hid c1
  replace c2 := Lib.hid c2
  replace c3 := Lib.hid c3
  replace cU := Lib.hid cU
  replace hcs := Lib.hid hcs
  go_enter Try.func47, Try.ntmps47
  go_upto_region 1 with (fail)
  obtain ⟨B, hB⟩ : ∃ B, B = w.heap.size := ⟨_, rfl⟩
  obtain ⟨R, hR⟩ : ∃ R, R = w.heap.size + 1 := ⟨_, rfl⟩
  refine wp_gen (fun W => Bx27 w B R cs W) (Bx27.start hwl hB hR) ?_
  rw [← hR, ← hB]
  clear hB hR
  rintro W hX
  have z0 := hX.b.cellK c0.out
  have z1 := hX.b.cellK c1.out
  have z2 := hX.b.cellK c2.out
  have z3 := hX.b.cellK c3.out
  have hP := hX.rw h
  by_cases hrg : c < 0 ∨ (n : Int) ≤ c ∨ x < 0 ∨ 31 < x
  · have hcase : c < 0 ∨ (¬ c < 0 ∧ (n : Int) ≤ c) ∨ (¬ c < 0 ∧ ¬ (n : Int) ≤ c ∧ x < 0) ∨ (¬ c < 0 ∧ ¬ (n : Int) ≤ c ∧ ¬ x < 0 ∧ 31 < x) := by omega
    have hfin := hX.out (cs2 := cs) hP
    have hr2 : r = (s, 0, 0, 2) := by rw [hr.out]; unfold beginW; rw [if_pos hrg]
    replace hfin := Lib.hid hfin
    replace hr2 := Lib.hid hr2
    replace hX := Lib.hid hX
    clear hP
    clear hrg hid hb2
    rcases hcase with h1 | ⟨h1, h2⟩ | ⟨h1, h2, h3⟩ | ⟨h1, h2, h3, h4⟩
    all_goals
      go_wp2_with (first | (refine loadW27 hX.out.b hwl rfl _ rfl rfl ?_) | (refine storeW27 hX.out.r hwl hone.out rfl _ _ rfl rfl rfl rfl ?_))
      exact bodyPost_ret (results_row_slots3 rfl _ hfin.out.1 rfl _ Try.underlying57 rfl 36 sizeW27 hwl) rfl ⟨_, _, _, by rw [hr2.out, hcs.out]; rfl, by rw [hr2.out]; exact hfin.out.2.1, hfin.out.2.2⟩
  · have h1 : ¬ c < 0 := by omega
    have h2 : ¬ (n : Int) ≤ c := by omega
    have h3 : ¬ x < 0 := by omega
    have h4 : ¬ 31 < x := by omega
    have hof := rof_any (n := n) (vq := (.slice vqp vqn vqk)) hP.pd.r x
    unfold pd at hof
    have hXs := fun W2 (hK : Keeps W W2) => hX.kept hK
    have hPs := fun W2 (hK : Keeps W W2) => hP.kept hK
    have hZW := hX.low hZ.out
    generalize lkO s.Rn x = zo at *
    replace hXs := Lib.hid hXs
    replace hPs := Lib.hid hPs
    replace hZW := Lib.hid hZW
    cases hl : lkOB s.Rn x with
    | true =>
      rw [hl] at hof
      have hr2 : r = (s, 0, 0, 5) := by rw [hr.out]; unfold beginW; rw [if_neg hrg, if_pos hl]
      replace hof := Lib.hid hof
      replace hr2 := Lib.hid hr2
      replace hl := Lib.hid hl
      clear hX hP hrg hid hb2
      go_wp2_with fail
      refine hof.out.mono ?_
      rintro e W2 ⟨rfl, hK2⟩
      have hX2 := hXs.out W2 hK2
      have hfin := hX2.out (cs2 := cs) (hPs.out W2 hK2)
      replace hX2 := Lib.hid hX2
      replace hfin := Lib.hid hfin
      clear hK2
      go_wp2_with (first | (refine loadW27 hX2.out.b hwl rfl _ rfl rfl ?_) | (refine storeW27 hX2.out.r hwl hone.out rfl _ _ rfl rfl rfl rfl ?_))
      exact bodyPost_ret (results_row_slots3 rfl _ hfin.out.1 rfl _ Try.underlying57 rfl 36 sizeW27 hwl) rfl ⟨_, _, _, by rw [hr2.out, hcs.out]; rfl, by rw [hr2.out]; exact hfin.out.2.1, hfin.out.2.2⟩
    | false =>
      rw [hl] at hof
      obtain ⟨b, hb⟩ : ∃ b, b = busyR s.on c := ⟨_, rfl⟩
      have hbw : busyW n s.on c = b := by rw [hb]; unfold busyW busyR; rw [if_neg (by omega), if_neg h1]
      replace hof := Lib.hid hof
      go_wp2_with fail
      refine hof.out.mono ?_
      rintro e W2 ⟨rfl, hK2⟩
      have hX2 := hXs.out W2 hK2
      have hP2 := hPs.out W2 hK2
      have hbu2 := hbu.out W2 (.slice vqp vqn vqk) (.slice vrp vrn vrk) va
      rw [hcs.out, ← hb] at hbu2
      have hXs2 := fun W3 (hK : Keeps W2 W3) => hX2.kept hK
      have hPs2 := fun W3 (hK : Keeps W2 W3) => hP2.kept hK
      replace hXs2 := Lib.hid hXs2
      replace hPs2 := Lib.hid hPs2
      have hZ2 := Lib.hid (hX2.low hZ.out)
      have hX2' := Lib.hid hX2
      have hbl2 : b ≤ 2 := by omega
      clear hX hP hXs hPs hof hX2 hP2 z0 z1 z2 z3
      replace hK2 := Lib.hid hK2
      have hfull : b = 2 ∨ (b = 0 ∨ b = 1) := by omega
      rcases hfull with hb22 | hb01
      · have hr2 : r = (s, 0, 0, 3) := by rw [hr.out]; unfold beginW; rw [if_neg hrg, if_neg (by rw [hl]; decide), if_pos (hbw.trans hb22)]
        rw [hb22, show ((2 : Nat) : Int) = 2 from rfl] at hbu2
        replace hbu2 := Lib.hid hbu2
        replace hr2 := Lib.hid hr2
        clear hrg hid hb2 hb hbw hb22
        go_wp2_with (first | (refine loadW27 hX2'.out.b hwl rfl _ rfl rfl ?_))
        refine hbu2.out.mono ?_
        rintro e W3 ⟨rfl, hK3⟩
        have hX3 := hXs2.out W3 hK3
        have hfin := hX3.out (cs2 := cs) (hPs2.out W3 hK3)
        replace hX3 := Lib.hid hX3
        replace hfin := Lib.hid hfin
        clear hK3
        go_wp2_with (first | (refine loadW27 hX3.out.b hwl rfl _ rfl rfl ?_) | (refine storeW27 hX3.out.r hwl hone.out rfl _ _ rfl rfl rfl rfl ?_))
        exact bodyPost_ret (results_row_slots3 rfl _ hfin.out.1 rfl _ Try.underlying57 rfl 36 sizeW27 hwl) rfl ⟨_, _, _, by rw [hr2.out, hcs.out]; rfl, by rw [hr2.out]; exact hfin.out.2.1, hfin.out.2.2⟩
      · have hb2' : busyW n s.on c ≠ 2 := by omega
        have hbeg := fun W3 (hK : Keeps W2 W3) => rbegin_any (n := n) (hPs2.out W3 hK).pd (fun y hy => Nat.lt_of_lt_of_le (hZ2.out y hy) hK.size) hQ hR c x
        unfold pd at hbeg
        have hrB : r = if (begM n s.Q s.Rn c x).2.2 = 0 then ({ s with on := updI s.on x.toNat (c + 1), Q := (begM n s.Q s.Rn c x).1.1, Rn := (begM n s.Q s.Rn c x).1.2 }, (begM n s.Q s.Rn c x).2.1, s.pr (begM n s.Q s.Rn c x).2.1.toNat - 1, 0) else (s, 0, 0, (begM n s.Q s.Rn c x).2.2) := by
          rw [hr.out]; exact beginW_not (fun hh => hb2' hh.2.2)
        by_cases her : (begM n s.Q s.Rn c x).2.2 = 0
        · obtain ⟨hid1, hid2⟩ := hid her
          obtain ⟨t, rfl⟩ : ∃ t : Nat, x = t := ⟨x.toNat, by omega⟩
          have ht : t < 32 := by omega
          have hr2 : r = ({ s with on := updI s.on t (c + 1), Q := (begM n s.Q s.Rn c t).1.1, Rn := (begM n s.Q s.Rn c t).1.2 }, (begM n s.Q s.Rn c t).2.1, s.pr (begM n s.Q s.Rn c t).2.1.toNat - 1, 0) := by rw [hrB, if_pos her]; rfl
          rw [her] at hbeg
          generalize (begM n s.Q s.Rn c t).1.1 = Q' at *
          generalize (begM n s.Q s.Rn c t).1.2 = Rn' at *
          generalize (begM n s.Q s.Rn c t).2.1 = zi at *
          obtain ⟨i, rfl⟩ : ∃ i : Nat, zi = i := ⟨zi.toNat, by omega⟩
          have hi : i < 256 := by omega
          rw [show ((i : Int)).toNat = i from rfl] at hr2
          have ht0 : (0 : Int) ≤ (t : Int) := by omega
          have ht1 : (t : Int) < 32 := by omega
          replace hbeg := Lib.hid hbeg
          replace hr2 := Lib.hid hr2
          clear hrg hid hb2 hb hrB hbw hb2' her
          rcases hb01 with hbb | hbb
          all_goals
            rw [hbb] at hbu2
            have hbu3 := Lib.hid hbu2
            clear hbu2 hbb
            go_wp2_with (first | (refine loadW27 hX2'.out.b hwl rfl _ rfl rfl ?_))
            refine hbu3.out.mono ?_
            rintro e W3 ⟨rfl, hK3⟩
            have hX3 := hXs2.out W3 hK3
            have e0 := hX3.b.cellK c0.out
            have e1 := hX3.b.cellK c1.out
            have e2 := hX3.b.cellK c2.out
            have hb3 := hbeg.out W3 hK3
            replace hb3 := Lib.hid hb3
            replace hK3 := Lib.hid hK3
            clear hX3 hbeg
            go_wp2_with fail
            refine hb3.out.mono ?_
            rintro e W4 ⟨uq, ur, rfl, hPD4, hK4⟩
            obtain ⟨uqp, uqk, huq, -⟩ := hPD4.q.get
            obtain ⟨urp, urk, hur, -⟩ := hPD4.r.get
            generalize Q'.length = uqn at huq
            generalize Rn'.length = urn at hur
            subst huq
            subst hur
            have hKA := (hK3.out.trans hK4).trans (Keeps.alloc W4 (.cells #[.int .i64 (n : Int), (.slice uqp uqn uqk), (.slice urp urn urk)] 54))
            have hXA := hXs2.out _ hKA
            have hcT := hXA.b.cellK (by rw [← hcs.out]; exact hsz4.out t ht _ _ _ : cs[4 + t]? = some (.int .i64 (s.on t - 1)))
            have hfT := hXA.b.frozen (4 + t)
            have hX5 := (((hXA.set 0 (.int .i64 (n : Int))).set 1 (.slice uqp uqn uqk)).set 2 (.slice urp urn urk)).set (4 + t) (.int .i64 c)
            have hcU5 : ((((cs.set 0 (.int .i64 (n : Int))).set 1 (.slice uqp uqn uqk)).set 2 (.slice urp urn urk)).set (4 + t) (.int .i64 c)) = wkC n (.slice uqp uqn uqk) (.slice urp urn urk) va (updI s.on t (c + 1)) := by
              rw [cU.out, ← wkC_setOn n (.slice uqp uqn uqk) (.slice urp urn urk) va s.on t (c + 1), show c + 1 - 1 = c by omega]
            rw [hcU5] at hX5
            have hRW : RW (ZB Z B R) W4 (.slice uqp uqn uqk) (.slice urp urn urk) va { s with on := updI s.on t (c + 1), Q := Q', Rn := Rn' } := ⟨hPD4, (hPs2.out _ (hK3.out.trans hK4)).al, (hPs2.out _ (hK3.out.trans hK4)).za⟩
            have hRW5 := ((((hRW.kept (Keeps.alloc W4 (.cells #[.int .i64 (n : Int), (.slice uqp uqn uqk), (.slice urp urn urk)] 54))).cellB 0 (.int .i64 (n : Int))).cellB 1 (.slice uqp uqn uqk)).cellB 2 (.slice urp urn urk)).cellB (4 + t) (.int .i64 c)
            have k0 := hXA.b.cellK c0.out
            have k1 := hXA.b.cellK c1.out
            have k2 := hXA.b.cellK c2.out
            have f0 := hXA.b.frozen 0
            have f1 := hXA.b.frozen 1
            have f2 := hXA.b.frozen 2
            have hBW := hXA.b.lt
            have hwl2 := wkC_len n (.slice uqp uqn uqk) (.slice urp urn urk) va (updI s.on t (c + 1))
            have hone2 := wkC_one (n := n) (on := updI s.on t (c + 1)) hRW.ones.1 hRW.ones.2.1 hRW.ones.2.2
            have hG : (fun W5 => Bx27 w B R (wkC n (.slice uqp uqn uqk) (.slice urp urn urk) va (updI s.on t (c + 1))) W5 ∧ RW (ZB Z B R) W5 (.slice uqp uqn uqk) (.slice urp urn urk) va { s with on := updI s.on t (c + 1), Q := Q', Rn := Rn' }) _ := ⟨hX5, hRW5⟩
            replace hone2 := Lib.hid hone2
            replace hG := Lib.hid hG
            clear hXA hKA hRW hRW5 hPD4 hK4 hb3 hX5 hcU5 e0 e1 e2
            generalize s.on t - 1 = ot at *
            go_upto_region 13 with (fail)
            refine wp_gen (fun W5 => Bx27 w B R (wkC n (.slice uqp uqn uqk) (.slice urp urn urk) va (updI s.on t (c + 1))) W5 ∧ RW (ZB Z B R) W5 (.slice uqp uqn uqk) (.slice urp urn urk) va { s with on := updI s.on t (c + 1), Q := Q', Rn := Rn' }) hG.out ?_
            clear hG k0 k1 k2 f0 f1 f2 hcT hfT
            rintro W5 ⟨hX5, hRW5⟩
            obtain ⟨vap, vak, vab, vao, rfl, rfl, _, hvm, _, g1⟩ := hRW5.at i hi
            have g3 : W5.cell? ⟨B, 3, none⟩ = some (.slice (some ⟨vab, vao, none⟩) 256 vak) := hX5.b.cellK rfl
            have hi0 : (0 : Int) ≤ (i : Int) := by omega
            have hi1 : (i : Int) < 256 := by omega
            have hBR := hX5.ne
            have hvR : vab ≠ R := fun e => (hRW5.za vab rfl).1 (.inr (.inr e))
            have hXd := hX5.kept (Keeps.drew W5)
            have hRd := hRW5.kept (Keeps.drew W5)
            generalize hcs2 : wkC n (.slice uqp uqn uqk) (.slice urp urn urk) (.slice (some ⟨vab, vao, none⟩) 256 vak) (updI s.on t (c + 1)) = cs2 at *
            have hf := hXd.out (cs2 := cs2) hRd
            obtain ⟨C0, hC0⟩ : ∃ C0 : World → Prop, C0 = fun w' => Blk w' B 57 cs2 ∧ w'.cell? ⟨B, 3, none⟩ = some (.slice (some ⟨vab, vao, none⟩) 256 vak) ∧ w'.cell? ⟨vab, vao + i * 2 + 1, none⟩ = some (.int .i64 (s.pr i - 1)) := ⟨_, rfl⟩
            have hCa : C0 W5.drew := by rw [hC0]; exact ⟨hXd.b, g3, g1⟩
            have hCb : C0 (W5.drew.setRow R cs2.toArray) := by
              rw [hC0]
              have hch : Chg (· = R) W5.drew (W5.drew.setRow R cs2.toArray) := Chg.setRow _ rfl
              exact ⟨hXd.b.chg hch hBR, (hch.cell'' (p := ⟨B, 3, none⟩) (cell_lt (w := W5.drew) g3) hBR).trans g3, (hch.cell'' (p := ⟨vab, vao + i * 2 + 1, none⟩) (cell_lt (w := W5.drew) g1) hvR).trans g1⟩
            have hC0x : ∀ w', C0 w' → Blk w' B 57 cs2 ∧ w'.cell? ⟨B, 3, none⟩ = some (.slice (some ⟨vab, vao, none⟩) 256 vak) ∧ w'.cell? ⟨vab, vao + i * 2 + 1, none⟩ = some (.int .i64 (s.pr i - 1)) := fun w' h => by rw [hC0] at h; exact h
            have hbl : ∀ w', (∃ x : WorldIn C0, w' = x.now) → Blk w' B 57 cs2 := by rintro _ ⟨x, rfl⟩; exact (hC0x _ x.ok).1
            have hg3 : ∀ x : WorldIn C0, x.now.cell? ⟨B, 3, none⟩ = some (.slice (some ⟨vab, vao, none⟩) 256 vak) := fun x => (hC0x _ x.ok).2.1
            have hg1 : ∀ x : WorldIn C0, x.now.cell? ⟨vab, vao + i * 2 + 1, none⟩ = some (.int .i64 (s.pr i - 1)) := fun x => (hC0x _ x.ok).2.2
            haveI : Nonempty (WorldIn C0) := ⟨⟨_, hCa⟩⟩
            replace hbl := Lib.hid hbl
            replace hXd := Lib.hid hXd
            replace hf := Lib.hid hf
            replace hCb := Lib.hid hCb
            clear hX5 hRW5 hRd g1 g3 hC0 hC0x
            refine region_seqC [8] C0 (by kernel_rfl) (by kernel_rfl) hCa ?_
            refine wpSeq_reads 8 (by rfl) ?_
            simp only [List.take_succ_cons, List.take_zero, List.drop_succ_cons, List.drop_zero]
            refine quietRow hbl.out rfl 57 _ rfl rfl _ Try.underlying57 rfl 36 sizeW27 hwl2 ?_
            go_frame
            iterate 7 go_big_quiet_step (fail)
            refine wpQuiet_nil ?_
            refine wpSeq_call (by rfl) ?_
            refine storeW27 hXd.out.r hwl2 hone2.out rfl _ _ rfl rfl rfl rfl ?_
            refine wpList_nil ?_
            refine seq_onC hCb.out ?_
            refine wpSeq_reads 3 (by rfl) ?_
            simp only [List.take_succ_cons, List.take_zero, List.drop_succ_cons, List.drop_zero]
            iterate 3 go_big_quiet_step (fail)
            refine wpQuiet_nil ?_
            refine wpSeq_nil ?_
            go_wp2_with fail
            have hfin := hf
            exact bodyPost_ret (results_row_slots3 rfl _ hfin.out.1 rfl _ Try.underlying57 rfl 36 sizeW27 hwl2) rfl ⟨_, _, _, by rw [hr2.out]; show _ = Ending.returned (.tuple #[.agg (wkC n (.slice uqp uqn uqk) (.slice urp urn urk) (.slice (some ⟨vab, vao, none⟩) 256 vak) (updI s.on t (c + 1))).toArray, .int .i64 (i : Int), .int .i64 (s.pr i - 1), .int .i64 0]); rw [hcs2]; rfl, by rw [hr2.out]; exact hfin.out.2.1, hfin.out.2.2⟩
        · have hr2 : r = (s, 0, 0, (begM n s.Q s.Rn c x).2.2) := by rw [hrB, if_neg her]
          generalize (begM n s.Q s.Rn c x).2.2 = er at *
          generalize (begM n s.Q s.Rn c x).2.1 = zi at *
          have hne : (er != 0) = true := by simpa using her
          replace hbeg := Lib.hid hbeg
          replace hr2 := Lib.hid hr2
          replace her := Lib.hid her
          clear hrg hid hb2 hb hrB hbw hb2'
          rcases hb01 with hbb | hbb
          all_goals
            rw [hbb] at hbu2
            have hbu3 := Lib.hid hbu2
            clear hbu2 hbb
            go_wp2_with (first | (refine loadW27 hX2'.out.b hwl rfl _ rfl rfl ?_))
            refine hbu3.out.mono ?_
            rintro e W3 ⟨rfl, hK3⟩
            have hX3 := hXs2.out W3 hK3
            have e0 := hX3.b.cellK c0.out
            have e1 := hX3.b.cellK c1.out
            have e2 := hX3.b.cellK c2.out
            have hb3 := hbeg.out W3 hK3
            replace hb3 := Lib.hid hb3
            replace hK3 := Lib.hid hK3
            clear hX3 hbeg
            go_wp2_with fail
            refine hb3.out.mono ?_
            rintro e W4 ⟨uq, ur, rfl, hPD4, hK4⟩
            obtain ⟨uqp, uqk, huq, -⟩ := hPD4.q.get
            obtain ⟨urp, urk, hur, -⟩ := hPD4.r.get
            generalize (begM n s.Q s.Rn c x).1.1.length = uqn at huq
            generalize (begM n s.Q s.Rn c x).1.2.length = urn at hur
            subst huq
            subst hur
            have hK5 := (hK3.out.trans hK4).trans (Keeps.alloc W4 (.cells #[.int .i64 (n : Int), .slice uqp uqn uqk, .slice urp urn urk] 54))
            have hX5 := hXs2.out _ hK5
            have hfin := hX5.out (cs2 := cs) (hPs2.out _ hK5)
            replace hX5 := Lib.hid hX5
            replace hfin := Lib.hid hfin
            clear hPD4 hK4 hK5 hK3 hb3
            go_wp2_with (first | (refine loadW27 hX5.out.b hwl rfl _ rfl rfl ?_) | (refine storeW27 hX5.out.r hwl hone.out rfl _ _ rfl rfl rfl rfl ?_))
            exact bodyPost_ret (results_row_slots3 rfl _ hfin.out.1 rfl _ Try.underlying57 rfl 36 sizeW27 hwl) rfl ⟨_, _, _, by rw [hr2.out, hcs.out]; rfl, by rw [hr2.out]; exact hfin.out.2.1, hfin.out.2.2⟩
end
end Go.Proofs.Ytcggbfpangnllaa
