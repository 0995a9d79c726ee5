/- The document's answer for works: Shut, State, Ready, End: the walks. -/
import Derived.Test.YtcggbfpangnllaaRef27d
import Derived.Test.YtcggbfpangnllaaQuiet
import Derived.Test.YtcggbfpangnllaaQuietRow
import Derived.Deep.MidRow
namespace Go.Proofs.Ytcggbfpangnllaa
open Go.RowKit i64

/-- A load of many cells behind a guard that holds. -/
theorem loadMidG {P : Program} {ops : Array Oper} {rest : List Oper} {op : Oper} {a : Act} {w : World} {Q : Exit → Act → World → Prop} (hw : Region.wanted op (yielded ops a.tmps) = true) (ty : TypeId) (x : Operand) (ho : op.op = .load ty x)
    (b o : Nat) (hx : a.eval x = .pointer (some ⟨b, o, none⟩)) (cs : List Value) (d : TypeDesc) (hc : w.rangeAt b o cs)
    (hu : P.underlying ty = some d) (hd : d.isRow = true) (hi : (P.info? ty).map (·.size) = some cs.length)
    (h : wpList P ops Q rest (a.put op.dst (.agg cs.toArray)) w) : wpList P ops Q (op :: rest) a w := by
  unfold wpList
  rw [if_pos hw]
  exact .inl (wp_load_mid ty x ho b o hx cs d hc hu hd hi h)
section
variable {w W W' : World} {n : Nat} {vq vr va : Value} {on : Nat → Int} {sh : Nat → Bool} {pr : Nat → Int} {s : WS} {Z : Nat → Prop}
/-- Shut, by the document. -/
def shutR (s : WS) (id : Int) : WS × Bool := if ¬ inId id then (s, false) else if s.sh id.toNat then (s, false) else ({ s with sh := updB s.sh id.toNat true, Q := s.Q.eraseP (·.1 == id) }, true)
set_option maxRecDepth 100000 in
set_option maxHeartbeats 2000000 in
theorem rshut27_any (h : RW Z w vq vr va s) (hZ : ∀ b, Z b → b < w.heap.size) (hQ : s.Q.length ≤ 10000) (id : Int) :
    Calls Try.prog 49 #[rk n vq vr va s.on, .int .i64 id] w fun e w' => ∃ uq ur ua, e = .returned (.tuple #[rk n uq ur ua s.on, .bool (shutR s id).2]) ∧ RW Z w' uq ur ua (shutR s id).1 ∧ Keeps w w' := by
  obtain ⟨r, hr⟩ : ∃ r, r = shutR s id := ⟨_, rfl⟩
  rw [← hr]
  replace hr := Lib.hid hr
  replace hZ := Lib.hid hZ
  obtain ⟨vqp, vqk, hvq, -⟩ := h.pd.q.get
  obtain ⟨vrp, vrk, hvr, -⟩ := h.pd.r.get
  generalize s.Q.length = vqn at hvq
  generalize s.Rn.length = vrn at hvr
  subst hvq
  subst hvr
  obtain ⟨hq1, hr1, ha1⟩ := h.ones
  have his := ris27_any id
  have hwl := wkC_len n (.slice vqp vqn vqk) (.slice vrp vrn vrk) va s.on
  have hone := wkC_one (n := n) (on := s.on) hq1 hr1 ha1
  replace hone := Lib.hid hone
  unfold rk
  have c0 : (wkC n (.slice vqp vqn vqk) (.slice vrp vrn vrk) va s.on)[0]? = some (.int .i64 (n : Int)) := rfl
  have c1 : (wkC n (.slice vqp vqn vqk) (.slice vrp vrn vrk) va s.on)[1]? = some (.slice vqp vqn vqk) := rfl
  have c2 : (wkC n (.slice vqp vqn vqk) (.slice vrp vrn vrk) va s.on)[2]? = some (.slice vrp vrn vrk) := rfl
  have c3 : (wkC n (.slice vqp vqn vqk) (.slice vrp vrn vrk) va s.on)[3]? = some va := rfl
  have cU := fun uq ur => (show (((wkC n (.slice vqp vqn vqk) (.slice vrp vrn vrk) va s.on).set 0 (.int .i64 (n : Int))).set 1 uq).set 2 ur = wkC n uq ur va s.on from rfl)
  generalize hcs : wkC n (.slice vqp vqn vqk) (.slice vrp vrn vrk) va s.on = cs at *
  replace c0 := Lib.hid c0
  replace c1 := Lib.hid c1
  replace c2 := Lib.hid c2
  replace c3 := Lib.hid c3
  replace cU := Lib.hid cU
  replace hcs := Lib.hid hcs
  go_enter Try.func49, Try.ntmps49
  go_upto_region 1 with (fail)
  obtain ⟨B, hB⟩ : ∃ B, B = w.heap.size := ⟨_, rfl⟩
  obtain ⟨R, hR⟩ : ∃ R, R = w.heap.size + 1 := ⟨_, rfl⟩
  refine wp_gen (fun W => Bx27 w B R cs W) (Bx27.start hwl hB hR) ?_
  rw [← hR, ← hB]
  clear hB hR
  rintro W hX
  have z0 := hX.b.cellK c0.out
  have z1 := hX.b.cellK c1.out
  have z2 := hX.b.cellK c2.out
  have z3 := hX.b.cellK c3.out
  have hP := hX.rw h
  by_cases hin : inId id
  · simp only [decide_eq_true hin] at his
    replace his := Lib.hid his
    have hin' := not_not_intro hin
    obtain ⟨i, rfl⟩ : ∃ i : Nat, id = i := ⟨id.toNat, by unfold inId at hin; omega⟩
    have hi : i < 256 := by unfold inId at hin; omega
    have hi0 : (0 : Int) ≤ (i : Int) := by omega
    have hi1 : (i : Int) < 256 := by omega
    replace hin := Lib.hid hin
    obtain ⟨q, cap, b, off, rfl, rfl, _, hcm, y0, y1⟩ := (hP.at i hi)
    cases hs : s.sh i with
    | true =>
      rw [hs] at y0
      have hfin := hX.out (cs2 := cs) hP
      have hr2 : r = (s, false) := by rw [hr.out]; unfold shutR; rw [if_neg hin', if_pos (show s.sh ((i : Int)).toNat = true from hs)]
      replace hfin := Lib.hid hfin
      replace hr2 := Lib.hid hr2
      replace hX := Lib.hid hX
      clear hP
      go_wp2_with (first | (with_reducible refine (his.out _).mono ?_; rintro e w2 ⟨rfl, rfl⟩) | (refine loadW27 hX.out.b hwl rfl _ rfl rfl ?_) | (refine storeW27 hX.out.r hwl hone.out rfl _ _ rfl rfl rfl rfl ?_))
      exact bodyPost_ret (results_row_slot rfl _ hfin.out.1 rfl _ Try.underlying57 rfl 36 sizeW27 hwl) rfl ⟨_, _, _, by rw [hr2.out, hcs.out]; rfl, by rw [hr2.out]; exact hfin.out.2.1, hfin.out.2.2⟩
    | false =>
      rw [hs] at y0
      have hdel := rdel_any (n := n) hP.pd (hX.low hZ.out) (by omega) (i : Int)
      unfold pd at hdel
      have hr2 : r = ({ s with sh := updB s.sh i true, Q := s.Q.eraseP (·.1 == (i : Int)) }, true) := by
        rw [hr.out]; unfold shutR; rw [if_neg hin', if_neg (show ¬ s.sh ((i : Int)).toNat = true by rw [show ((i : Int)).toNat = i from rfl, hs]; decide)]; rfl
      have hZW := hX.low hZ.out
      generalize s.Q.eraseP (·.1 == (i : Int)) = Q' at *
      generalize lkIB s.Q i = was at *
      replace hdel := Lib.hid hdel
      replace hr2 := Lib.hid hr2
      replace hs := Lib.hid hs
      replace hZW := Lib.hid hZW
      have hX0 := Lib.hid hX
      have hP0 := Lib.hid hP
      clear hP hX
      go_wp2_with (first | (with_reducible refine (his.out _).mono ?_; rintro e w2 ⟨rfl, rfl⟩))
      refine hdel.out.mono ?_
      rintro e W2 ⟨uq, rfl, hPD, hK2⟩
      obtain ⟨uqp, uqk, huq, -⟩ := hPD.q.get
      generalize Q'.length = uqn at huq
      subst huq
      have hK3 : Keeps W (W2) := hK2
      have hX3 := hX0.out.kept hK3
      have hX4 := ((hX3.set 0 (.int .i64 (n : Int))).set 1 (.slice uqp uqn uqk)).set 2 (.slice vrp vrn vrk)
      rw [cU.out] at hX4
      have hRW : RW (ZB Z B R) W2 (.slice uqp uqn uqk) (.slice vrp vrn vrk) (.slice (some ⟨b, off, none⟩) 256 cap) { s with Q := Q' } := ⟨hPD, (hP0.out.kept hK2).al, (hP0.out.kept hK2).za⟩
      have hRW4 := (((hRW.kept (Keeps.refl W2)).cellB 0 (.int .i64 (n : Int))).cellB 1 (.slice uqp uqn uqk)).cellB 2 (.slice vrp vrn vrk)
      have k0 := hX3.b.cellK c0.out
      have k1 := hX3.b.cellK c1.out
      have k2 := hX3.b.cellK c2.out
      have f0 := hX3.b.frozen 0
      have f1 := hX3.b.frozen 1
      have f2 := hX3.b.frozen 2
      have hBW := hX3.b.lt
      have hwl2 := wkC_len n (.slice uqp uqn uqk) (.slice vrp vrn vrk) (.slice (some ⟨b, off, none⟩) 256 cap) s.on
      have hone2 := wkC_one (n := n) (on := s.on) hRW.ones.1 hRW.ones.2.1 hRW.ones.2.2
      replace hone2 := Lib.hid hone2
      obtain ⟨W4, hW4⟩ : ∃ W4, W4 = ((W2.setCell ⟨B, 0, none⟩ (.int .i64 (n : Int))).setCell ⟨B, 1, none⟩ (.slice uqp uqn uqk)).setCell ⟨B, 2, none⟩ (.slice vrp vrn vrk) := ⟨_, rfl⟩
      rw [← hW4] at hX4 hRW4
      have hset := fun m => rset0_any (n := n) (on := s.on) hRW4.ones.1 hRW4.ones.2.1 (hRW4.kept (Keeps.drewN W4 m)).al i hi true (s.pr i)
      unfold rk at hset
      have hZ4 : ∀ x, ZB Z B R x → x < W4.heap.size := by
        rintro x (hx | rfl | rfl)
        · have := hZ.out x hx; have := hX4.k.size; omega
        · exact hX4.b.lt
        · obtain ⟨_, h1, _⟩ := hX4.r; exact h1.lt
      obtain ⟨_, _, _, _, hva, hpb, _, _, _, g1⟩ := hRW4.at i hi
      simp only [Value.slice.injEq, true_and] at hva
      obtain ⟨rfl, rfl⟩ := hva
      simp only [Option.some.injEq, Addr.mk.injEq, and_true] at hpb
      obtain ⟨rfl, rfl⟩ := hpb
      have g3 : W4.cell? ⟨B, 3, none⟩ = some (.slice (some ⟨b, off, none⟩) 256 cap) := hX4.b.cellK rfl
      have hpi : updI s.pr i (s.pr i) = s.pr := updI_at rfl
      have hbl := fun w' (hC : ∃ m, w' = W4.drewN m) => (show Blk w' B 57 (wkC n (.slice uqp uqn uqk) (.slice vrp vrn vrk) (.slice (some ⟨b, off, none⟩) 256 cap) s.on) by obtain ⟨m, rfl⟩ := hC; exact hX4.b.keeps (Keeps.drewN _ _))
      replace hset := Lib.hid hset
      replace hZ4 := Lib.hid hZ4
      have hX4' := Lib.hid hX4
      replace hRW4 := Lib.hid hRW4
      replace hW4 := Lib.hid hW4
      replace hpi := Lib.hid hpi
      replace hbl := Lib.hid hbl
      clear hX3 hRW hPD hK2 hK3 hdel hX0 hP0 hX4
      go_upto_region 4 with (fail)
      refine wp_gen (fun W5 => W4 = W5) hW4.out ?_
      rintro _ rfl
      clear k0 k1 k2 f0 f1 f2 hBW y0 y1
      generalize hcs2 : wkC n (.slice uqp uqn uqk) (.slice vrp vrn vrk) (.slice (some ⟨b, off, none⟩) 256 cap) s.on = cs2 at *
      refine region_quiet_tail 9 (by kernel_rfl) (by kernel_rfl) ?_
      simp only [List.take_succ_cons, List.take_zero, List.drop_succ_cons, List.drop_zero]
      refine quietRow hbl.out rfl 57 _ rfl rfl _ Try.underlying57 rfl 36 sizeW27 hwl2 ?_
      go_frame
      repeat (go_big_quiet_step (fail))
      refine wpQuiet_nil ?_
      rintro _ ⟨nq, rfl⟩
      have hset2 := hset.out nq
      have hX5 := hX4'.out.kept (Keeps.drewN W4 nq)
      have hRW5 := hRW4.out.kept (Keeps.drewN W4 nq)
      replace hset2 := Lib.hid hset2
      replace hX5 := Lib.hid hX5
      replace hRW5 := Lib.hid hRW5
      have hsz5 : (W4.drewN nq).heap.size = W4.heap.size := rfl
      replace hsz5 := Lib.hid hsz5
      go_wp2_with fail
      refine hset2.out.mono ?_
      rintro e W6 ⟨ua, rfl, hrow, hK6⟩
      have hX6 := hX5.out.kept hK6
      rw [hpi.out] at hrow
      have hRW6 : RW (ZB Z B R) W6 (.slice uqp uqn uqk) (.slice vrp vrn vrk) ua { s with sh := updB s.sh i true, Q := Q' } := ⟨(hRW5.out.kept hK6).pd, hrow.slcs, hrow.inZ hZ4.out⟩
      have hfin := hX6.out (cs2 := wkC n (.slice uqp uqn uqk) (.slice vrp vrn vrk) ua s.on) hRW6
      have hwl3 := wkC_len n (.slice uqp uqn uqk) (.slice vrp vrn vrk) ua s.on
      have hone3 := wkC_one (n := n) (on := s.on) hRW6.ones.1 hRW6.ones.2.1 hRW6.ones.2.2
      replace hX6 := Lib.hid hX6
      replace hfin := Lib.hid hfin
      replace hone3 := Lib.hid hone3
      clear hX5 hRW6 hrow hK6 hset hset2
      generalize hcs3 : wkC n (.slice uqp uqn uqk) (.slice vrp vrn vrk) ua s.on = cs3 at *
      go_wp2_with (first | (refine storeW27 hX6.out.r hwl3 hone3.out rfl _ _ rfl rfl rfl rfl ?_))
      exact bodyPost_ret (results_row_slot rfl _ hfin.out.1 rfl _ Try.underlying57 rfl 36 sizeW27 hwl3) rfl ⟨_, _, ua, by rw [hr2.out, hcs3]; rfl, by rw [hr2.out]; exact hfin.out.2.1, hfin.out.2.2⟩
  · have hin' := hin
    simp only [decide_eq_false hin] at his
    replace his := Lib.hid his
    replace hin := Lib.hid hin
    have hfin := hX.out (cs2 := cs) hP
    have hr2 : r = (s, false) := by rw [hr.out]; unfold shutR; rw [if_pos hin']
    replace hfin := Lib.hid hfin
    replace hr2 := Lib.hid hr2
    replace hX := Lib.hid hX
    clear hP
    go_wp2_with (first | (with_reducible refine (his.out _).mono ?_; rintro e w2 ⟨rfl, rfl⟩) | (refine loadW27 hX.out.b hwl rfl _ rfl rfl ?_) | (refine storeW27 hX.out.r hwl hone.out rfl _ _ rfl rfl rfl rfl ?_))
    exact bodyPost_ret (results_row_slot rfl _ hfin.out.1 rfl _ Try.underlying57 rfl 36 sizeW27 hwl) rfl ⟨_, _, _, by rw [hr2.out, hcs.out]; rfl, by rw [hr2.out]; exact hfin.out.2.1, hfin.out.2.2⟩
set_option maxRecDepth 100000 in
set_option maxHeartbeats 2000000 in
theorem rstate27_any (h : RW Z w vq vr va s) (hp0 : ∀ i, 0 ≤ s.pr i) (id : Int) :
    Calls Try.prog 25 #[rk n vq vr va s.on, .int .i64 id] w fun e w' => e = .returned (.int .i64 (stateW s id)) ∧ Keeps w w' := by
  obtain ⟨r, hr⟩ : ∃ r, r = stateW s id := ⟨_, rfl⟩
  rw [← hr]
  replace hr := Lib.hid hr
  obtain ⟨vqp, vqk, hvq, -⟩ := h.pd.q.get
  obtain ⟨vrp, vrk, hvr, -⟩ := h.pd.r.get
  generalize s.Q.length = vqn at hvq
  generalize s.Rn.length = vrn at hvr
  subst hvq
  subst hvr
  obtain ⟨hq1, hr1, ha1⟩ := h.ones
  have his := ris27_any id
  have hwl := wkC_len n (.slice vqp vqn vqk) (.slice vrp vrn vrk) va s.on
  unfold rk
  have c0 : (wkC n (.slice vqp vqn vqk) (.slice vrp vrn vrk) va s.on)[0]? = some (.int .i64 (n : Int)) := rfl
  have c1 : (wkC n (.slice vqp vqn vqk) (.slice vrp vrn vrk) va s.on)[1]? = some (.slice vqp vqn vqk) := rfl
  have c2 : (wkC n (.slice vqp vqn vqk) (.slice vrp vrn vrk) va s.on)[2]? = some (.slice vrp vrn vrk) := rfl
  have c3 : (wkC n (.slice vqp vqn vqk) (.slice vrp vrn vrk) va s.on)[3]? = some va := rfl
  have cU := fun uq ur => (show (((wkC n (.slice vqp vqn vqk) (.slice vrp vrn vrk) va s.on).set 0 (.int .i64 (n : Int))).set 1 uq).set 2 ur = wkC n uq ur va s.on from rfl)
  generalize hcs : wkC n (.slice vqp vqn vqk) (.slice vrp vrn vrk) va s.on = cs at *
  replace c0 := Lib.hid c0
  replace c1 := Lib.hid c1
  replace c2 := Lib.hid c2
  replace c3 := Lib.hid c3
  replace cU := Lib.hid cU
  replace hcs := Lib.hid hcs
  go_enter Try.func25, Try.ntmps25
  go_upto_region 1 with (fail)
  obtain ⟨B, hB⟩ : ∃ B, B = w.heap.size := ⟨_, rfl⟩
  refine wp_gen (fun W => Blk W B 57 cs ∧ Keeps w W) ⟨by rw [hB]; exact Blk.new _ _ _, Keeps.alloc _ _⟩ ?_
  rw [← hB]
  clear hB
  rintro W ⟨hX, hKW⟩
  have z0 := hX.cellK c0.out
  have z1 := hX.cellK c1.out
  have z2 := hX.cellK c2.out
  have z3 := hX.cellK c3.out
  have hP := h.kept hKW
  by_cases hin : inId id
  · simp only [decide_eq_true hin] at his
    replace his := Lib.hid his
    have hin' := not_not_intro hin
    obtain ⟨i, rfl⟩ : ∃ i : Nat, id = i := ⟨id.toNat, by unfold inId at hin; omega⟩
    have hi : i < 256 := by unfold inId at hin; omega
    have hi0 : (0 : Int) ≤ (i : Int) := by omega
    have hi1 : (i : Int) < 256 := by omega
    replace hin := Lib.hid hin
    obtain ⟨q, cap, b, off, rfl, rfl, _, hcm, y0, y1⟩ := (hP.at i hi)
    replace hKW := Lib.hid hKW
    cases hs : s.sh i with
    | true =>
      rw [hs] at y0
      have hr2 : r = 3 := by rw [hr.out]; unfold stateW ofS; rw [if_pos (inId_nat hi), if_pos (show s.sh ((i : Int)).toNat = true from hs)]
      replace hr2 := Lib.hid hr2
      clear hX hP
      go_wp2_with (first | (with_reducible refine (his.out _).mono ?_; rintro e w2 ⟨rfl, rfl⟩))
      go_ret
      exact ⟨by rw [hr2.out]; rfl, hKW.out⟩
    | false =>
      rw [hs] at y0
      have hns : ¬ s.sh ((i : Int)).toNat = true := by rw [show ((i : Int)).toNat = i from rfl, hs]; decide
      by_cases hp : s.pr i = 0
      · rw [hp, show (0 : Int) - 1 = -1 by decide] at y1
        have hr2 : r = 0 := by rw [hr.out]; unfold stateW ofS ofP; rw [if_pos (inId_nat hi), if_pos (inId_nat hi), if_neg hns, if_pos (show s.pr ((i : Int)).toNat = 0 from hp)]
        replace hr2 := Lib.hid hr2
        clear hX hP
        go_wp2_with (first | (with_reducible refine (his.out _).mono ?_; rintro e w2 ⟨rfl, rfl⟩))
        go_ret
        exact ⟨by rw [hr2.out]; rfl, hKW.out⟩
      · have hp1 : ¬ s.pr i - 1 < 0 := by have := hp0 i; omega
        have hwh := rwhere_any (n := n) (vr := (.slice vrp vrn vrk)) hP.pd.q (i : Int)
        unfold pd at hwh
        have hr2 : r = if lkIB s.Q i then 2 else 1 := by rw [hr.out]; unfold stateW ofS ofP; rw [if_pos (inId_nat hi), if_pos (inId_nat hi), if_neg hns, if_neg (show ¬ s.pr ((i : Int)).toNat = 0 from hp)]
        generalize lkI s.Q i = z at *
        generalize lkIB s.Q i = was at *
        generalize s.pr i - 1 = pz at *
        replace hr2 := Lib.hid hr2
        replace hwh := Lib.hid hwh
        replace hp := Lib.hid hp
        clear hX hP
        cases was
        all_goals
          go_wp2_with (first | (with_reducible refine (his.out _).mono ?_; rintro e w2 ⟨rfl, rfl⟩))
          refine hwh.out.mono ?_
          rintro e W2 ⟨rfl, hK2⟩
          replace hK2 := Lib.hid hK2
          go_wp2_with fail
          go_ret
          exact ⟨by rw [hr2.out]; rfl, hKW.out.trans hK2.out⟩
  · have hr2 : r = 0 := by rw [hr.out]; unfold stateW ofS ofP; rw [if_neg hin, if_neg hin]; rfl
    simp only [decide_eq_false hin] at his
    replace his := Lib.hid his
    replace hin := Lib.hid hin
    replace hr2 := Lib.hid hr2
    replace hKW := Lib.hid hKW
    clear hX hP
    go_wp2_with (first | (with_reducible refine (his.out _).mono ?_; rintro e w2 ⟨rfl, rfl⟩))
    go_ret
    exact ⟨by rw [hr2.out]; rfl, hKW.out⟩
set_option maxRecDepth 100000 in
set_option maxHeartbeats 2000000 in
theorem rready27_any (h : RW Z w vq vr va s) (hQ : s.Q.length ≤ 10000) (hon : ∀ c, c < 32 → 0 ≤ s.on c ∧ s.on c ≤ 64) (c : Int) (hb2 : busyR s.on c ≤ 2) :
    Calls Try.prog 23 #[rk n vq vr va s.on, .int .i64 c] w fun e w' => e = .returned (.tuple #[.int .i64 (rdI s.Q c), .bool (rdB s.Q s.Rn c && decide (busyR s.on c < 2))]) ∧ Keeps w w' := by
  have hbu := fun W => rbusy_any (w := W) (n := n) (vq := vq) (vr := vr) (va := va) hon c
  unfold rk at hbu
  obtain ⟨rr, hrr⟩ : ∃ rr, rr = (rdB s.Q s.Rn c && decide (busyR s.on c < 2)) := ⟨_, rfl⟩
  rw [← hrr]
  obtain ⟨z, hzq⟩ : ∃ z, z = rdI s.Q c := ⟨_, rfl⟩
  rw [← hzq]
  obtain ⟨vqp, vqk, hvq, -⟩ := h.pd.q.get
  obtain ⟨vrp, vrk, hvr, -⟩ := h.pd.r.get
  generalize s.Q.length = vqn at hvq
  generalize s.Rn.length = vrn at hvr
  subst hvq
  subst hvr
  obtain ⟨hq1, hr1, ha1⟩ := h.ones
  have hwl := wkC_len n (.slice vqp vqn vqk) (.slice vrp vrn vrk) va s.on
  unfold rk
  have c0 : (wkC n (.slice vqp vqn vqk) (.slice vrp vrn vrk) va s.on)[0]? = some (.int .i64 (n : Int)) := rfl
  have c1 : (wkC n (.slice vqp vqn vqk) (.slice vrp vrn vrk) va s.on)[1]? = some (.slice vqp vqn vqk) := rfl
  have c2 : (wkC n (.slice vqp vqn vqk) (.slice vrp vrn vrk) va s.on)[2]? = some (.slice vrp vrn vrk) := rfl
  have c3 : (wkC n (.slice vqp vqn vqk) (.slice vrp vrn vrk) va s.on)[3]? = some va := rfl
  have cU := fun uq ur => (show (((wkC n (.slice vqp vqn vqk) (.slice vrp vrn vrk) va s.on).set 0 (.int .i64 (n : Int))).set 1 uq).set 2 ur = wkC n uq ur va s.on from rfl)
  generalize hcs : wkC n (.slice vqp vqn vqk) (.slice vrp vrn vrk) va s.on = cs at *
  replace c0 := Lib.hid c0
  replace c1 := Lib.hid c1
  replace c2 := Lib.hid c2
  replace c3 := Lib.hid c3
  replace cU := Lib.hid cU
  replace hcs := Lib.hid hcs
  go_enter Try.func23, Try.ntmps23
  go_upto_region 1 with (fail)
  obtain ⟨B, hB⟩ : ∃ B, B = w.heap.size := ⟨_, rfl⟩
  refine wp_gen (fun W => Blk W B 57 cs ∧ Keeps w W) ⟨by rw [hB]; exact Blk.new _ _ _, Keeps.alloc _ _⟩ ?_
  rw [← hB]
  clear hB
  rintro W ⟨hX, hKW⟩
  have z0 := hX.cellK c0.out
  have z1 := hX.cellK c1.out
  have z2 := hX.cellK c2.out
  have hP := h.kept hKW
  have hrd := rready_any (n := n) hP.pd.q hP.pd.r (by omega) c
  unfold pd at hrd
  have hXs := fun W2 (hK : Keeps W W2) => hX.keeps hK
  rw [← hzq] at hrd
  replace hzq := Lib.hid hzq
  generalize rdB s.Q s.Rn c = rd at *
  generalize busyR s.on c = b at *
  have hrow : ∀ W2, Keeps W W2 → W2.rangeAt B 0 cs := fun W2 hK j v hv => by rw [Nat.zero_add]; exact (hX.keeps hK).cellK hv
  have hsz27 : (Try.prog.info? 57).map (·.size) = some cs.length := by rw [hwl]; exact sizeW27
  replace hsz27 := Lib.hid hsz27
  have hcase : ((b : Int) = 0 ∧ decide (b < 2) = true) ∨ ((b : Int) = 1 ∧ decide (b < 2) = true) ∨ ((b : Int) = 2 ∧ decide (b < 2) = false) := by
    have hb3 : b = 0 ∨ b = 1 ∨ b = 2 := by omega
    rcases hb3 with rfl | rfl | rfl
    · exact .inl ⟨rfl, rfl⟩
    · exact .inr (.inl ⟨rfl, rfl⟩)
    · exact .inr (.inr ⟨rfl, rfl⟩)
  replace hrd := Lib.hid hrd
  replace hrow := Lib.hid hrow
  replace hKW := Lib.hid hKW
  clear hX hP h hb2 hXs
  rcases hcase with ⟨hlt, hd⟩ | ⟨hlt, hd⟩ | ⟨hlt, hd⟩
  all_goals
    rw [hd] at hrr
    rw [hlt] at hbu
    have hbu2 := Lib.hid hbu
    clear hd hlt hbu
    cases rd
    all_goals
      replace hrr := Lib.hid hrr
      go_wp2_with fail
      refine hrd.out.mono ?_
      rintro e W2 ⟨rfl, hK2⟩
      have hld := Lib.hid (hrow.out W2 hK2)
      replace hK2 := Lib.hid hK2
      go_wp2_with (refine loadMidG rfl _ _ rfl B 0 rfl cs _ hld.out Try.underlying57 rfl hsz27.out ?_)
  all_goals first
    | (go_ret2
       exact ⟨by rw [hrr.out]; rfl, hKW.out.trans hK2.out⟩)
    | (refine (hbu2.out _).mono ?_
       rintro e W3 ⟨rfl, hK3⟩
       replace hK3 := Lib.hid hK3
       go_wp2_with fail
       go_ret2
       exact ⟨by rw [hrr.out]; rfl, (hKW.out.trans hK2.out).trans hK3.out⟩)
end
end Go.Proofs.Ytcggbfpangnllaa
