/- The document's answer for works: Set, Post, Stop, Shut, Clear, State: the walks. -/
import Derived.Test.YtcggbfpangnllaaRef27b
import Derived.Deep.MidRow
namespace Go.Proofs.Ytcggbfpangnllaa
open Go.RowKit i64

section
variable {w W W' : World} {n : Nat} {vq vr va : Value} {on : Nat → Int} {sh : Nat → Bool} {pr : Nat → Int} {s : WS} {Z : Nat → Prop}
set_option maxRecDepth 100000 in
set_option maxHeartbeats 1000000 in
theorem rset27_any (h : RW Z w vq vr va s) (hZ : ∀ b, Z b → b < w.heap.size) (id prog : Int) :
    Calls Try.prog 44 #[rk n vq vr va s.on, .int .i64 id, .int .i64 prog] w fun e w' => ∃ ua, e = .returned (.tuple #[rk n vq vr ua s.on, .int .i64 (setW s id prog).2]) ∧ RW Z w' vq vr ua (setW s id prog).1 ∧ Keeps w w' := by
  obtain ⟨hq1, hr1, ha1⟩ := h.ones
  have his := ris27_any id
  obtain ⟨r, hr⟩ : ∃ r, r = setW s id prog := ⟨_, rfl⟩
  rw [← hr]
  have hwl := wkC_len n vq vr va s.on
  have hone := wkC_one (n := n) (on := s.on) hq1 hr1 ha1
  replace hr := Lib.hid hr
  replace hone := Lib.hid hone
  replace hZ := Lib.hid hZ
  unfold rk
  have c3 : (wkC n vq vr va s.on)[3]? = some va := rfl
  have hset0 := fun W2 (hK : Keeps w W2) (i : Nat) (hi : i < 256) (z : Int) => rset0_any (n := n) (on := s.on) hq1 hr1 (h.kept hK).al i hi false z
  unfold rk at hset0
  replace hset0 := Lib.hid hset0
  generalize hcs : wkC n vq vr va s.on = cs at *
  replace c3 := Lib.hid c3
  replace hcs := Lib.hid hcs
  clear hq1 hr1
  go_enter Try.func44, Try.ntmps44
  go_upto_region 1 with (fail)
  obtain ⟨B, hB⟩ : ∃ B, B = w.heap.size := ⟨_, rfl⟩
  obtain ⟨R, hR⟩ : ∃ R, R = w.heap.size + 1 := ⟨_, rfl⟩
  refine wp_gen (fun W => Bx27 w B R cs W) (Bx27.start hwl hB hR) ?_
  rw [← hR, ← hB]
  clear hB hR
  rintro W hX
  have z3 := hX.b.cellK c3.out
  have hP := hX.rw h
  by_cases hin : inId id
  · simp only [decide_eq_true hin] at his
    replace his := Lib.hid his
    by_cases hpg : prog < 0 ∨ 15 < prog
    · have hfin := hX.out (cs2 := cs) hP
      have hcase : prog < 0 ∨ (¬ prog < 0 ∧ 15 < prog) := by omega
      have hr2 : r = (s, 2) := by rw [hr.out]; unfold setW; rw [if_neg (not_not_intro hin), if_pos hpg]
      replace hfin := Lib.hid hfin
      replace hr2 := Lib.hid hr2
      replace hX := Lib.hid hX
      replace hin := Lib.hid hin
      clear hP hpg
      rcases hcase with h1 | ⟨h1, h2⟩
      all_goals
        go_wp2_with (first | (with_reducible refine (his.out _).mono ?_; rintro e w2 ⟨rfl, rfl⟩) | (refine loadW27 hX.out.b hwl rfl _ rfl rfl ?_) | (refine storeW27 hX.out.r hwl hone.out rfl _ _ rfl rfl rfl rfl ?_))
        exact bodyPost_ret (results_row_slot rfl _ hfin.out.1 rfl _ Try.underlying57 rfl 36 sizeW27 hwl) rfl ⟨_, by rw [hr2.out, hcs.out]; rfl, by rw [hr2.out]; exact hfin.out.2.1, hfin.out.2.2⟩
    · obtain ⟨i, rfl⟩ : ∃ i : Nat, id = i := ⟨id.toNat, by unfold inId at hin; omega⟩
      have hi : i < 256 := by unfold inId at hin; omega
      have hi0 : (0 : Int) ≤ (i : Int) := by omega
      have hi1 : (i : Int) < 256 := by omega
      have h1 : ¬ prog < 0 := by omega
      have h2 : ¬ 15 < prog := by omega
      obtain ⟨q, cap, b, off, rfl, rfl, _, hcm, y0, y1⟩ := (hP.at i hi)
      cases hs : s.sh i with
      | true =>
        rw [hs] at y0
        have hfin := hX.out (cs2 := cs) hP
        have hr2 : r = (s, 22) := by rw [hr.out]; unfold setW; rw [if_neg (not_not_intro hin), if_neg hpg, if_pos (show s.sh ((i : Int)).toNat = true from hs)]
        replace hfin := Lib.hid hfin
        replace hr2 := Lib.hid hr2
        replace hX := Lib.hid hX
        replace hin := Lib.hid hin
        clear hP hpg
        go_wp2_with (first | (with_reducible refine (his.out _).mono ?_; rintro e w2 ⟨rfl, rfl⟩) | (refine loadW27 hX.out.b hwl rfl _ rfl rfl ?_) | (refine storeW27 hX.out.r hwl hone.out rfl _ _ rfl rfl rfl rfl ?_))
        exact bodyPost_ret (results_row_slot rfl _ hfin.out.1 rfl _ Try.underlying57 rfl 36 sizeW27 hwl) rfl ⟨_, by rw [hr2.out, hcs.out]; rfl, by rw [hr2.out]; exact hfin.out.2.1, hfin.out.2.2⟩
      | false =>
        rw [hs] at y0
        have hr2 : r = ({ s with pr := updI s.pr i (prog + 1) }, 0) := by
          rw [hr.out]; unfold setW; rw [if_neg (not_not_intro hin), if_neg hpg, if_neg (by rw [show ((i : Int)).toNat = i from rfl, hs]; decide)]; rfl
        have hset := hset0.out W hX.k i hi (prog + 1)
        rw [show prog + 1 - 1 = prog by omega, updB_at hs] at hset
        have hZW := hX.low hZ.out
        have hKw := hX.k.size
        replace hset := Lib.hid hset
        replace hr2 := Lib.hid hr2
        replace hin := Lib.hid hin
        replace hZW := Lib.hid hZW
        clear hpg
        go_wp2_with (first | (with_reducible refine (his.out _).mono ?_; rintro e w2 ⟨rfl, rfl⟩) | (refine loadW27 hX.b hwl rfl _ rfl rfl ?_))
        refine hset.out.mono ?_
        rintro e W2 ⟨ua, rfl, hrow, hK2⟩
        have hX2 := hX.kept hK2
        have hP2 : RW (ZB Z B R) W2 vq vr ua { s with pr := updI s.pr i (prog + 1) } := ⟨(hP.kept hK2).pd, hrow.slcs, hrow.inZ hZW.out⟩
        have hfin := hX2.out (cs2 := wkC n vq vr ua s.on) hP2
        have hwl2 := wkC_len n vq vr ua s.on
        have hone2 := wkC_one (n := n) (on := s.on) hP2.ones.1 hP2.ones.2.1 hP2.ones.2.2
        replace hX2 := Lib.hid hX2
        replace hfin := Lib.hid hfin
        replace hone2 := Lib.hid hone2
        clear hP hP2 hX hrow hset hK2
        generalize hcs2 : wkC n vq vr ua s.on = cs2 at *
        go_wp2_with (first | (refine storeW27 hX2.out.r hwl2 hone2.out rfl _ _ rfl rfl rfl rfl ?_))
        exact bodyPost_ret (results_row_slot rfl _ hfin.out.1 rfl _ Try.underlying57 rfl 36 sizeW27 hwl2) rfl ⟨ua, by rw [hr2.out, hcs2]; rfl, by rw [hr2.out]; exact hfin.out.2.1, hfin.out.2.2⟩
  · have hfin := hX.out (cs2 := cs) hP
    have hr2 : r = (s, 2) := by rw [hr.out]; unfold setW; rw [if_pos hin]
    simp only [decide_eq_false hin] at his
    replace his := Lib.hid his
    replace hfin := Lib.hid hfin
    replace hr2 := Lib.hid hr2
    replace hX := Lib.hid hX
    replace hin := Lib.hid hin
    clear hP
    go_wp2_with (first | (with_reducible refine (his.out _).mono ?_; rintro e w2 ⟨rfl, rfl⟩) | (refine loadW27 hX.out.b hwl rfl _ rfl rfl ?_) | (refine storeW27 hX.out.r hwl hone.out rfl _ _ rfl rfl rfl rfl ?_))
    exact bodyPost_ret (results_row_slot rfl _ hfin.out.1 rfl _ Try.underlying57 rfl 36 sizeW27 hwl) rfl ⟨_, by rw [hr2.out, hcs.out]; rfl, by rw [hr2.out]; exact hfin.out.2.1, hfin.out.2.2⟩
-- END SET
set_option maxRecDepth 100000 in
set_option maxHeartbeats 2000000 in
theorem rpost27_any (h : RW Z w vq vr va s) (hZ : ∀ b, Z b → b < w.heap.size) (hQ : s.Q.length ≤ 10000) (hp0 : ∀ i, 0 ≤ s.pr i) (id c : Int) :
    Calls Try.prog 45 #[rk n vq vr va s.on, .int .i64 id, .int .i64 c] w fun e w' => ∃ uq ur ua, e = .returned (.tuple #[rk n uq ur ua s.on, .int .i64 (postW n s id c).2]) ∧ RW Z w' uq ur ua (postW n s id c).1 ∧ Keeps w w' := by
  obtain ⟨r, hr⟩ : ∃ r, r = postW n s id c := ⟨_, rfl⟩
  rw [← hr]
  replace hr := Lib.hid hr
  replace hZ := Lib.hid hZ
  obtain ⟨vqp, vqk, hvq, -⟩ := h.pd.q.get
  obtain ⟨vrp, vrk, hvr, -⟩ := h.pd.r.get
  generalize s.Q.length = vqn at hvq
  generalize s.Rn.length = vrn at hvr
  subst hvq
  subst hvr
  obtain ⟨hq1, hr1, ha1⟩ := h.ones
  have his := ris27_any id
  have hwl := wkC_len n (.slice vqp vqn vqk) (.slice vrp vrn vrk) va s.on
  have hone := wkC_one (n := n) (on := s.on) hq1 hr1 ha1
  replace hone := Lib.hid hone
  unfold rk
  have c0 : (wkC n (.slice vqp vqn vqk) (.slice vrp vrn vrk) va s.on)[0]? = some (.int .i64 (n : Int)) := rfl
  have c1 : (wkC n (.slice vqp vqn vqk) (.slice vrp vrn vrk) va s.on)[1]? = some (.slice vqp vqn vqk) := rfl
  have c2 : (wkC n (.slice vqp vqn vqk) (.slice vrp vrn vrk) va s.on)[2]? = some (.slice vrp vrn vrk) := rfl
  have c3 : (wkC n (.slice vqp vqn vqk) (.slice vrp vrn vrk) va s.on)[3]? = some va := rfl
  have cU := fun uq ur => (show (((wkC n (.slice vqp vqn vqk) (.slice vrp vrn vrk) va s.on).set 0 (.int .i64 (n : Int))).set 1 uq).set 2 ur = wkC n uq ur va s.on from rfl)
  generalize hcs : wkC n (.slice vqp vqn vqk) (.slice vrp vrn vrk) va s.on = cs at *
  replace c0 := Lib.hid c0
  replace c1 := Lib.hid c1
  replace c2 := Lib.hid c2
  replace c3 := Lib.hid c3
  replace cU := Lib.hid cU
  replace hcs := Lib.hid hcs
  go_enter Try.func45, Try.ntmps45
  go_upto_region 1 with (fail)
  obtain ⟨B, hB⟩ : ∃ B, B = w.heap.size := ⟨_, rfl⟩
  obtain ⟨R, hR⟩ : ∃ R, R = w.heap.size + 1 := ⟨_, rfl⟩
  refine wp_gen (fun W => Bx27 w B R cs W) (Bx27.start hwl hB hR) ?_
  rw [← hR, ← hB]
  clear hB hR
  rintro W hX
  have z0 := hX.b.cellK c0.out
  have z1 := hX.b.cellK c1.out
  have z2 := hX.b.cellK c2.out
  have z3 := hX.b.cellK c3.out
  have hP := hX.rw h
  by_cases hin : inId id
  · simp only [decide_eq_true hin] at his
    replace his := Lib.hid his
    have hin' := not_not_intro hin
    obtain ⟨i, rfl⟩ : ∃ i : Nat, id = i := ⟨id.toNat, by unfold inId at hin; omega⟩
    have hi : i < 256 := by unfold inId at hin; omega
    have hi0 : (0 : Int) ≤ (i : Int) := by omega
    have hi1 : (i : Int) < 256 := by omega
    replace hin := Lib.hid hin
    by_cases hc : c < 0 ∨ (n : Int) ≤ c
    · have hcase : c < 0 ∨ (¬ c < 0 ∧ (n : Int) ≤ c) := by omega
      have hfin := hX.out (cs2 := cs) hP
      have hr2 : r = (s, 2) := by rw [hr.out]; unfold postW; rw [if_neg hin', if_pos hc]
      replace hfin := Lib.hid hfin
      replace hr2 := Lib.hid hr2
      replace hX := Lib.hid hX
      clear hP
      clear hc
      rcases hcase with h1 | ⟨h1, h2⟩
      all_goals
        go_wp2_with (first | (with_reducible refine (his.out _).mono ?_; rintro e w2 ⟨rfl, rfl⟩) | (refine loadW27 hX.out.b hwl rfl _ rfl rfl ?_) | (refine storeW27 hX.out.r hwl hone.out rfl _ _ rfl rfl rfl rfl ?_))
        exact bodyPost_ret (results_row_slot rfl _ hfin.out.1 rfl _ Try.underlying57 rfl 36 sizeW27 hwl) rfl ⟨_, _, _, by rw [hr2.out, hcs.out]; rfl, by rw [hr2.out]; exact hfin.out.2.1, hfin.out.2.2⟩
    · have h1 : ¬ c < 0 := by omega
      have h2 : ¬ (n : Int) ≤ c := by omega
      obtain ⟨q, cap, b, off, rfl, rfl, _, hcm, y0, y1⟩ := (hP.at i hi)
      cases hs : s.sh i with
      | true =>
        rw [hs] at y0
        have hfin := hX.out (cs2 := cs) hP
        have hr2 : r = (s, 22) := by rw [hr.out]; unfold postW; rw [if_neg hin', if_neg hc, if_pos (show s.sh ((i : Int)).toNat = true from hs)]
        replace hfin := Lib.hid hfin
        replace hr2 := Lib.hid hr2
        replace hX := Lib.hid hX
        clear hP
        clear hc
        go_wp2_with (first | (with_reducible refine (his.out _).mono ?_; rintro e w2 ⟨rfl, rfl⟩) | (refine loadW27 hX.out.b hwl rfl _ rfl rfl ?_) | (refine storeW27 hX.out.r hwl hone.out rfl _ _ rfl rfl rfl rfl ?_))
        exact bodyPost_ret (results_row_slot rfl _ hfin.out.1 rfl _ Try.underlying57 rfl 36 sizeW27 hwl) rfl ⟨_, _, _, by rw [hr2.out, hcs.out]; rfl, by rw [hr2.out]; exact hfin.out.2.1, hfin.out.2.2⟩
      | false =>
        rw [hs] at y0
        have hns : ¬ s.sh ((i : Int)).toNat = true := by rw [show ((i : Int)).toNat = i from rfl, hs]; decide
        by_cases hp : s.pr i = 0
        · rw [hp, show (0 : Int) - 1 = -1 by decide] at y1
          have hfin := hX.out (cs2 := cs) hP
          have hr2 : r = (s, 1) := by rw [hr.out]; unfold postW; rw [if_neg hin', if_neg hc, if_neg hns, if_pos (show s.pr ((i : Int)).toNat = 0 from hp)]
          replace hfin := Lib.hid hfin
          replace hr2 := Lib.hid hr2
          replace hX := Lib.hid hX
          clear hP
          clear hc
          go_wp2_with (first | (with_reducible refine (his.out _).mono ?_; rintro e w2 ⟨rfl, rfl⟩) | (refine loadW27 hX.out.b hwl rfl _ rfl rfl ?_) | (refine storeW27 hX.out.r hwl hone.out rfl _ _ rfl rfl rfl rfl ?_))
          exact bodyPost_ret (results_row_slot rfl _ hfin.out.1 rfl _ Try.underlying57 rfl 36 sizeW27 hwl) rfl ⟨_, _, _, by rw [hr2.out, hcs.out]; rfl, by rw [hr2.out]; exact hfin.out.2.1, hfin.out.2.2⟩
        · have hp1 : ¬ s.pr i - 1 < 0 := by have := hp0 i; omega
          obtain ⟨ck, rfl⟩ : ∃ ck : Nat, c = ck := ⟨c.toNat, by omega⟩
          have hZW := hX.low hZ.out
          have hadd := radd_any (n := n) (hP.pd.kept (Keeps.alloc W (.cells #[.int .i64 (i : Int)] 3))) (fun x hx => by have := hZW x hx; simp; omega) (.slice (some ⟨W.heap.size, 0, none⟩) 1 1) [(i : Int)] (ints_one25 W i) ck (by omega) hQ (by simp)
          unfold pd at hadd
          have hr2 : r = ({ s with Q := (addM s.Q ck [(i : Int)]).1 }, (addM s.Q ck [(i : Int)]).2) := by
            rw [hr.out]; unfold postW; rw [if_neg hin', if_neg hc, if_neg hns, if_neg (show ¬ s.pr ((i : Int)).toNat = 0 from hp)]; unfold addC; rw [if_neg hc]
          generalize (addM s.Q ck [(i : Int)]).2 = er at *
          generalize (addM s.Q ck [(i : Int)]).1 = Q' at *
          replace hadd := Lib.hid hadd
          replace hr2 := Lib.hid hr2
          replace hp := Lib.hid hp
          replace hns := Lib.hid hns
          have hX0 := Lib.hid hX
          have hP0 := Lib.hid hP
          clear hc hP hZW hX
          generalize s.pr i - 1 = pz at *
          go_wp2_with (first | (with_reducible refine (his.out _).mono ?_; rintro e w2 ⟨rfl, rfl⟩))
          refine hadd.out.mono ?_
          rintro e W2 ⟨uq, rfl, hPD, hK2⟩
          obtain ⟨uqp, uqk, huq, -⟩ := hPD.q.get
          generalize Q'.length = uqn at huq
          subst huq
          have hK3 : Keeps W (W2.alloc (.cells #[.int .i64 (n : Int), .slice uqp uqn uqk, .slice vrp vrn vrk] 54)) := ((Keeps.alloc W _).trans hK2).trans (Keeps.alloc _ _)
          have hX3 := hX0.out.kept hK3
          have hX4 := ((hX3.set 0 (.int .i64 (n : Int))).set 1 (.slice uqp uqn uqk)).set 2 (.slice vrp vrn vrk)
          rw [cU.out] at hX4
          have hRW : RW (ZB Z B R) W2 (.slice uqp uqn uqk) (.slice vrp vrn vrk) (.slice (some ⟨b, off, none⟩) 256 cap) { s with Q := Q' } := ⟨hPD, (hP0.out.kept ((Keeps.alloc W _).trans hK2)).al, (hP0.out.kept ((Keeps.alloc W _).trans hK2)).za⟩
          have hRW4 := (((hRW.kept (Keeps.alloc W2 (.cells #[.int .i64 (n : Int), .slice uqp uqn uqk, .slice vrp vrn vrk] 54))).cellB 0 (.int .i64 (n : Int))).cellB 1 (.slice uqp uqn uqk)).cellB 2 (.slice vrp vrn vrk)
          have hfin := hX4.out (cs2 := wkC n (.slice uqp uqn uqk) (.slice vrp vrn vrk) (.slice (some ⟨b, off, none⟩) 256 cap) s.on) hRW4
          have hwl2 := wkC_len n (.slice uqp uqn uqk) (.slice vrp vrn vrk) (.slice (some ⟨b, off, none⟩) 256 cap) s.on
          have hone2 := wkC_one (n := n) (on := s.on) hRW.ones.1 hRW.ones.2.1 hRW.ones.2.2
          have k0 := hX3.b.cellK c0.out
          have k1 := hX3.b.cellK c1.out
          have k2 := hX3.b.cellK c2.out
          have f0 := hX3.b.frozen 0
          have f1 := hX3.b.frozen 1
          have f2 := hX3.b.frozen 2
          have hu1 := hRW.ones.1
          have hu2 := hRW.ones.2.1
          replace hX4 := Lib.hid hX4
          replace hfin := Lib.hid hfin
          replace hone2 := Lib.hid hone2
          have hBW := hX3.b.lt
          clear hX3 hRW hRW4 hPD hK2 hK3 hadd hX0 hP0
          generalize hcs2 : wkC n (.slice uqp uqn uqk) (.slice vrp vrn vrk) (.slice (some ⟨b, off, none⟩) 256 cap) s.on = cs2 at *
          go_wp2_with (first | (refine loadW27 hX4.out.b hwl2 rfl _ rfl rfl ?_) | (refine storeW27 hX4.out.r hwl2 hone2.out rfl _ _ rfl rfl rfl rfl ?_))
          trace_state
          exact bodyPost_ret (results_row_slot rfl _ hfin.out.1 rfl _ Try.underlying57 rfl 36 sizeW27 hwl2) rfl ⟨_, _, _, by rw [hr2.out, hcs2]; rfl, by rw [hr2.out]; exact hfin.out.2.1, hfin.out.2.2⟩
  · have hin' := hin
    simp only [decide_eq_false hin] at his
    replace his := Lib.hid his
    replace hin := Lib.hid hin
    have hfin := hX.out (cs2 := cs) hP
    have hr2 : r = (s, 2) := by rw [hr.out]; unfold postW; rw [if_pos hin']
    replace hfin := Lib.hid hfin
    replace hr2 := Lib.hid hr2
    replace hX := Lib.hid hX
    clear hP
    go_wp2_with (first | (with_reducible refine (his.out _).mono ?_; rintro e w2 ⟨rfl, rfl⟩) | (refine loadW27 hX.out.b hwl rfl _ rfl rfl ?_) | (refine storeW27 hX.out.r hwl hone.out rfl _ _ rfl rfl rfl rfl ?_))
    exact bodyPost_ret (results_row_slot rfl _ hfin.out.1 rfl _ Try.underlying57 rfl 36 sizeW27 hwl) rfl ⟨_, _, _, by rw [hr2.out, hcs.out]; rfl, by rw [hr2.out]; exact hfin.out.2.1, hfin.out.2.2⟩
end
end Go.Proofs.Ytcggbfpangnllaa
