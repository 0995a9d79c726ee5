/- The document's answer for works: Stop, Clear, Shut, State: the walks. -/
import Derived.Test.YtcggbfpangnllaaRef27b
namespace Go.Proofs.Ytcggbfpangnllaa
open Go.RowKit i64

theorem updI_at {f : Nat → Int} {i : Nat} {v : Int} (h : f i = v) : updI f i v = f := by
  funext k; unfold updI; split
  · rename_i e; rw [e, h]
  · rfl
theorem results_row_slots3 {P : Program} {fn : Func} {p q r t : Tmp} {ty : TypeId} (h : fn.results = #[.cell p ty, .tmp q, .tmp r, .tmp t]) (tmps : Array Value) {w : World} {g : Nat} {t0 : TypeId} {cs : List Value} (hb : Blk w g t0 cs)
    (hp : tmps.getD p undef = .pointer (some ⟨g, 0, none⟩)) (d : TypeDesc) (hu : P.underlying ty = some d) (hd : (match d with | .struct _ | .array _ _ => true | _ => false) = true) (n : Nat) (hi : (P.info? ty).map (·.size) = some n) (hn : cs.length = n) :
    (results fn tmps).run P w = .ok (.tuple #[.agg cs.toArray, tmps.getD q undef, tmps.getD r undef, tmps.getD t undef]) w := by
  have hr := results_row (fn := { fn with results := #[.cell p ty] }) rfl tmps hb hp d hu hd n hi hn
  simp [results, h] at hr ⊢
  cases hx : (asAddr (tmps[p]?.getD undef)).run P w <;> simp_all [Result.andThen]
section
variable {w W W' : World} {n : Nat} {vq vr va : Value} {on : Nat → Int} {sh : Nat → Bool} {pr : Nat → Int} {s : WS} {Z : Nat → Prop}
set_option maxRecDepth 100000 in
set_option maxHeartbeats 2000000 in
theorem rstop27_any (h : RW Z w vq vr va s) (hZ : ∀ b, Z b → b < w.heap.size) (hQ : s.Q.length ≤ 10000) (hp0 : ∀ i, 0 ≤ s.pr i) (id : Int) :
    Calls Try.prog 46 #[rk n vq vr va s.on, .int .i64 id] w fun e w' => ∃ uq ur ua, e = .returned (.tuple #[rk n uq ur ua s.on, .bool (stopW s id).2.1, .int .i64 (stopW s id).2.2]) ∧ RW Z w' uq ur ua (stopW s id).1 ∧ Keeps w w' := by
  obtain ⟨r, hr⟩ : ∃ r, r = stopW s id := ⟨_, rfl⟩
  rw [← hr]
  replace hr := Lib.hid hr
  replace hZ := Lib.hid hZ
  obtain ⟨vqp, vqk, hvq, -⟩ := h.pd.q.get
  obtain ⟨vrp, vrk, hvr, -⟩ := h.pd.r.get
  generalize s.Q.length = vqn at hvq
  generalize s.Rn.length = vrn at hvr
  subst hvq
  subst hvr
  obtain ⟨hq1, hr1, ha1⟩ := h.ones
  have his := ris27_any id
  have hwl := wkC_len n (.slice vqp vqn vqk) (.slice vrp vrn vrk) va s.on
  have hone := wkC_one (n := n) (on := s.on) hq1 hr1 ha1
  replace hone := Lib.hid hone
  unfold rk
  have c0 : (wkC n (.slice vqp vqn vqk) (.slice vrp vrn vrk) va s.on)[0]? = some (.int .i64 (n : Int)) := rfl
  have c1 : (wkC n (.slice vqp vqn vqk) (.slice vrp vrn vrk) va s.on)[1]? = some (.slice vqp vqn vqk) := rfl
  have c2 : (wkC n (.slice vqp vqn vqk) (.slice vrp vrn vrk) va s.on)[2]? = some (.slice vrp vrn vrk) := rfl
  have c3 : (wkC n (.slice vqp vqn vqk) (.slice vrp vrn vrk) va s.on)[3]? = some va := rfl
  have cU := fun uq ur => (show (((wkC n (.slice vqp vqn vqk) (.slice vrp vrn vrk) va s.on).set 0 (.int .i64 (n : Int))).set 1 uq).set 2 ur = wkC n uq ur va s.on from rfl)
  generalize hcs : wkC n (.slice vqp vqn vqk) (.slice vrp vrn vrk) va s.on = cs at *
  replace c0 := Lib.hid c0
  replace c1 := Lib.hid c1
  replace c2 := Lib.hid c2
  replace c3 := Lib.hid c3
  replace cU := Lib.hid cU
  replace hcs := Lib.hid hcs
  go_enter Try.func46, Try.ntmps46
  go_upto_region 1 with (fail)
  obtain ⟨B, hB⟩ : ∃ B, B = w.heap.size := ⟨_, rfl⟩
  obtain ⟨R, hR⟩ : ∃ R, R = w.heap.size + 1 := ⟨_, rfl⟩
  refine wp_gen (fun W => Bx27 w B R cs W) (Bx27.start hwl hB hR) ?_
  rw [← hR, ← hB]
  clear hB hR
  rintro W hX
  have z0 := hX.b.cellK c0.out
  have z1 := hX.b.cellK c1.out
  have z2 := hX.b.cellK c2.out
  have z3 := hX.b.cellK c3.out
  have hP := hX.rw h
  by_cases hin : inId id
  · simp only [decide_eq_true hin] at his
    replace his := Lib.hid his
    have hin' := not_not_intro hin
    obtain ⟨i, rfl⟩ : ∃ i : Nat, id = i := ⟨id.toNat, by unfold inId at hin; omega⟩
    have hi : i < 256 := by unfold inId at hin; omega
    have hi0 : (0 : Int) ≤ (i : Int) := by omega
    have hi1 : (i : Int) < 256 := by omega
    replace hin := Lib.hid hin
    obtain ⟨q, cap, b, off, rfl, rfl, _, hcm, y0, y1⟩ := (hP.at i hi)
    by_cases hp : s.pr i = 0
    · rw [hp, show (0 : Int) - 1 = -1 by decide] at y1
      have hfin := hX.out (cs2 := cs) hP
      have hr2 : r = (s, false, 1) := by rw [hr.out]; unfold stopW; rw [if_neg hin', if_pos (show s.pr ((i : Int)).toNat = 0 from hp)]
      replace hfin := Lib.hid hfin
      replace hr2 := Lib.hid hr2
      replace hX := Lib.hid hX
      clear hP
      go_wp2_with (first | (with_reducible refine (his.out _).mono ?_; rintro e w2 ⟨rfl, rfl⟩) | (refine loadW27 hX.out.b hwl rfl _ rfl rfl ?_) | (refine storeW27 hX.out.r hwl hone.out rfl _ _ rfl rfl rfl rfl ?_))
      exact bodyPost_ret (results_row_slots rfl _ hfin.out.1 rfl _ Try.underlying57 rfl 36 sizeW27 hwl) rfl ⟨_, _, _, by rw [hr2.out, hcs.out]; rfl, by rw [hr2.out]; exact hfin.out.2.1, hfin.out.2.2⟩
    · have hp1 : ¬ s.pr i - 1 < 0 := by have := hp0 i; omega
      have hdel := rdel_any (n := n) hP.pd (hX.low hZ.out) (by omega) (i : Int)
      unfold pd at hdel
      have hr2 : r = ({ s with Q := s.Q.eraseP (·.1 == (i : Int)) }, lkIB s.Q i, 0) := by
        rw [hr.out]; unfold stopW; rw [if_neg hin', if_neg (show ¬ s.pr ((i : Int)).toNat = 0 from hp)]
      generalize s.Q.eraseP (·.1 == (i : Int)) = Q' at *
      generalize lkIB s.Q i = was at *
      replace hdel := Lib.hid hdel
      replace hr2 := Lib.hid hr2
      replace hp := Lib.hid hp
      have hX0 := Lib.hid hX
      have hP0 := Lib.hid hP
      clear hP hX
      generalize s.pr i - 1 = pz at *
      go_wp2_with (first | (with_reducible refine (his.out _).mono ?_; rintro e w2 ⟨rfl, rfl⟩))
      refine hdel.out.mono ?_
      rintro e W2 ⟨uq, rfl, hPD, hK2⟩
      obtain ⟨uqp, uqk, huq, -⟩ := hPD.q.get
      generalize Q'.length = uqn at huq
      subst huq
      have hK3 : Keeps W (W2.alloc (.cells #[.int .i64 (n : Int), .slice uqp uqn uqk, .slice vrp vrn vrk] 54)) := hK2.trans (Keeps.alloc _ _)
      have hX3 := hX0.out.kept hK3
      have hX4 := ((hX3.set 0 (.int .i64 (n : Int))).set 1 (.slice uqp uqn uqk)).set 2 (.slice vrp vrn vrk)
      rw [cU.out] at hX4
      have hRW : RW (ZB Z B R) W2 (.slice uqp uqn uqk) (.slice vrp vrn vrk) (.slice (some ⟨b, off, none⟩) 256 cap) { s with Q := Q' } := ⟨hPD, (hP0.out.kept hK2).al, (hP0.out.kept hK2).za⟩
      have hRW4 := (((hRW.kept (Keeps.alloc W2 (.cells #[.int .i64 (n : Int), .slice uqp uqn uqk, .slice vrp vrn vrk] 54))).cellB 0 (.int .i64 (n : Int))).cellB 1 (.slice uqp uqn uqk)).cellB 2 (.slice vrp vrn vrk)
      have k0 := hX3.b.cellK c0.out
      have k1 := hX3.b.cellK c1.out
      have k2 := hX3.b.cellK c2.out
      have f0 := hX3.b.frozen 0
      have f1 := hX3.b.frozen 1
      have f2 := hX3.b.frozen 2
      have hBW := hX3.b.lt
      have hwl2 := wkC_len n (.slice uqp uqn uqk) (.slice vrp vrn vrk) (.slice (some ⟨b, off, none⟩) 256 cap) s.on
      have hone2 := wkC_one (n := n) (on := s.on) hRW.ones.1 hRW.ones.2.1 hRW.ones.2.2
      replace hone2 := Lib.hid hone2
      have hfin := hX4.out (cs2 := wkC n (.slice uqp uqn uqk) (.slice vrp vrn vrk) (.slice (some ⟨b, off, none⟩) 256 cap) s.on) hRW4
      replace hX4 := Lib.hid hX4
      replace hfin := Lib.hid hfin
      clear hX3 hRW hRW4 hPD hK2 hK3 hdel hX0 hP0
      generalize hcs2 : wkC n (.slice uqp uqn uqk) (.slice vrp vrn vrk) (.slice (some ⟨b, off, none⟩) 256 cap) s.on = cs2 at *
      go_wp2_with (first | (refine loadW27 hX4.out.b hwl2 rfl _ rfl rfl ?_) | (refine storeW27 hX4.out.r hwl2 hone2.out rfl _ _ rfl rfl rfl rfl ?_))
      exact bodyPost_ret (results_row_slots rfl _ hfin.out.1 rfl _ Try.underlying57 rfl 36 sizeW27 hwl2) rfl ⟨_, _, _, by rw [hr2.out, hcs2]; rfl, by rw [hr2.out]; exact hfin.out.2.1, hfin.out.2.2⟩
  · have hin' := hin
    simp only [decide_eq_false hin] at his
    replace his := Lib.hid his
    replace hin := Lib.hid hin
    have hfin := hX.out (cs2 := cs) hP
    have hr2 : r = (s, false, 2) := by rw [hr.out]; unfold stopW; rw [if_pos hin']
    replace hfin := Lib.hid hfin
    replace hr2 := Lib.hid hr2
    replace hX := Lib.hid hX
    clear hP
    go_wp2_with (first | (with_reducible refine (his.out _).mono ?_; rintro e w2 ⟨rfl, rfl⟩) | (refine loadW27 hX.out.b hwl rfl _ rfl rfl ?_) | (refine storeW27 hX.out.r hwl hone.out rfl _ _ rfl rfl rfl rfl ?_))
    exact bodyPost_ret (results_row_slots rfl _ hfin.out.1 rfl _ Try.underlying57 rfl 36 sizeW27 hwl) rfl ⟨_, _, _, by rw [hr2.out, hcs.out]; rfl, by rw [hr2.out]; exact hfin.out.2.1, hfin.out.2.2⟩
set_option maxRecDepth 100000 in
set_option maxHeartbeats 2000000 in
theorem rclear27_any (h : RW Z w vq vr va s) (hZ : ∀ b, Z b → b < w.heap.size) (hQ : s.Q.length ≤ 10000) (id : Int) :
    Calls Try.prog 50 #[rk n vq vr va s.on, .int .i64 id] w fun e w' => ∃ uq ur ua, e = .returned (.tuple #[rk n uq ur ua s.on, .int .i64 (clearW s id).2]) ∧ RW Z w' uq ur ua (clearW s id).1 ∧ Keeps w w' := by
  obtain ⟨r, hr⟩ : ∃ r, r = clearW s id := ⟨_, rfl⟩
  rw [← hr]
  replace hr := Lib.hid hr
  replace hZ := Lib.hid hZ
  obtain ⟨vqp, vqk, hvq, -⟩ := h.pd.q.get
  obtain ⟨vrp, vrk, hvr, -⟩ := h.pd.r.get
  generalize s.Q.length = vqn at hvq
  generalize s.Rn.length = vrn at hvr
  subst hvq
  subst hvr
  obtain ⟨hq1, hr1, ha1⟩ := h.ones
  have his := ris27_any id
  have hwl := wkC_len n (.slice vqp vqn vqk) (.slice vrp vrn vrk) va s.on
  have hone := wkC_one (n := n) (on := s.on) hq1 hr1 ha1
  replace hone := Lib.hid hone
  unfold rk
  have c0 : (wkC n (.slice vqp vqn vqk) (.slice vrp vrn vrk) va s.on)[0]? = some (.int .i64 (n : Int)) := rfl
  have c1 : (wkC n (.slice vqp vqn vqk) (.slice vrp vrn vrk) va s.on)[1]? = some (.slice vqp vqn vqk) := rfl
  have c2 : (wkC n (.slice vqp vqn vqk) (.slice vrp vrn vrk) va s.on)[2]? = some (.slice vrp vrn vrk) := rfl
  have c3 : (wkC n (.slice vqp vqn vqk) (.slice vrp vrn vrk) va s.on)[3]? = some va := rfl
  have cU := fun uq ur => (show (((wkC n (.slice vqp vqn vqk) (.slice vrp vrn vrk) va s.on).set 0 (.int .i64 (n : Int))).set 1 uq).set 2 ur = wkC n uq ur va s.on from rfl)
  generalize hcs : wkC n (.slice vqp vqn vqk) (.slice vrp vrn vrk) va s.on = cs at *
  replace c0 := Lib.hid c0
  replace c1 := Lib.hid c1
  replace c2 := Lib.hid c2
  replace c3 := Lib.hid c3
  replace cU := Lib.hid cU
  replace hcs := Lib.hid hcs
  go_enter Try.func50, Try.ntmps50
  go_upto_region 1 with (fail)
  obtain ⟨B, hB⟩ : ∃ B, B = w.heap.size := ⟨_, rfl⟩
  obtain ⟨R, hR⟩ : ∃ R, R = w.heap.size + 1 := ⟨_, rfl⟩
  refine wp_gen (fun W => Bx27 w B R cs W) (Bx27.start hwl hB hR) ?_
  rw [← hR, ← hB]
  clear hB hR
  rintro W hX
  have z0 := hX.b.cellK c0.out
  have z1 := hX.b.cellK c1.out
  have z2 := hX.b.cellK c2.out
  have z3 := hX.b.cellK c3.out
  have hP := hX.rw h
  by_cases hin : inId id
  · simp only [decide_eq_true hin] at his
    replace his := Lib.hid his
    have hin' := not_not_intro hin
    obtain ⟨i, rfl⟩ : ∃ i : Nat, id = i := ⟨id.toNat, by unfold inId at hin; omega⟩
    have hi : i < 256 := by unfold inId at hin; omega
    have hi0 : (0 : Int) ≤ (i : Int) := by omega
    have hi1 : (i : Int) < 256 := by omega
    replace hin := Lib.hid hin
    obtain ⟨q, cap, b, off, rfl, rfl, _, hcm, y0, y1⟩ := (hP.at i hi)
    have hrun := rin_any (n := n) (vq := (.slice vqp vqn vqk)) hP.pd.r (i : Int)
    unfold pd at hrun
    generalize lkI s.Rn i = z at *
    cases hl : lkIB s.Rn i with
    | true =>
      rw [hl] at hrun
      have hXs := fun W2 (hK : Keeps W W2) => hX.kept hK
      have hPs := fun W2 (hK : Keeps W W2) => hP.kept hK
      have hr2 : r = (s, 21) := by rw [hr.out]; unfold clearW; rw [if_neg hin', if_pos hl]
      replace hrun := Lib.hid hrun
      replace hXs := Lib.hid hXs
      replace hPs := Lib.hid hPs
      replace hr2 := Lib.hid hr2
      replace hl := Lib.hid hl
      clear hP hX
      go_wp2_with (first | (with_reducible refine (his.out _).mono ?_; rintro e w2 ⟨rfl, rfl⟩))
      refine hrun.out.mono ?_
      rintro e W2 ⟨rfl, hK2⟩
      have hX2 := hXs.out W2 hK2
      have hfin := hX2.out (cs2 := cs) (hPs.out W2 hK2)
      replace hX2 := Lib.hid hX2
      replace hfin := Lib.hid hfin
      go_wp2_with (first | (refine loadW27 hX2.out.b hwl rfl _ rfl rfl ?_) | (refine storeW27 hX2.out.r hwl hone.out rfl _ _ rfl rfl rfl rfl ?_))
      exact bodyPost_ret (results_row_slot rfl _ hfin.out.1 rfl _ Try.underlying57 rfl 36 sizeW27 hwl) rfl ⟨_, _, _, by rw [hr2.out, hcs.out]; rfl, by rw [hr2.out]; exact hfin.out.2.1, hfin.out.2.2⟩
    | false =>
      rw [hl] at hrun
      have hXs := fun W2 (hK : Keeps W W2) => hX.kept hK
      have hPs := fun W2 (hK : Keeps W W2) => hP.kept hK
      have hdel := fun W2 (hK : Keeps W W2) => rdel_any (n := n) (hP.kept hK).pd (fun x hx => Nat.lt_of_lt_of_le (hX.low hZ.out x hx) hK.size) (by omega) (i : Int)
      unfold pd at hdel
      have hr2 : r = ({ s with sh := updB s.sh i false, pr := updI s.pr i 0, Q := s.Q.eraseP (·.1 == (i : Int)) }, 0) := by
        rw [hr.out]; unfold clearW; rw [if_neg hin', if_neg (by rw [hl]; decide)]; rfl
      have hZW := hX.low hZ.out
      generalize s.Q.eraseP (·.1 == (i : Int)) = Q' at *
      generalize lkIB s.Q i = was at *
      replace hrun := Lib.hid hrun
      replace hdel := Lib.hid hdel
      replace hXs := Lib.hid hXs
      replace hPs := Lib.hid hPs
      replace hr2 := Lib.hid hr2
      replace hl := Lib.hid hl
      replace hZW := Lib.hid hZW
      clear hP hX y0 y1
      go_wp2_with (first | (with_reducible refine (his.out _).mono ?_; rintro e w2 ⟨rfl, rfl⟩))
      refine hrun.out.mono ?_
      rintro e W1 ⟨rfl, hK1⟩
      have hX0 := hXs.out W1 hK1
      have hP0 := hPs.out W1 hK1
      have hd1 := hdel.out W1 hK1
      have e0 := hX0.b.cellK c0.out
      have e1 := hX0.b.cellK c1.out
      have e2 := hX0.b.cellK c2.out
      replace hX0 := Lib.hid hX0
      replace hP0 := Lib.hid hP0
      replace hd1 := Lib.hid hd1
      replace hK1 := Lib.hid hK1
      clear hdel hXs hPs
      go_wp2_with fail
      refine hd1.out.mono ?_
      rintro e W2 ⟨uq, rfl, hPD, hK2⟩
      obtain ⟨uqp, uqk, huq, -⟩ := hPD.q.get
      generalize Q'.length = uqn at huq
      subst huq
      have hK3 : Keeps W (W2) := hK1.out.trans hK2
      have hX3 := hX0.out.kept hK2
      have hX4 := ((hX3.set 0 (.int .i64 (n : Int))).set 1 (.slice uqp uqn uqk)).set 2 (.slice vrp vrn vrk)
      rw [cU.out] at hX4
      have hRW : RW (ZB Z B R) W2 (.slice uqp uqn uqk) (.slice vrp vrn vrk) (.slice (some ⟨b, off, none⟩) 256 cap) { s with Q := Q' } := ⟨hPD, (hP0.out.kept hK2).al, (hP0.out.kept hK2).za⟩
      have hRW4 := (((hRW.kept (Keeps.refl W2)).cellB 0 (.int .i64 (n : Int))).cellB 1 (.slice uqp uqn uqk)).cellB 2 (.slice vrp vrn vrk)
      have k0 := hX3.b.cellK c0.out
      have k1 := hX3.b.cellK c1.out
      have k2 := hX3.b.cellK c2.out
      have f0 := hX3.b.frozen 0
      have f1 := hX3.b.frozen 1
      have f2 := hX3.b.frozen 2
      have hBW := hX3.b.lt
      have hwl2 := wkC_len n (.slice uqp uqn uqk) (.slice vrp vrn vrk) (.slice (some ⟨b, off, none⟩) 256 cap) s.on
      have hone2 := wkC_one (n := n) (on := s.on) hRW.ones.1 hRW.ones.2.1 hRW.ones.2.2
      replace hone2 := Lib.hid hone2
      obtain ⟨W4, hW4⟩ : ∃ W4, W4 = ((W2.setCell ⟨B, 0, none⟩ (.int .i64 (n : Int))).setCell ⟨B, 1, none⟩ (.slice uqp uqn uqk)).setCell ⟨B, 2, none⟩ (.slice vrp vrn vrk) := ⟨_, rfl⟩
      rw [← hW4] at hX4 hRW4
      have hset := rset0_any (n := n) (on := s.on) hRW4.ones.1 hRW4.ones.2.1 hRW4.al i hi false 0
      rw [show (0 : Int) - 1 = -1 by decide] at hset
      unfold rk at hset
      have hZ4 : ∀ x, ZB Z B R x → x < W4.heap.size := by
        rintro x (hx | rfl | rfl)
        · have := hZ.out x hx; have := hX4.k.size; omega
        · exact hX4.b.lt
        · obtain ⟨_, h1, _⟩ := hX4.r; exact h1.lt
      replace hset := Lib.hid hset
      replace hZ4 := Lib.hid hZ4
      have hX4' := Lib.hid hX4
      replace hRW4 := Lib.hid hRW4
      replace hW4 := Lib.hid hW4
      clear hX3 hRW hPD hK2 hK3 hd1 hX0 hP0
      go_upto_region 7 with (fail)
      refine wp_gen (fun W5 => W4 = W5) hW4.out ?_
      rintro _ rfl
      clear k0 k1 k2 f0 f1 f2 e0 e1 e2 hBW
      go_wp2_with (first | (refine loadW27 hX4.b hwl2 rfl _ rfl rfl ?_))
      refine hset.out.mono ?_
      rintro e W6 ⟨ua, rfl, hrow, hK6⟩
      have hX6 := hX4'.out.kept hK6
      have hRW6 : RW (ZB Z B R) W6 (.slice uqp uqn uqk) (.slice vrp vrn vrk) ua { s with sh := updB s.sh i false, pr := updI s.pr i 0, Q := Q' } := ⟨(hRW4.out.kept hK6).pd, hrow.slcs, hrow.inZ hZ4.out⟩
      have hfin := hX6.out (cs2 := wkC n (.slice uqp uqn uqk) (.slice vrp vrn vrk) ua s.on) hRW6
      have hwl3 := wkC_len n (.slice uqp uqn uqk) (.slice vrp vrn vrk) ua s.on
      have hone3 := wkC_one (n := n) (on := s.on) hRW6.ones.1 hRW6.ones.2.1 hRW6.ones.2.2
      replace hX6 := Lib.hid hX6
      replace hfin := Lib.hid hfin
      replace hone3 := Lib.hid hone3
      clear hX4 hRW6 hrow hK6 hset
      generalize hcs3 : wkC n (.slice uqp uqn uqk) (.slice vrp vrn vrk) ua s.on = cs3 at *
      go_wp2_with (first | (refine storeW27 hX6.out.r hwl3 hone3.out rfl _ _ rfl rfl rfl rfl ?_))
      exact bodyPost_ret (results_row_slot rfl _ hfin.out.1 rfl _ Try.underlying57 rfl 36 sizeW27 hwl3) rfl ⟨_, _, ua, by rw [hr2.out, hcs3]; rfl, by rw [hr2.out]; exact hfin.out.2.1, hfin.out.2.2⟩
  · have hin' := hin
    simp only [decide_eq_false hin] at his
    replace his := Lib.hid his
    replace hin := Lib.hid hin
    have hfin := hX.out (cs2 := cs) hP
    have hr2 : r = (s, 2) := by rw [hr.out]; unfold clearW; rw [if_pos hin']
    replace hfin := Lib.hid hfin
    replace hr2 := Lib.hid hr2
    replace hX := Lib.hid hX
    clear hP
    go_wp2_with (first | (with_reducible refine (his.out _).mono ?_; rintro e w2 ⟨rfl, rfl⟩) | (refine loadW27 hX.out.b hwl rfl _ rfl rfl ?_) | (refine storeW27 hX.out.r hwl hone.out rfl _ _ rfl rfl rfl rfl ?_))
    exact bodyPost_ret (results_row_slot rfl _ hfin.out.1 rfl _ Try.underlying57 rfl 36 sizeW27 hwl) rfl ⟨_, _, _, by rw [hr2.out, hcs.out]; rfl, by rw [hr2.out]; exact hfin.out.2.1, hfin.out.2.2⟩
end
end Go.Proofs.Ytcggbfpangnllaa
