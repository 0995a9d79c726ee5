/- The document's answer for works: End, Begin, New: the walks. -/
import Derived.Test.YtcggbfpangnllaaRef27e
namespace Go.Proofs.Ytcggbfpangnllaa
open Go.RowKit i64

section
variable {w W W' : World} {n : Nat} {vq vr va : Value} {on : Nat → Int} {sh : Nat → Bool} {pr : Nat → Int} {s : WS} {Z : Nat → Prop}
set_option maxRecDepth 100000 in
set_option maxHeartbeats 2000000 in
theorem rend27_any (h : RW Z w vq vr va s) (hZ : ∀ b, Z b → b < w.heap.size) (hR : s.Rn.length ≤ 10000) (x : Int) (hctx : lkOB s.Rn x = true → 0 ≤ x ∧ x < 32) :
    Calls Try.prog 48 #[rk n vq vr va s.on, .int .i64 x] w fun e w' => ∃ uq ur ua, e = .returned (.tuple #[rk n uq ur ua (endW s x).1.on, .int .i64 (endW s x).2.1, .int .i64 (endW s x).2.2]) ∧ RW Z w' uq ur ua (endW s x).1 ∧ Keeps w w' := by
  obtain ⟨r, hr⟩ : ∃ r, r = endW s x := ⟨_, rfl⟩
  rw [← hr]
  replace hr := Lib.hid hr
  replace hZ := Lib.hid hZ
  have hsz4 : ∀ c, c < 32 → ∀ vq vr va, (wkC n vq vr va s.on)[4 + c]? = some (.int .i64 (s.on c - 1)) := fun c hc vq vr va => wkC_on n vq vr va s.on c hc
  have hst4 : ∀ c vq vr va, (wkC n vq vr va s.on).set (4 + c) (.int .i64 (-1)) = wkC n vq vr va (updI s.on c 0) := fun c vq vr va => wkC_setOn n vq vr va s.on c 0
  replace hsz4 := Lib.hid hsz4
  replace hst4 := Lib.hid hst4
  obtain ⟨vqp, vqk, hvq, -⟩ := h.pd.q.get
  obtain ⟨vrp, vrk, hvr, -⟩ := h.pd.r.get
  generalize s.Q.length = vqn at hvq
  generalize s.Rn.length = vrn at hvr
  subst hvq
  subst hvr
  obtain ⟨hq1, hr1, ha1⟩ := h.ones
  have hwl := wkC_len n (.slice vqp vqn vqk) (.slice vrp vrn vrk) va s.on
  have hone := wkC_one (n := n) (on := s.on) hq1 hr1 ha1
  replace hone := Lib.hid hone
  unfold rk
  have c0 : (wkC n (.slice vqp vqn vqk) (.slice vrp vrn vrk) va s.on)[0]? = some (.int .i64 (n : Int)) := rfl
  have c1 : (wkC n (.slice vqp vqn vqk) (.slice vrp vrn vrk) va s.on)[1]? = some (.slice vqp vqn vqk) := rfl
  have c2 : (wkC n (.slice vqp vqn vqk) (.slice vrp vrn vrk) va s.on)[2]? = some (.slice vrp vrn vrk) := rfl
  have c3 : (wkC n (.slice vqp vqn vqk) (.slice vrp vrn vrk) va s.on)[3]? = some va := rfl
  have cU := fun uq ur => (show (((wkC n (.slice vqp vqn vqk) (.slice vrp vrn vrk) va s.on).set 0 (.int .i64 (n : Int))).set 1 uq).set 2 ur = wkC n uq ur va s.on from rfl)
  generalize hcs : wkC n (.slice vqp vqn vqk) (.slice vrp vrn vrk) va s.on = cs at *
  replace c0 := Lib.hid c0
  replace c1 := Lib.hid c1
  replace c2 := Lib.hid c2
  replace c3 := Lib.hid c3
  replace cU := Lib.hid cU
  replace hcs := Lib.hid hcs
  go_enter Try.func48, Try.ntmps48
  go_upto_region 1 with (fail)
  obtain ⟨B, hB⟩ : ∃ B, B = w.heap.size := ⟨_, rfl⟩
  obtain ⟨R, hR⟩ : ∃ R, R = w.heap.size + 1 := ⟨_, rfl⟩
  refine wp_gen (fun W => Bx27 w B R cs W) (Bx27.start hwl hB hR) ?_
  rw [← hR, ← hB]
  clear hB hR
  rintro W hX
  have z0 := hX.b.cellK c0.out
  have z1 := hX.b.cellK c1.out
  have z2 := hX.b.cellK c2.out
  have z3 := hX.b.cellK c3.out
  have hP := hX.rw h
  have hen := rend_any (n := n) hP.pd (hX.low hZ.out) (by omega) x
  unfold pd at hen
  have hX0 := Lib.hid hX
  have hP0 := Lib.hid hP
  cases hl : lkOB s.Rn x with
  | false =>
    have hend : endM s.Rn x = (s.Rn, 0, 4) := by unfold endM; rw [hl]; rfl
    rw [hend] at hen
    have hr2 : r = (s, 0, 4) := by rw [hr.out]; unfold endW; rw [hl]; rfl
    replace hen := Lib.hid hen
    replace hr2 := Lib.hid hr2
    replace hl := Lib.hid hl
    clear hX hP hend hctx
    go_wp2_with fail
    refine hen.out.mono ?_
    rintro e W2 ⟨ur, rfl, hPD, hK2⟩
    obtain ⟨urp, urk, hur, -⟩ := hPD.r.get
    generalize s.Rn.length = urn at hur
    subst hur
    have hK3 : Keeps W (W2.alloc (.cells #[.int .i64 (n : Int), .slice vqp vqn vqk, .slice urp urn urk] 54)) := hK2.trans (Keeps.alloc _ _)
    have hX3 := hX0.out.kept hK3
    have hX4 := ((hX3.set 0 (.int .i64 (n : Int))).set 1 (.slice vqp vqn vqk)).set 2 (.slice urp urn urk)
    rw [cU.out] at hX4
    have hRW : RW (ZB Z B R) W2 (.slice vqp vqn vqk) (.slice urp urn urk) va s := ⟨hPD, (hP0.out.kept hK2).al, (hP0.out.kept hK2).za⟩
    have hRW4 := (((hRW.kept (Keeps.alloc W2 (.cells #[.int .i64 (n : Int), .slice vqp vqn vqk, .slice urp urn urk] 54))).cellB 0 (.int .i64 (n : Int))).cellB 1 (.slice vqp vqn vqk)).cellB 2 (.slice urp urn urk)
    have k0 := hX3.b.cellK c0.out
    have k1 := hX3.b.cellK c1.out
    have k2 := hX3.b.cellK c2.out
    have f0 := hX3.b.frozen 0
    have f1 := hX3.b.frozen 1
    have f2 := hX3.b.frozen 2
    have hBW := hX3.b.lt
    have hwl2 := wkC_len n (.slice vqp vqn vqk) (.slice urp urn urk) va s.on
    have hone2 := wkC_one (n := n) (on := s.on) hRW.ones.1 hRW.ones.2.1 hRW.ones.2.2
    replace hone2 := Lib.hid hone2
    have hfin := hX4.out (cs2 := wkC n (.slice vqp vqn vqk) (.slice urp urn urk) va s.on) hRW4
    replace hX4 := Lib.hid hX4
    replace hfin := Lib.hid hfin
    clear hX3 hRW hRW4 hPD hK2 hK3 hen hX0 hP0
    generalize hcs2 : wkC n (.slice vqp vqn vqk) (.slice urp urn urk) va s.on = cs2 at *
    go_wp2_with (first | (refine loadW27 hX4.out.b hwl2 rfl _ rfl rfl ?_) | (refine storeW27 hX4.out.r hwl2 hone2.out rfl _ _ rfl rfl rfl rfl ?_))
    exact bodyPost_ret (results_row_slots rfl _ hfin.out.1 rfl _ Try.underlying57 rfl 36 sizeW27 hwl2) rfl ⟨_, _, _, by rw [hr2.out, hcs2]; rfl, by rw [hr2.out]; exact hfin.out.2.1, hfin.out.2.2⟩
  | true =>
    obtain ⟨hx0, hx1⟩ := hctx hl
    obtain ⟨t, rfl⟩ : ∃ t : Nat, x = t := ⟨x.toNat, by omega⟩
    have ht : t < 32 := by omega
    have hend : endM s.Rn t = ((endM s.Rn t).1, lkO s.Rn t, 0) := by unfold endM; rw [hl]; rfl
    rw [hend] at hen
    have hr2 : r = ({ s with on := updI s.on t 0, Rn := (endM s.Rn t).1 }, lkO s.Rn t, 0) := by rw [hr.out]; unfold endW; rw [hl, if_pos rfl]; rfl
    generalize (endM s.Rn t).1 = Rn' at *
    generalize lkO s.Rn t = z at *
    replace hen := Lib.hid hen
    replace hr2 := Lib.hid hr2
    replace hl := Lib.hid hl
    clear hX hP hend hctx
    go_wp2_with fail
    refine hen.out.mono ?_
    rintro e W2 ⟨ur, rfl, hPD, hK2⟩
    obtain ⟨urp, urk, hur, -⟩ := hPD.r.get
    generalize Rn'.length = urn at hur
    subst hur
    have hKA : Keeps W (W2.alloc (.cells #[.int .i64 (n : Int), .slice vqp vqn vqk, .slice urp urn urk] 54)) := hK2.trans (Keeps.alloc _ _)
    have hXA := hX0.out.kept hKA
    have hXB := hXA.set (4 + t) (.int .i64 (-1))
    have hcT := hXA.b.cellK (by rw [← hcs.out]; exact hsz4.out t ht _ _ _ : cs[4 + t]? = some (.int .i64 (s.on t - 1)))
    have hfT := hXA.b.frozen (4 + t)
    have hX4 := ((hXB.set 0 (.int .i64 (n : Int))).set 1 (.slice vqp vqn vqk)).set 2 (.slice urp urn urk)
    have hcU4 : (((cs.set (4 + t) (.int .i64 (-1))).set 0 (.int .i64 (n : Int))).set 1 (.slice vqp vqn vqk)).set 2 (.slice urp urn urk) = wkC n (.slice vqp vqn vqk) (.slice urp urn urk) va (updI s.on t 0) := by
      rw [← hcs.out, hst4.out]; rfl
    rw [hcU4] at hX4
    have hRW : RW (ZB Z B R) W2 (.slice vqp vqn vqk) (.slice urp urn urk) va { s with on := updI s.on t 0, Rn := Rn' } := ⟨hPD, (hP0.out.kept hK2).al, (hP0.out.kept hK2).za⟩
    have hRW4 := ((((hRW.kept (Keeps.alloc W2 (.cells #[.int .i64 (n : Int), .slice vqp vqn vqk, .slice urp urn urk] 54))).cellB (4 + t) (.int .i64 (-1))).cellB 0 (.int .i64 (n : Int))).cellB 1 (.slice vqp vqn vqk)).cellB 2 (.slice urp urn urk)
    have k0 := hXB.b.cellK (by rw [← hcs.out, hst4.out]; rfl : (cs.set (4 + t) (.int .i64 (-1)))[0]? = some (.int .i64 (n : Int)))
    have k1 := hXB.b.cellK (by rw [← hcs.out, hst4.out]; rfl : (cs.set (4 + t) (.int .i64 (-1)))[1]? = some (.slice vqp vqn vqk))
    have k2 := hXB.b.cellK (by rw [← hcs.out, hst4.out]; rfl : (cs.set (4 + t) (.int .i64 (-1)))[2]? = some (.slice vrp vrn vrk))
    have f0 := hXB.b.frozen 0
    have f1 := hXB.b.frozen 1
    have f2 := hXB.b.frozen 2
    have hBW := hXA.b.lt
    have hne : B ≠ W2.heap.size := by have := (hX0.out.kept hK2).b.lt; omega
    have hwl2 := wkC_len n (.slice vqp vqn vqk) (.slice urp urn urk) va (updI s.on t 0)
    have hone2 := wkC_one (n := n) (on := updI s.on t 0) hRW.ones.1 hRW.ones.2.1 hRW.ones.2.2
    have hG : (fun W5 => Bx27 w B R (wkC n (.slice vqp vqn vqk) (.slice urp urn urk) va (updI s.on t 0)) W5 ∧ RW (ZB Z B R) W5 (.slice vqp vqn vqk) (.slice urp urn urk) va { s with on := updI s.on t 0, Rn := Rn' }) _ := ⟨hX4, hRW4⟩
    replace hone2 := Lib.hid hone2
    replace hG := Lib.hid hG
    clear hXA hXB hKA hRW hRW4 hPD hK2 hen hX0 hP0 hcU4 hX4
    generalize s.on t - 1 = ot at *
    go_upto_region 5 with (fail)
    refine wp_gen (fun W5 => Bx27 w B R (wkC n (.slice vqp vqn vqk) (.slice urp urn urk) va (updI s.on t 0)) W5 ∧ RW (ZB Z B R) W5 (.slice vqp vqn vqk) (.slice urp urn urk) va { s with on := updI s.on t 0, Rn := Rn' }) hG.out ?_
    clear hG k0 k1 k2 f0 f1 f2 hcT hfT
    rintro W5 ⟨hX4, hRW4⟩
    have hfin := hX4.out (cs2 := wkC n (.slice vqp vqn vqk) (.slice urp urn urk) va (updI s.on t 0)) hRW4
    replace hX4 := Lib.hid hX4
    replace hfin := Lib.hid hfin
    clear hRW4
    generalize hcs2 : wkC n (.slice vqp vqn vqk) (.slice urp urn urk) va (updI s.on t 0) = cs2 at *
    go_wp2_with (first | (refine loadW27 hX4.out.b hwl2 rfl _ rfl rfl ?_) | (refine storeW27 hX4.out.r hwl2 hone2.out rfl _ _ rfl rfl rfl rfl ?_))
    exact bodyPost_ret (results_row_slots rfl _ hfin.out.1 rfl _ Try.underlying57 rfl 36 sizeW27 hwl2) rfl ⟨_, _, _, by rw [hr2.out]; show _ = Ending.returned (.tuple #[.agg (wkC n (.slice vqp vqn vqk) (.slice urp urn urk) va (updI s.on t 0)).toArray, .int .i64 z, .int .i64 0]); rw [hcs2]; rfl, by rw [hr2.out]; exact hfin.out.2.1, hfin.out.2.2⟩
end
end Go.Proofs.Ytcggbfpangnllaa
