/- The law WorkPlays. -/
import Derived.Test.YtcggbfpangnllaaLaw27f
import Derived.Test.YtcggbfpangnllaaLaw27
namespace Go.Proofs.Ytcggbfpangnllaa
open Go.RowKit i64

/-- What holds while WorkPlays goes: both sides, the document's works in the block M. -/
structure LI (w : World) (k p rb cap n : Nat) (pp bb : Nat → Nat) (M : Nat) (vq vr va : Value) (s : WS) (W : World) : Prop where
  di : DI w k p rb cap n pp bb (fun b => FW k p rb n pp bb b ∨ b = M) vq vr va s W
  bm : Blk W M 57 (wkC n vq vr va s.on)
  own : w.heap.size ≤ M
  nf : ¬ FW k p rb n pp bb M
section
variable {w W W' : World} {k p rb cap n M : Nat} {pp bb : Nat → Nat} {s s' : WS} {vq vr va uq ur ua : Value}
theorem LI.kept (h : LI w k p rb cap n pp bb M vq vr va s W) (hk : Keeps W W') : LI w k p rb cap n pp bb M vq vr va s W' := ⟨h.di.kept hk, h.bm.keeps hk, h.own, h.nf⟩
theorem LI.keeps (h : LI w k p rb cap n pp bb M vq vr va s W) : Keeps w W := h.di.wi.keeps
theorem LI.next (h : LI w k p rb cap n pp bb M vq vr va s W) (hd : DI w k p rb cap n pp bb (fun b => FW k p rb n pp bb b ∨ b = M) uq ur ua s' W') (hC : Chg (FW k p rb n pp bb) W W') : LI w k p rb cap n pp bb M uq ur ua s' (W'.setRow M (wkC n uq ur ua s'.on).toArray) := by
  have hM : Chg (· = M) W' (W'.setRow M (wkC n uq ur ua s'.on).toArray) := Chg.setRow _ rfl
  have hown := h.own
  refine ⟨⟨hd.wi.far hM (fun b hb => by subst hb; exact ⟨fun hf => h.nf (.inl hf), fun e => h.nf (.inr e), hown⟩), hd.ok, hd.rw.chg hM (fun b hb => .inr hb), fun b hb => Nat.lt_of_lt_of_le (hd.low b hb) hM.size, hd.fw⟩, (h.bm.chg hC h.nf).setRow _, h.own, h.nf⟩
theorem LI.start {n : Nat} (hI : WI w k p rb cap n pp bb WS.zero W) {va : Value} {W2 : World} (hr : RowS 2 W.heap.size 62 W2 va (allE (fun _ => false) (fun _ => 0))) (hK : Keeps W W2) (hM : M = W2.heap.size) :
    LI w k p rb cap n pp bb M (.slice none 0 0) (.slice none 0 0) va WS.zero ((W2.alloc (.cells zW.toArray 57)).setRow M (wkC n (.slice none 0 0) (.slice none 0 0) va (fun _ => 0)).toArray) := by
  subst hM
  have hK3 : Keeps W2 ((W2.alloc (.cells zW.toArray 57)).setRow W2.heap.size (wkC n (.slice none 0 0) (.slice none 0 0) va (fun _ => 0)).toArray) := Chg.keeps (S := (· = W2.heap.size)) (Chg.setRow _ rfl) (Keeps.alloc _ _) (fun b hb e => by omega)
  have hfl : ∀ b, FW k p rb n pp bb b → b < W.heap.size := fun b hb => by
    rcases hb with hb | rfl
    · exact hI.pr.foot_lt b hb
    · exact hI.blk.lt
  have hs1 := hK.size
  have hs0 := hI.keeps.size
  have hs3 := hK3.size
  have hb3 : Blk ((W2.alloc (.cells zW.toArray 57)).setRow W2.heap.size (wkC n (.slice none 0 0) (.slice none 0 0) va (fun _ => 0)).toArray) W2.heap.size 57 (wkC n (.slice none 0 0) (.slice none 0 0) va (fun _ => 0)) := (Blk.new W2 _ zW).setRow _
  have hth : ∀ W, Ths W (.slice none 0 0) [] := fun W => SlcS.nil 2 W
  have hza : InZ (fun b => FW k p rb n pp bb b ∨ b = W2.heap.size) ((W2.alloc (.cells zW.toArray 57)).setRow W2.heap.size (wkC n (.slice none 0 0) (.slice none 0 0) va (fun _ => 0)).toArray) va := fun b hb => by
    have := row_own hr.1 b hb
    exact ⟨fun hz => hz.elim (fun hf => by have := hfl b hf; omega) (fun e => by omega), by omega⟩
  refine ⟨⟨hI.kept (hK.trans hK3), OkP.zero n, ⟨⟨hth _, hth _, fun b hb => by simp [Value.ownBlock] at hb, fun b hb => by simp [Value.ownBlock] at hb⟩, SlcS.below hr.slcs hK3, hza⟩, fun b hb => ?_, fun b hb => .inl hb⟩, hb3, by omega, fun hf => by have := hfl _ hf; omega⟩
  rcases hb with hb | rfl
  · have := hfl b hb; omega
  · exact hb3.lt
end
set_option maxRecDepth 100000 in
set_option maxHeartbeats 8000000 in
theorem lawPlays27_any (cp0 : Int) (v : Value) (acts : List Act27) (w : World) (hv : SlcS 4 w v (acts.map aE27)) :
    Calls Try.prog 6 #[.int .i64 cp0, v] w fun e w' => e = .returned (.bool true) ∧ Keeps w w' := by
  have hkn := fun (W : World) => known27_any W
  obtain ⟨n5, hn5, en⟩ := wrap_mod cp0 5 (by decide)
  obtain ⟨n, hn⟩ : ∃ n : Nat, n = 1 + n5 := ⟨_, rfl⟩
  have hnI : 1 + (n5 : Int) = (n : Int) := by omega
  have hst := WI.start (n := n) (by omega) (by omega) w
  have hnew := fun W => rnew27_any n W
  unfold rk at hnew
  obtain ⟨q, cap, rfl, hl, hc, _⟩ := SlcS.get hv
  rw [List.length_map] at hl ⊢
  have haI : (0 : Int) ≤ (acts.length : Int) := by omega
  rw [← hnI] at hst hnew
  have hn64 : n ≤ 64 := by omega
  have hn1 : 1 ≤ n := by omega
  replace hkn := Lib.hid hkn
  replace hst := Lib.hid hst
  replace hnew := Lib.hid hnew
  replace hv := Lib.hid hv
  replace hn := Lib.hid hn
  replace hnI := Lib.hid hnI
  go_enter Try.func6, Try.ntmps6
  go_wp2_with fail
  refine hst.out.mono ?_
  rintro e w1 ⟨k, p, rb, cap2, pp, bb, rfl, hI⟩
  replace hI := Lib.hid hI
  clear hst
  go_wp2_with fail
  refine (hnew.out w1).mono ?_
  rintro e w2 ⟨va, rfl, hr, hK⟩
  obtain ⟨M, hM⟩ : ∃ M, M = w2.heap.size := ⟨_, rfl⟩
  have hL := LI.start hI.out hr hK hM
  have hwl := wkC_len n (.slice none 0 0) (.slice none 0 0) va (fun _ => 0)
  have hone := wkC_one (n := n) (vq := .slice none 0 0) (vr := .slice none 0 0) (on := fun _ => 0) rfl rfl (slcs_oneCell hr.slcs)
  replace hL := Lib.hid hL
  replace hone := Lib.hid hone
  clear hr hK hI
  generalize hcs : wkC n (.slice none 0 0) (.slice none 0 0) va (fun _ => 0) = cs at *
  go_upto_region 6 with (refine storeW27 ⟨zW, Blk.new w2 _ zW, rfl⟩ hwl hone.out rfl _ _ rfl rfl rfl rfl ?_)
  rw [← hM]
  refine wp_gen (fun W => LI w k p rb cap2 n pp bb M (.slice none 0 0) (.slice none 0 0) va WS.zero W) hL.out ?_
  clear hL hone hwl hcs hM
  rintro W hL
  replace hL := Lib.hid hL
  go_wp2_with fail
  go_loopw [8] (fun i wr => ∃ (j : Nat) (s : WS) (vq vr va : Value), j ≤ acts.length ∧ j ≤ 60 ∧ i = .int .i64 (j : Int) ∧ LI w k p rb cap2 n pp bb M vq vr va s wr) (fun i _ => acts.length - (intOf i).toNat)
  case atStart => exact ⟨0, WS.zero, _, _, _, by omega, by omega, rfl, hL.out⟩
  case round =>
    clear hL
    obtain ⟨j, s, vq, vr, va2, hj, hj2, rfl, hL⟩ := hrel
    obtain ⟨wo, hwo⟩ : ∃ wo : World, wo = wr := ⟨_, rfl⟩
    rw [← hwo] at hL ⊢
    clear hwo
    by_cases hgo : j < acts.length ∧ j < 60
    · obtain ⟨hlt, h60⟩ := hgo
      have hltI := Int.ofNat_lt.2 hlt
      have h60I : (j : Int) < 60 := by omega
      have hk0 : (0 : Int) ≤ (j : Int) := by omega
      obtain ⟨q', c', hv', _, _, hcell⟩ := SlcS.get (SlcS.below hv.out hL.keeps)
      obtain ⟨ab, aoff, hq', hcell⟩ := hcell j (by rw [List.length_map]; exact hlt)
      simp only [Value.slice.injEq] at hv'
      obtain rfl : q = some ⟨ab, aoff, none⟩ := hv'.1.trans hq'
      have e0 : (acts.map aE27).getD j [] = aE27 acts[j] := by simp [List.getD, hlt]
      rw [e0] at hcell
      have y0 := hcell 0 (by decide)
      have y1 := hcell 1 (by decide)
      have y2 := hcell 2 (by decide)
      have y3 := hcell 3 (by decide)
      clear hcell hv' hq' e0
      generalize acts[j] = a at *
      obtain ⟨ki, id, cp, nn⟩ := a
      simp only [aE27, List.getD_cons_zero, List.getD_cons_succ, Nat.add_zero] at y0 y1 y2 y3
      replace hL := Lib.hid hL
      go_upto_region 11 with (fail)
      obtain ⟨A, hA⟩ : ∃ A, A = wo.heap.size := ⟨_, rfl⟩
      have hAn : ∀ b, (FW k p rb n pp bb b ∨ b = M) → b ≠ A := fun b hb => by have := hL.out.di.low b hb; omega
      refine wp_gen (fun W1 => LI w k p rb cap2 n pp bb M vq vr va2 s W1 ∧ Blk W1 A 45 (aE27 (ki, id, cp, nn))) ⟨hL.out.kept (Keeps.alloc _ _), by rw [hA]; exact Blk.new _ _ _⟩ ?_
      rw [← hA]
      clear hL hA y0 y1 y2 y3
      rintro W1 ⟨hL, hA⟩
      have y0 : W1.cell? ⟨A, 0, none⟩ = some (.int .i64 ki) := hA.cell 0 (by simp [aE27])
      have y1 : W1.cell? ⟨A, 1, none⟩ = some (.int .i64 id) := hA.cell 1 (by simp [aE27])
      have y2 : W1.cell? ⟨A, 2, none⟩ = some (.int .i64 cp) := hA.cell 2 (by simp [aE27])
      have y3 : W1.cell? ⟨A, 3, none⟩ = some (.int .i64 nn) := hA.cell 3 (by simp [aE27])
      have hdo := do27_any hL.di (ki, id, cp, nn)
      unfold rk at hdo
      replace hdo := show Calls _ _ #[_, _, .agg #[.int .i64 ki, .int .i64 id, .int .i64 cp, .int .i64 nn]] _ _ from hdo
      have hbm := hL.bm
      have hwl := wkC_len n vq vr va2 s.on
      generalize hcs : wkC n vq vr va2 s.on = cs at *
      replace hL := Lib.hid hL
      replace hA := Lib.hid hA
      replace hAn := Lib.hid hAn
      replace hdo := Lib.hid hdo
      replace hbm := Lib.hid hbm
      replace hcs := Lib.hid hcs
      go_wp2_with (refine loadW27 hbm.out hwl rfl _ rfl rfl ?_)
      refine hdo.out.mono ?_
      rintro e W2 ⟨s2, uq, ur, ua, rfl, hD2, hC2⟩
      have hL2 := hL.out.next hD2 hC2
      have hA2 : Blk (W2.setRow M (wkC n uq ur ua s2.on).toArray) A 45 (aE27 (ki, id, cp, nn)) := (hA.out.chg hC2 (fun hf => hAn.out A (.inl hf) rfl)).chg (S := (· = M)) (Chg.setRow _ rfl) (fun e => hAn.out A (.inr e) rfl)
      have hb2 := hbm.out.chg hC2 hL.out.nf
      have ho2 := wkC_one (n := n) (on := s2.on) hD2.rw.ones.1 hD2.rw.ones.2.1 hD2.rw.ones.2.2
      have hwl2 := wkC_len n uq ur ua s2.on
      obtain ⟨cs2, hcs2⟩ : ∃ cs2, cs2 = wkC n uq ur ua s2.on := ⟨_, rfl⟩
      rw [← hcs2] at hL2 hA2 ho2 hwl2 ⊢
      replace hL2 := Lib.hid hL2
      replace hA2 := Lib.hid hA2
      replace hb2 := Lib.hid hb2
      replace ho2 := Lib.hid ho2
      replace hcs2 := Lib.hid hcs2
      clear hL hA hAn hdo hbm hcs hD2 hC2 y0 y1 y2 y3
      go_upto_region 12 with (refine storeW27 ⟨cs, hb2.out, hwl⟩ hwl2 ho2.out rfl _ _ rfl rfl rfl rfl ?_)
      refine wp_gen (fun W3 => LI w k p rb cap2 n pp bb M uq ur ua s2 W3 ∧ Blk W3 A 45 (aE27 (ki, id, cp, nn))) ⟨hL2.out, hA2.out⟩ ?_
      clear hL2 hA2 hb2 ho2 hwl
      rintro W3 ⟨hL, hA⟩
      clear hcs2 hwl2
      have hlen := hL.di.wi.pr.lens
      have hon := hL.di.wi.hon hL.di.ok
      have hbl := hL.di.wi.busy_le cp
      have hbs := busy_same hL.di.ok cp
      have hrg : 0 ≤ ofP s2 id ∧ ofP s2 id ≤ 16 := by
        unfold ofP
        split
        · exact hL.di.wi.rng id.toNat
        · decide
      have hprl : ∀ i, 0 ≤ s2.pr i := fun i => (hL.di.wi.rng i).1
      have f0 := fun (X : World) (hk : Keeps W3 X) => (hL.kept hk).di.wi.ready cp
      have f1 := fun (X : World) (hk : Keeps W3 X) => rready27_any (n := n) (hL.kept hk).di.rw (by omega) hon cp (by omega)
      have f2 := fun (X : World) (hk : Keeps W3 X) => (hL.kept hk).di.wi.runs id
      have f3 := fun (X : World) (hk : Keeps W3 X) => rin_any (n := n) (vq := uq) (hL.kept hk).di.rw.pd.r id
      have f4 := fun (X : World) (hk : Keeps W3 X) => (hL.kept hk).di.wi.prog id
      have g1 := fun (X : World) (hk : Keeps W3 X) => (hL.kept hk).di.wi.state id
      have g2 := fun (X : World) (hk : Keeps W3 X) => rstate27_any (n := n) (hL.kept hk).di.rw hprl id
      have g3 := fun (X : World) (hk : Keeps W3 X) => (hL.kept hk).di.wi.busyP cp
      have g4 := fun (X : World) (_ : Keeps W3 X) => rbusy_any (w := X) (n := n) (vq := uq) (vr := ur) (va := ua) hon cp
      rw [hbs] at f1
      rw [hbs] at g4
      unfold rk at f1 g2 g4
      unfold pd at f3
      clear hlen hbl hbs hprl hon
      obtain ⟨pr0, hpr0⟩ : ∃ z, z = ofP s2 id := ⟨_, rfl⟩
      rw [← hpr0] at f4 hrg
      generalize lkI s2.Rn id = v1 at f2 f3
      generalize lkIB s2.Rn id = b1 at f2 f3
      generalize rdI s2.Q cp = v0 at f0 f1
      generalize (rdB s2.Q s2.Rn cp && decide (busyW n s2.on cp < 2)) = b0 at f0 f1
      generalize stateW s2 id = v2 at g1 g2
      generalize hv3 : ((busyW n s2.on cp : Nat) : Int) = v3 at g3 g4
      clear hv3
      obtain ⟨uqp, uqk, huq, -⟩ := hL.di.rw.pd.q.get
      obtain ⟨urp, urk, hur, -⟩ := hL.di.rw.pd.r.get
      generalize s2.Q.length = uqn at huq
      generalize s2.Rn.length = urn at hur
      subst huq
      subst hur
      have hwl2 := wkC_len n (.slice uqp uqn uqk) (.slice urp urn urk) ua s2.on
      have hbm := fun (X : World) (hk : Keeps W3 X) => (hL.kept hk).bm
      have c0 : (wkC n (.slice uqp uqn uqk) (.slice urp urn urk) ua s2.on)[0]? = some (.int .i64 (n : Int)) := rfl
      have c1 : (wkC n (.slice uqp uqn uqk) (.slice urp urn urk) ua s2.on)[1]? = some (.slice uqp uqn uqk) := rfl
      have c2 : (wkC n (.slice uqp uqn uqk) (.slice urp urn urk) ua s2.on)[2]? = some (.slice urp urn urk) := rfl
      have c3 : (wkC n (.slice uqp uqn uqk) (.slice urp urn urk) ua s2.on)[3]? = some ua := rfl
      generalize hcs2 : wkC n (.slice uqp uqn uqk) (.slice urp urn urk) ua s2.on = cs2 at *
      clear hcs2
      replace f0 := Lib.hid f0
      replace f1 := Lib.hid f1
      replace f2 := Lib.hid f2
      replace f3 := Lib.hid f3
      replace f4 := Lib.hid f4
      replace g1 := Lib.hid g1
      replace g2 := Lib.hid g2
      replace g3 := Lib.hid g3
      replace g4 := Lib.hid g4
      replace hbm := Lib.hid hbm
      replace c0 := Lib.hid c0
      replace c1 := Lib.hid c1
      replace c2 := Lib.hid c2
      replace c3 := Lib.hid c3
      replace hL := Lib.hid hL
      replace hA := Lib.hid hA
      replace hpr0 := Lib.hid hpr0
      have k0 : Keeps W3 W3 := Keeps.refl _
      have z0 : W3.cell? ⟨A, 2, none⟩ = some (.int .i64 cp) := hA.out.cell 2 (by simp [aE27])
      replace k0 := Lib.hid k0
      go_wp2_with fail
      refine (f0.out W3 k0.out).mono ?_
      rintro e W4 ⟨rfl, hh⟩
      have k1 := Keeps.trans k0.out hh
      clear hh
      replace k1 := Lib.hid k1
      clear z0 f0
      have z1 : W4.cell? ⟨A, 2, none⟩ = some (.int .i64 cp) := (hA.out.keeps k1.out).cell 2 (by simp [aE27])
      go_wp2_with (refine loadW27 (hbm.out W4 k1.out) hwl2 rfl _ rfl rfl ?_)
      refine (f1.out W4 k1.out).mono ?_
      rintro e W5 ⟨rfl, hh⟩
      have k2 := Keeps.trans k1.out hh
      clear hh
      replace k2 := Lib.hid k2
      clear z1 f1
      have z2 : W5.cell? ⟨A, 1, none⟩ = some (.int .i64 id) := (hA.out.keeps k2.out).cell 1 (by simp [aE27])
      go_wp2_with fail
      refine (f2.out W5 k2.out).mono ?_
      rintro e W6 ⟨rfl, hh⟩
      have k3 : Keeps W3 W6 := hh ▸ k2.out
      clear hh
      replace k3 := Lib.hid k3
      clear z2 f2
      have z3 : W6.cell? ⟨A, 1, none⟩ = some (.int .i64 id) := (hA.out.keeps k3.out).cell 1 (by simp [aE27])
      have m0 := (hbm.out W6 k3.out).cellK c0.out
      have m1 := (hbm.out W6 k3.out).cellK c1.out
      have m2 := (hbm.out W6 k3.out).cellK c2.out
      go_wp2_with fail
      refine (f3.out W6 k3.out).mono ?_
      rintro e W7 ⟨rfl, hh⟩
      have k4 := Keeps.trans k3.out hh
      clear hh
      replace k4 := Lib.hid k4
      clear z3 f3 m0 m1 m2
      have hst1 : ∀ x : After W7, Calls Try.prog 18 #[.pointer (some ⟨k, 0, none⟩), .int .i64 id] x.now fun e w' => e = .returned (.int .i64 v2) ∧ ∃ y : After W7, w' = y.now := fun x => After.call x (g1.out _ (Keeps.trans k4.out x.keeps))
      have hst2 : ∀ x : After W7, Calls Try.prog 25 #[.agg cs2.toArray, .int .i64 id] x.now fun e w' => e = .returned (.int .i64 v2) ∧ ∃ y : After W7, w' = y.now := fun x => After.call x (g2.out _ (Keeps.trans k4.out x.keeps))
      have hbz1 : ∀ x : After W7, Calls Try.prog 13 #[.pointer (some ⟨k, 0, none⟩), .int .i64 cp] x.now fun e w' => e = .returned (.int .i64 v3) ∧ ∃ y : After W7, w' = y.now := fun x => After.same x (g3.out _ (Keeps.trans k4.out x.keeps))
      have hbz2 : ∀ x : After W7, Calls Try.prog 26 #[.agg cs2.toArray, .int .i64 cp] x.now fun e w' => e = .returned (.int .i64 v3) ∧ ∃ y : After W7, w' = y.now := fun x => After.call x (g4.out _ (Keeps.trans k4.out x.keeps))
      have hrow : ∀ w', (∃ x : After W7, w' = x.now) → Blk w' M 57 cs2 := by rintro _ ⟨x, rfl⟩; exact hbm.out _ (Keeps.trans k4.out x.keeps)
      have x1 := After.cell (show W7.cell? ⟨A, 1, none⟩ = some (.int .i64 id) from (hA.out.keeps k4.out).cell 1 (by simp [aE27]))
      have x2 := After.cell (show W7.cell? ⟨A, 2, none⟩ = some (.int .i64 cp) from (hA.out.keeps k4.out).cell 2 (by simp [aE27]))
      replace hst1 := Lib.hid hst1
      replace hst2 := Lib.hid hst2
      replace hbz1 := Lib.hid hbz1
      replace hbz2 := Lib.hid hbz2
      replace hrow := Lib.hid hrow
      clear g1 g2 g3 g4
      go_upto_region 18 with (fail)
      refine region_after (by kernel_rfl) (by kernel_rfl) ?_
      iterate 23 (go_big_quiet_step (first | (with_reducible exact hst1.out _)))
      refine quietRow hrow.out rfl 57 _ rfl rfl _ Try.underlying57 rfl 36 sizeW27 hwl2 ?_
      go_frame
      iterate 10 (go_big_quiet_step (first | (with_reducible exact hst2.out _) | (with_reducible exact hbz1.out _)))
      refine quietRow hrow.out rfl 57 _ rfl rfl _ Try.underlying57 rfl 36 sizeW27 hwl2 ?_
      go_frame
      repeat (go_big_quiet_step (first | (with_reducible exact hbz2.out _)))
      refine wpQuiet_nil ?_
      rintro W8 ⟨⟨X8, hK8⟩, hX8⟩
      replace hX8 := show W8 = X8 from hX8
      subst hX8
      have k5 := Keeps.trans k4.out hK8
      replace k5 := Lib.hid k5
      clear hst1 hst2 hbz1 hbz2 hrow x1 x2 hK8 k4
      have z5 : W8.cell? ⟨A, 1, none⟩ = some (.int .i64 id) := (hA.out.keeps k5.out).cell 1 (by simp [aE27])
      go_wp2_with fail
      refine (f4.out W8 k5.out).mono ?_
      rintro e W9 ⟨rfl, hh⟩
      have k6 := Keeps.trans k5.out hh
      clear hh
      have hL9 := hL.out.kept k6
      have hrw := hL9.di.rw
      have z6 : W9.cell? ⟨A, 1, none⟩ = some (.int .i64 id) := (hA.out.keeps k6).cell 1 (by simp [aE27])
      have m3 := (hbm.out W9 k6).cellK c3.out
      clear z5 f4 k5 k0 k1 k2 k3 k6
      replace hL9 := Lib.hid hL9
      by_cases hin : 0 ≤ id ∧ id < 256
      · obtain ⟨i, rfl⟩ : ∃ i : Nat, id = i := ⟨id.toNat, by omega⟩
        have hi : i < 256 := by omega
        obtain ⟨h0, h1⟩ := hin
        obtain ⟨q, cap, b, off, rfl, rfl, _, hcm, w0, w1⟩ := hrw.at i hi
        have e1 : s2.pr i = pr0 := by rw [hpr0.out]; unfold ofP; rw [if_pos (inId_nat hi)]; rfl
        rw [e1] at w1
        clear hrw w0
        by_cases hp : pr0 = 0
        · subst hp
          simp only [Int.le_refl, if_true, Int.lt_irrefl, decide_false]
          go_wp2_with fail
          go_roundw
          case rel => exact ⟨j + 1, s2, _, _, _, by omega, by omega, by go_num, hL9.out⟩
          case measure => (simp [intOf]; try omega)
        · have hp1 : 0 < pr0 := by omega
          have hp2 : ¬ pr0 ≤ 0 := by omega
          have hp3 : (0 : Int) ≤ pr0 - 1 := by omega
          rw [if_neg hp2]
          rw [decide_eq_true hp1]
          go_wp2_with fail
          go_roundw
          case rel => exact ⟨j + 1, s2, _, _, _, by omega, by omega, by go_num, hL9.out⟩
          case measure => (simp [intOf]; try omega)
      · have e0 : pr0 = 0 := by rw [hpr0.out]; unfold ofP; rw [if_neg (show ¬ inId id from hin)]
        subst e0
        clear hrw
        simp only [Int.le_refl, if_true, Int.lt_irrefl, decide_false]
        by_cases h0 : 0 ≤ id
        · have h1 : ¬ id < 256 := fun h => hin ⟨h0, h⟩
          replace hin := Lib.hid hin
          go_wp2_with fail
          go_roundw
          case rel => exact ⟨j + 1, s2, _, _, _, by omega, by omega, by go_num, hL9.out⟩
          case measure => (simp [intOf]; try omega)
        · replace hin := Lib.hid hin
          go_wp2_with fail
          go_roundw
          case rel => exact ⟨j + 1, s2, _, _, _, by omega, by omega, by go_num, hL9.out⟩
          case measure => (simp [intOf]; try omega)
    · have hend : (j : Int) = (acts.length : Int) ∨ (j : Int) = 60 := by omega
      replace hL := Lib.hid hL
      rcases hend with h1 | h1
      · have hx : ¬ (j : Int) < (acts.length : Int) := by omega
        replace h1 := Lib.hid h1
        go_wp2_with fail
        refine (hkn.out _).mono ?_
        rintro e w2 ⟨rfl, hK2⟩
        replace hK2 := Lib.hid hK2
        go_wp2_with fail
        go_ret
        exact ⟨rfl, Keeps.trans hL.out.keeps hK2.out⟩
      · have hx : ¬ (j : Int) < 60 := by omega
        replace h1 := Lib.hid h1
        by_cases hy : (j : Int) < (acts.length : Int)
        all_goals
          go_wp2_with fail
          refine (hkn.out _).mono ?_
          rintro e w2 ⟨rfl, hK2⟩
          replace hK2 := Lib.hid hK2
          go_wp2_with fail
          go_ret
          exact ⟨rfl, Keeps.trans hL.out.keeps hK2.out⟩
end Go.Proofs.Ytcggbfpangnllaa
