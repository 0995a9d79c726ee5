/- GraceBarrier: the walk. Printed by gen12f.py. -/
import Derived.Test.YtefippjakkgjkaaDoorEndA
import Derived.Test.YtefippjakkgjkaaDoorBarN
import Derived.Deep.DeepCutAuto
import Derived.Deep.CutBlock
namespace Go.Proofs.YtefippjakkgjkaaDoor
open Go.RowKit

/-- How many of the first m are of number 1. -/
def cntO (O : List Int) (m : Nat) : Nat := (O.take m).count 1
theorem cntO_zero (O : List Int) : cntO O 0 = 0 := rfl
theorem cntO_le (O : List Int) (m : Nat) : cntO O m ≤ O.length := by
  unfold cntO
  have h1 := List.count_le_length (a := (1 : Int)) (l := O.take m)
  rw [List.length_take] at h1; omega
theorem cntO_step {O : List Int} {m : Nat} (hm : m < O.length) : cntO O (m + 1) = cntO O m + (if O[m] = 1 then 1 else 0) := by
  unfold cntO
  rw [List.take_succ_eq_append_getElem hm, List.count_append, List.count_singleton]
  by_cases e : O[m] = 1
  · rw [if_pos e, e]; rfl
  · rw [if_neg e, if_neg (by simpa using e)]
set_option maxRecDepth 100000 in
set_option maxHeartbeats 4000000 in
theorem lawBarrier12_any (v v2 : Value) (first acts : List Act12) (w : World) (hT : TabAt w) (hv : SlcS 4 w v (first.map aEl12)) (hv2 : SlcS 4 w v2 (acts.map aEl12)) :
    Calls Tryd.prog 5 #[v, v2] w fun e w' => e = .returned (.bool true) ∧ Keeps w w' := by
  have hkn := fun (W : World) (h : Keeps w W) => known12_any W (hT.keeps h)
  have hst := GI.start (n := 4) (by decide) (by decide) w
  rw [show ((4 : Nat) : Int) = 4 from rfl] at hst
  obtain ⟨q, cap0, rfl, hl, hc, _⟩ := SlcS.get hv
  obtain ⟨r, cap3, rfl, hl2, hc2, _⟩ := SlcS.get hv2
  rw [List.length_map] at hl hl2 ⊢
  rw [List.length_map]
  have haI : (0 : Int) ≤ (first.length : Int) := by omega
  have haI2 : (0 : Int) ≤ (acts.length : Int) := by omega
  have hz1 := zeroIns
  obtain ⟨Z1, hZ1⟩ : ∃ Z, Z = (arr 129 fun _ => 0).toArray := ⟨_, rfl⟩
  rw [← hZ1] at hz1
  replace hZ1 := Lib.hid hZ1
  replace hkn := Lib.hid hkn
  replace hst := Lib.hid hst
  replace hv := Lib.hid hv
  replace hv2 := Lib.hid hv2
  replace hT := Lib.hid hT
  go_enter Tryd.func5, Tryd.ntmps5
  go_wp2_with fail
  refine hst.out.mono ?_
  rintro e w1 ⟨g, sp, p, rb, cap, pp, bb, rfl, hG⟩
  obtain ⟨xb, e1⟩ : ∃ b, b = w1.heap.size := ⟨_, rfl⟩
  have hI := EI.start hG xb e1
  rw [← hZ1.out] at hI
  replace hI := Lib.hid hI
  replace e1 := Lib.hid e1
  clear hst hG
  go_upto_region 7 with (fail)
  rw [← e1.out]
  refine wp_gen (fun W => EI w g sp p rb cap pp bb xb (.new 4) (xf (GSt.new 4).S) W) hI.out ?_
  clear hI e1 hz1 hZ1
  rintro W hI
  replace hI := Lib.hid hI
  have hH0 := Lib.hid B1.start
  go_loopw [8, 9] (fun wa i wr => ∃ (k : Nat) (G : GSt) (d wt : Nat), k ≤ first.length ∧ k ≤ 40 ∧ i = .int .i64 (k : Int) ∧ wa = .int .i64 (wt : Int) ∧ wt ≤ k ∧ wt = G.R.flatten.length ∧ B1 k G d ∧ EI w g sp p rb cap pp bb xb G (xf G.S) wr) (fun _ i _ => first.length - (intOf i).toNat)
  case atStart => exact ⟨0, _, 0, 0, by omega, by omega, rfl, rfl, Nat.le_refl _, rfl, hH0.out, hI.out⟩
  case round =>
    clear hI hH0
    obtain ⟨k, G, d, wt, hk, hk40, rfl, rfl, hwk, hwt0, hH, hI⟩ := hrel
    obtain ⟨wo, hwo⟩ : ∃ wo : World, wo = wr := ⟨_, rfl⟩
    rw [← hwo] at hI ⊢
    clear hwo
    by_cases hgo : k < first.length ∧ k < 40
    · obtain ⟨hlt, h40⟩ := hgo
      have hltI := Int.ofNat_lt.2 hlt
      have h40I : (k : Int) < 40 := by omega
      have hk0 : (0 : Int) ≤ (k : Int) := by omega
      obtain ⟨q', c', hv', _, _, hcell⟩ := SlcS.get (SlcS.below hv.out hI.keeps)
      obtain ⟨cb, aoff, hq', hcell⟩ := hcell k (by rw [List.length_map]; exact hlt)
      simp only [Value.slice.injEq] at hv'
      obtain rfl : q = some ⟨cb, aoff, none⟩ := hv'.1.trans hq'
      have e0 : (first.map aEl12).getD k [] = aEl12 first[k] := by simp [List.getD, hlt]
      rw [e0] at hcell
      have y0 := hcell 0 (by decide)
      have y1 := hcell 1 (by decide)
      have y2 := hcell 2 (by decide)
      have y3 := hcell 3 (by decide)
      clear hcell hv' hq' e0
      generalize first[k] = a at *
      obtain ⟨ki, rd, cp, id⟩ := a
      simp only [aEl12, List.getD_cons_zero, List.getD_cons_succ, Nat.add_zero] at y0 y1 y2 y3
      obtain ⟨A, hA⟩ : ∃ A, A = wo.heap.size := ⟨_, rfl⟩
      have hB := Blk.new wo 33 [.int .i64 ki, .int .i64 rd, .int .i64 cp, .int .i64 id]
      rw [← hA] at hB
      have hI2 := hI.kept (Keeps.alloc wo (.cells [.int .i64 ki, .int .i64 rd, .int .i64 cp, .int .i64 id].toArray 33))
      replace hA := Lib.hid hA
      replace hB := Lib.hid hB
      replace hI2 := Lib.hid hI2
      have hok := hH.ok.sok
      have hstk := hH.ok.st
      have hb0 := hH.ok.b0
      have hb1 := hH.ok.b1
      have hla := hH.ok.last
      have hbB : G.began < 1000000000 := by omega
      have hstB : G.S.st + 1 < 1000000 := by omega
      have hlook := lookS_len G
      rw [← hwt0] at hlook
      have hwkI : (0 : Int) ≤ (wt : Int) := by omega
      have hwkJ : (wt : Int) ≤ 40 := by omega
      replace hwt0 := Lib.hid hwt0
      replace hH := Lib.hid hH
      replace hok := Lib.hid hok
      replace hlook := Lib.hid hlook
      clear hI
      obtain ⟨kd, hkd, ek⟩ := wrap_mod ki 6 (by decide)
      go_upto_region 10 with (fail)
      rw [← hA.out]
      refine wp_gen (fun W => EI w g sp p rb cap pp bb xb G (xf G.S) W ∧ Blk W A 33 [.int .i64 ki, .int .i64 rd, .int .i64 cp, .int .i64 id]) ⟨hI2.out, hB.out⟩ ?_
      clear hI2 hB hA y0 y1 y2 y3
      rintro W ⟨hI, hB⟩
      have a0 := hB.cell 0 (by simp)
      have a1 := hB.cell 1 (by simp)
      simp only [List.getElem_cons_zero, List.getElem_cons_succ] at a0 a1
      replace hI := Lib.hid hI
      clear hB
      go_upto_block 2 with fail
      obtain ⟨c4, hc4⟩ : ∃ c, c = k % 4 := ⟨_, rfl⟩
      have hc5 : c4 < 4 := by omega
      have hmod : ((k : Int)).tmod 4 = (c4 : Int) := by rw [Int.tmod_eq_emod_of_nonneg hk0]; omega
      replace hc4 := Lib.hid hc4
      have hcase : kd = 0 ∨ kd = 1 ∨ (kd = 2 ∨ kd = 3) ∨ (kd = 4 ∨ kd = 5) := by omega
      rcases hcase with rfl | rfl | hkd2 | hkd4
      · -- Enter
        as_aux_lemma =>
        obtain ⟨r, hr, he⟩ := hI.out.enter hstB rd
        have hN := Lib.hid (hH.out.turn (Turn.ent hok.out r hr) (hok.out.ent r))
        replace he := Lib.hid he
        clear hI hla hb0 hb1
        go_wp2_with fail
        with_reducible refine he.out.mono ?_
        rintro e w2 ⟨v, rfl, hI2⟩
        replace hI2 := Lib.hid hI2
        go_wp2_with fail
        go_roundw
        case rel =>
          refine ⟨k + 1, _, _, wt, by omega, by omega, by go_num, rfl, by omega, ?_, hN.out, hI2.out⟩
          exact hwt0.out
        case measure => (simp [intOf]; try omega)
      · -- Exit
        as_aux_lemma =>
        obtain ⟨r, hr, he⟩ := hI.out.exit rd
        have hN := Lib.hid (hH.out.turn (Turn.exi hok.out r hr) (hok.out.exi r))
        replace he := Lib.hid he
        clear hI hla hb0 hb1
        go_wp2_with fail
        with_reducible refine he.out.mono ?_
        rintro e w2 ⟨v, rfl, hI2⟩
        replace hI2 := Lib.hid hI2
        go_wp2_with fail
        go_roundw
        case rel =>
          refine ⟨k + 1, _, _, wt, by omega, by omega, by go_num, rfl, by omega, ?_, hN.out, hI2.out⟩
          exact hwt0.out
        case measure => (simp [intOf]; try omega)
      · -- Call
        as_aux_lemma =>
        obtain ⟨hN, hle⟩ := hH.out.call h40 hc4.out
        have hroom := hH.out.short.room (by omega) c4 hc5
        have hcall := hI.out.call c4 hc5 1 _ rfl
        rw [if_pos (by omega)] at hcall
        generalize hGG : { G with R := G.R.set c4 (K.addR (G.R.getD c4 []) [1]) } = G2 at *
        have hR : wt + 1 = G2.R.flatten.length := by rw [← hGG, hwt0.out]; exact hle.symm
        have hS : G2.S = G.S := by rw [← hGG]
        rw [← hS] at hcall
        replace hN := Lib.hid hN
        replace hcall := Lib.hid hcall
        replace hR := Lib.hid hR
        clear hI hla hb0 hb1 hroom hGG hle hS
        rcases hkd2 with rfl | rfl
        all_goals
          go_wp2_with fail
          with_reducible refine hcall.out.mono ?_
          rintro e w2 ⟨rfl, hI2⟩
          replace hI2 := Lib.hid hI2
          go_wp2_with fail
          go_roundw
          case rel =>
            refine ⟨k + 1, G2, _, wt + 1, by omega, by omega, by go_num, by go_num, by omega, hR.out, hN.out, hI2.out⟩
          case measure => (simp [intOf]; try omega)
      · -- Poll
        as_aux_lemma =>
        have hpl := hH.out.poll
        have hlen : G.lookS.2.length ≤ 40 := by have := hlook.out; omega
        have hp := hI.out.poll hT.out hb0 hbB hla (by omega)
        have hwt := lookS_want G
        have hwb := begS_want G.lookS.1
        replace hpl := Lib.hid hpl
        replace hp := Lib.hid hp
        have q0 : ((kd : Int) == 0) = false := by rw [beq_eq_false_iff_ne]; omega
        have q1 : ((kd : Int) == 1) = false := by rw [beq_eq_false_iff_ne]; omega
        have q2 : ((kd : Int) == 2) = false := by rw [beq_eq_false_iff_ne]; omega
        have q3 : ((kd : Int) == 3) = false := by rw [beq_eq_false_iff_ne]; omega
        obtain ⟨n2, hn2⟩ : ∃ n2, n2 = G.lookS.2.length := ⟨_, rfl⟩
        rw [← hn2] at hlen
        replace hn2 := Lib.hid hn2
        replace hwt := Lib.hid hwt
        replace hwb := Lib.hid hwb
        have hs2 : (n2 : Int) ≤ 40 := by omega
        have hs3 : (0 : Int) ≤ (n2 : Int) := by omega
        clear hkd4 hI hla hb0 hb1
        go_wp2_with fail
        with_reducible refine hp.out.mono ?_
        rintro e w2 ⟨qo, capo, x, rfl, _, hI2⟩
        obtain ⟨d', hN⟩ := hpl.out x
        have hS : (G.lookS.1.begS x).S = G.S := (hwb.out x).2.2.1.trans hwt.out.2.2
        have hL : wt - n2 = (G.lookS.1.begS x).R.flatten.length ∧ n2 ≤ wt := by rw [(hwb.out x).2.2.2, hn2.out]; have := hlook.out; omega
        have hX : xf G.S = xf (G.lookS.1.begS x).S := by rw [hS]
        rw [hX] at hI2
        rw [← hn2.out]
        generalize G.lookS.1.begS x = G2 at *
        have hnw := hL.2
        have hLI : (wt : Int) - (n2 : Int) = ((wt - n2 : Nat) : Int) := (Int.ofNat_sub hL.2).symm
        replace hN := Lib.hid hN
        replace hI2 := Lib.hid hI2
        replace hLI := Lib.hid hLI
        replace hL := Lib.hid hL
        clear hp hpl hS hX
        go_wp2_with fail
        go_roundw
        case rel =>
          exact ⟨k + 1, G2, d', wt - n2, by omega, by omega, by go_num, by go_num, by omega, hL.out.1, hN.out, hI2.out⟩
        case measure => (simp [intOf]; try omega)
    · have hend : (¬ (k : Int) < (first.length : Int)) ∨ ((k : Int) < (first.length : Int) ∧ ¬ (k : Int) < 40) := by omega
      have hkI : (k : Int) ≤ 40 := by omega
      have hb0 := hH.ok.b0
      have hb1 := hH.ok.b1
      have hbar := gbarrier_any hI.at' hb0 (by omega)
      have hN := hH.barrier hk40
      have hall := hH.all
      obtain ⟨b, hb⟩ : ∃ b, b = G.bar := ⟨_, rfl⟩
      rw [← hb] at hbar hN
      have hwo : (wt : Int) = (ones G.R : Nat) := by rw [hall, hwt0]
      rw [hwo]
      have hone40 : ones G.R ≤ 40 := by omega
      replace hwt0 := Lib.hid hwt0
      replace hwo := Lib.hid hwo
      replace hb := Lib.hid hb
      replace hbar := Lib.hid hbar
      replace hN := Lib.hid hN
      replace hI := Lib.hid hI
      clear hH hall hb0 hb1 hwk
      rcases hend with hx1 | ⟨hx1, hx2⟩
      all_goals
        as_aux_lemma =>
        go_wp2_with fail
        with_reducible refine hbar.out.mono ?_
        rintro e w2 ⟨rfl, hKb⟩
        have hI3 := hI.out.kept hKb
        replace hI := Lib.hid hI3
        clear hbar hKb hI3
        go_upto_region 23 with (fail)
        go_loopw [8, 12] (fun wa i wr => ∃ (j : Nat) (G2 : GSt) (d2 : Nat), j ≤ acts.length ∧ j ≤ 40 ∧ i = .int .i64 (j : Int) ∧ wa = .int .i64 (ones G2.R : Nat) ∧ ones G2.R ≤ 40 ∧ B2 (40 + j) G2 d2 b ∧ EI w g sp p rb cap pp bb xb G2 (xf G2.S) wr) (fun _ i _ => acts.length - (intOf i).toNat)
        case atStart => exact ⟨0, G, d, by omega, by omega, rfl, rfl, hone40, hN.out, hI.out⟩
        case round =>
          clear hN hI hone40
          obtain ⟨j, G2, d2, hj, hj40, rfl, rfl, ho40, hH, hI⟩ := hrel
          obtain ⟨wo2, hwo2⟩ : ∃ x : World, x = wr := ⟨_, rfl⟩
          rw [← hwo2] at hI ⊢
          clear hwo2
          have htest := hH.test
          have hov := gover_any hI.at' b
          rw [← htest] at hov
          obtain ⟨z, hz⟩ : ∃ z : Nat, z = ones G2.R := ⟨_, rfl⟩
          rw [← hz] at hov ho40 ⊢
          have hbz : decide ((z : Int) = 0) = ((z : Int) == 0) := by rw [Bool.eq_iff_iff]; simp
          rw [hbz] at hov
          obtain ⟨bt, hbt⟩ : ∃ bt, ((z : Int) == 0) = bt := ⟨_, rfl⟩
          rw [hbt] at hov
          have hbb : (bt != bt) = false := by cases bt <;> rfl
          have hbe : (bt == bt) = true := by cases bt <;> rfl
          have hj0 : (0 : Int) ≤ (j : Int) := by omega
          replace hz := Lib.hid hz
          clear htest hbz
          by_cases hgo2 : j < acts.length ∧ j < 40
          · obtain ⟨hlt, h40⟩ := hgo2
            have hltI := Int.ofNat_lt.2 hlt
            have h40I : (j : Int) < 40 := by omega
            have hkk0 : (0 : Int) ≤ (j : Int) := by omega
            obtain ⟨q', c', hv', _, _, hcell⟩ := SlcS.get (SlcS.below hv2.out hI.keeps)
            obtain ⟨cb, aoff, hq', hcell⟩ := hcell j (by rw [List.length_map]; exact hlt)
            simp only [Value.slice.injEq] at hv'
            obtain rfl : r = some ⟨cb, aoff, none⟩ := hv'.1.trans hq'
            have e0 : (acts.map aEl12).getD j [] = aEl12 acts[j] := by simp [List.getD, hlt]
            rw [e0] at hcell
            have y0 := hcell 0 (by decide)
            have y1 := hcell 1 (by decide)
            have y2 := hcell 2 (by decide)
            have y3 := hcell 3 (by decide)
            clear hcell hv' hq' e0
            generalize acts[j] = a at *
            obtain ⟨ki, rd, cp, id⟩ := a
            simp only [aEl12, List.getD_cons_zero, List.getD_cons_succ, Nat.add_zero] at y0 y1 y2 y3
            obtain ⟨A, hA⟩ : ∃ A, A = wo2.heap.size := ⟨_, rfl⟩
            have hB := Blk.new wo2 33 [.int .i64 ki, .int .i64 rd, .int .i64 cp, .int .i64 id]
            rw [← hA] at hB
            have hI2 := hI.kept (Keeps.alloc wo2 (.cells [.int .i64 ki, .int .i64 rd, .int .i64 cp, .int .i64 id].toArray 33))
            replace hA := Lib.hid hA
            replace hB := Lib.hid hB
            replace hI2 := Lib.hid hI2
            have hok := hH.ok.sok
            have hstk := hH.ok.st
            have hb0 := hH.ok.b0
            have hb1 := hH.ok.b1
            have hla := hH.ok.last
            have hbB : G2.began < 1000000000 := by omega
            have hstB : G2.S.st + 1 < 1000000 := by omega
            have hzI : (0 : Int) ≤ (z : Int) := by omega
            have hzJ : (z : Int) ≤ 40 := by omega
            replace hH := Lib.hid hH
            replace hok := Lib.hid hok
            replace hov := Lib.hid hov
            clear hI
            obtain ⟨kd, hkd, ek⟩ := wrap_mod ki 6 (by decide)
            go_wp2_with fail
            with_reducible refine hov.out.mono ?_
            rintro e w' ⟨rfl, rfl⟩
            go_upto_region 28 with (fail)
            rw [← hA.out]
            refine wp_gen (fun W => EI w g sp p rb cap pp bb xb G2 (xf G2.S) W ∧ Blk W A 33 [.int .i64 ki, .int .i64 rd, .int .i64 cp, .int .i64 id]) ⟨hI2.out, hB.out⟩ ?_
            clear hI2 hB hA y0 y1 y2 y3 hov
            rintro W ⟨hI, hB⟩
            have a0 := hB.cell 0 (by simp)
            have a1 := hB.cell 1 (by simp)
            simp only [List.getElem_cons_zero, List.getElem_cons_succ] at a0 a1
            replace hI := Lib.hid hI
            clear hB
            go_upto_region 35 with (fail)
            obtain ⟨c4, hc4⟩ : ∃ c, c = j % 4 := ⟨_, rfl⟩
            have hc5 : c4 < 4 := by omega
            have hc6 : c4 = (40 + j) % 4 := by omega
            have hmod : ((j : Int)).tmod 4 = (c4 : Int) := by rw [Int.tmod_eq_emod_of_nonneg hj0]; omega
            replace hc4 := Lib.hid hc4
            replace hc6 := Lib.hid hc6
            have hcase : kd = 0 ∨ kd = 1 ∨ (kd = 2 ∨ kd = 3) ∨ (kd = 4 ∨ kd = 5) := by omega
            rcases hcase with rfl | rfl | hkd2 | hkd4
            · -- Enter
              as_aux_lemma =>
              obtain ⟨r, hr, he⟩ := hI.out.enter hstB rd
              have hN := Lib.hid (hH.out.turn (Turn.ent hok.out r hr) (hok.out.ent r))
              replace he := Lib.hid he
              clear hI hla hb0 hb1
              go_wp2_with fail
              with_reducible refine he.out.mono ?_
              rintro e w2 ⟨v, rfl, hI2⟩
              replace hI2 := Lib.hid hI2
              go_wp2_with fail
              go_roundw
              case rel =>
                refine ⟨j + 1, _, _, by omega, by omega, by go_num, ?_, ?_, hN.out, hI2.out⟩
                · rw [hz.out]
                · show ones G2.R ≤ 40; rw [← hz.out]; exact ho40
              case measure => (simp [intOf]; try omega)
            · -- Exit
              as_aux_lemma =>
              obtain ⟨r, hr, he⟩ := hI.out.exit rd
              have hN := Lib.hid (hH.out.turn (Turn.exi hok.out r hr) (hok.out.exi r))
              replace he := Lib.hid he
              clear hI hla hb0 hb1
              go_wp2_with fail
              with_reducible refine he.out.mono ?_
              rintro e w2 ⟨v, rfl, hI2⟩
              replace hI2 := Lib.hid hI2
              go_wp2_with fail
              go_roundw
              case rel =>
                refine ⟨j + 1, _, _, by omega, by omega, by go_num, ?_, ?_, hN.out, hI2.out⟩
                · rw [hz.out]
                · show ones G2.R ≤ 40; rw [← hz.out]; exact ho40
              case measure => (simp [intOf]; try omega)
            · -- Call
              as_aux_lemma =>
              obtain ⟨hN, hle⟩ := hH.out.call (by omega) hc6.out
              have hroom := hH.out.short.room (by omega) c4 hc5
              have hcall := hI.out.call c4 hc5 2 _ rfl
              rw [if_pos (by omega)] at hcall
              generalize hGG : { G2 with R := G2.R.set c4 (K.addR (G2.R.getD c4 []) [2]) } = G4 at *
              have hR : z = ones G4.R := by rw [← hGG, hz.out]; exact hle.symm
              have hS : G4.S = G2.S := by rw [← hGG]
              rw [← hS] at hcall
              replace hN := Lib.hid hN
              replace hcall := Lib.hid hcall
              replace hR := Lib.hid hR
              clear hI hla hb0 hb1 hroom hGG hle hS
              rcases hkd2 with rfl | rfl
              all_goals
                go_wp2_with fail
                with_reducible refine hcall.out.mono ?_
                rintro e w2 ⟨rfl, hI2⟩
                replace hI2 := Lib.hid hI2
                go_wp2_with fail
                go_roundw
                case rel =>
                  exact ⟨j + 1, G4, _, by omega, by omega, by go_num, by rw [hR.out], by rw [← hR.out]; exact ho40, hN.out, hI2.out⟩
                case measure => (simp [intOf]; try omega)
            · -- Poll
              as_aux_lemma =>
              have hpl := hH.out.poll
              have hlen : G2.lookS.2.length ≤ 400 := by
                have h1 := tell_le G2
                rw [flat4 hH.out.ok.len] at h1
                have l0 := hH.out.short 0 (by decide); have l1 := hH.out.short 1 (by decide); have l2 := hH.out.short 2 (by decide); have l3 := hH.out.short 3 (by decide)
                omega
              have hp := hI.out.poll hT.out hb0 hbB hla (by omega)
              have hwt := lookS_want G2
              have hwb := begS_want G2.lookS.1
              have hol := ones_look G2
              have hob := ones_begS G2.lookS.1
              replace hpl := Lib.hid hpl
              replace hp := Lib.hid hp
              have q0 : ((kd : Int) == 0) = false := by rw [beq_eq_false_iff_ne]; omega
              have q1 : ((kd : Int) == 1) = false := by rw [beq_eq_false_iff_ne]; omega
              have q2 : ((kd : Int) == 2) = false := by rw [beq_eq_false_iff_ne]; omega
              have q3 : ((kd : Int) == 3) = false := by rw [beq_eq_false_iff_ne]; omega
              replace hwt := Lib.hid hwt
              replace hwb := Lib.hid hwb
              replace hol := Lib.hid hol
              replace hob := Lib.hid hob
              clear hkd4 hI hla hb0 hb1
              go_wp2_with fail
              with_reducible refine hp.out.mono ?_
              rintro e w2 ⟨qo, capo, x, rfl, hvo, hI2⟩
              obtain ⟨d', hN⟩ := hpl.out x
              have hS : (G2.lookS.1.begS x).S = G2.S := (hwb.out x).2.2.1.trans hwt.out.2.2
              have hL : z = cntO G2.lookS.2 G2.lookS.2.length + ones (G2.lookS.1.begS x).R := by
                rw [hob.out x, hz.out, ← hol.out]; unfold cntO; rw [List.take_of_length_le (Nat.le_refl _)]
              have hX : xf G2.S = xf (G2.lookS.1.begS x).S := by rw [hS]
              rw [hX] at hI2
              generalize G2.lookS.1.begS x = G4 at *
              generalize G2.lookS.2 = O at *
              have hOI : (0 : Int) ≤ (O.length : Int) := by omega
              replace hN := Lib.hid hN
              replace hI2 := Lib.hid hI2
              replace hvo := Lib.hid hvo
              replace hL := Lib.hid hL
              clear hp hpl hS hX hol hob hwt hwb
              go_wp2_with fail
              go_loopw [8, 15] (fun wa i wr => ∃ m : Nat, m ≤ O.length ∧ i = .int .i64 (m : Int) ∧ wa = .int .i64 ((z : Int) - (cntO O m : Nat)) ∧ wr = w2) (fun _ i _ => O.length - (intOf i).toNat)
              case atStart => exact ⟨0, Nat.zero_le _, rfl, by rw [cntO_zero, show ((0 : Nat) : Int) = 0 from rfl, Int.sub_zero], rfl⟩
              case round =>
                obtain ⟨m, hm, rfl, rfl, hwr⟩ := hrel
                have hm0 : (0 : Int) ≤ (m : Int) := by omega
                have hcm := cntO_le O m
                have hcmI : ((cntO O m : Nat) : Int) ≤ (O.length : Nat) := by omega
                have hcm0 : (0 : Int) ≤ ((cntO O m : Nat) : Int) := by omega
                by_cases hmo : m < O.length
                · have hmoI := Int.ofNat_lt.2 hmo
                  obtain ⟨_, _, hv', _, _, hcell⟩ := hvo.out.open
                  obtain ⟨oc, ooff, hq', hcell⟩ := hcell m hmo
                  simp only [Value.slice.injEq] at hv'
                  obtain rfl : qo = some ⟨oc, ooff, none⟩ := hv'.1.trans hq'
                  clear hv' hq'
                  rw [← hwr] at hcell
                  have hstep := cntO_step hmo
                  generalize O[m] = om at *
                  generalize cntO O m = cm at *
                  by_cases e1 : om = 1
                  · subst e1
                    rw [if_pos rfl] at hstep
                    replace hstep := Lib.hid hstep
                    replace hwr := Lib.hid hwr
                    go_wp2_with fail
                    go_roundw
                    case rel => exact ⟨m + 1, by omega, by go_num, by rw [hstep.out]; go_num, hwr.out⟩
                    case measure => (simp [intOf]; try omega)
                  · have e2 : (om == 1) = false := by rw [beq_eq_false_iff_ne]; exact e1
                    rw [if_neg e1, Nat.add_zero] at hstep
                    replace hstep := Lib.hid hstep
                    replace hwr := Lib.hid hwr
                    replace e1 := Lib.hid e1
                    go_wp2_with fail
                    go_roundw
                    case rel => exact ⟨m + 1, by omega, by go_num, (by rw [hstep.out]; rfl), hwr.out⟩
                    case measure => (simp [intOf]; try omega)
                · obtain rfl : m = O.length := by omega
                  have hmoI : ¬ (O.length : Int) < (O.length : Int) := by omega
                  have hLI : (z : Int) - (cntO O O.length : Nat) = (ones G4.R : Nat) := by have := hL.out; omega
                  have h4z : ones G4.R ≤ 40 := by have := hL.out; omega
                  rw [hLI]
                  clear hcm hcmI hcm0
                  replace hLI := Lib.hid hLI
                  go_wp2_with fail
                  go_roundw
                  case rel => exact ⟨j + 1, G4, d', by omega, by omega, by go_num, rfl, h4z, hN.out, hI2.out⟩
                  case measure => (simp [intOf]; try omega)
          · have hend : (¬ (j : Int) < (acts.length : Int)) ∨ ((j : Int) < (acts.length : Int) ∧ ¬ (j : Int) < 40) := by omega
            have hov2 := fun (X : World) (hk : Keeps wo2 X) => gover_any (hI.kept hk).at' b
            rw [← hH.test, ← hz.out, show decide ((z : Int) = 0) = bt by rw [← hbt, Bool.eq_iff_iff]; simp] at hov2
            have hKw := hI.keeps
            replace hKw := Lib.hid hKw
            replace hov2 := Lib.hid hov2
            clear hH hI hov ho40
            rcases hend with hx1 | ⟨hx1, hx2⟩
            all_goals
              go_wp2_with fail
              with_reducible refine (hkn.out _ hKw.out).mono ?_
              rintro e w3 ⟨rfl, hk3⟩
              replace hk3 := Lib.hid hk3
              go_wp2_with fail
              with_reducible refine (hov2.out _ hk3.out).mono ?_
              rintro e w' ⟨rfl, rfl⟩
              go_wp2_with fail
              go_ret
              exact ⟨rfl, Keeps.trans hKw.out hk3.out⟩
end Go.Proofs.YtefippjakkgjkaaDoor
