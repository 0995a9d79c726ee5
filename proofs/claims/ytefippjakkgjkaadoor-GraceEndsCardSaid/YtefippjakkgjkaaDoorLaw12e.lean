/- GraceEnds: the walk. -/
import Derived.Test.YtefippjakkgjkaaDoorEndA
import Derived.Deep.DeepCutAuto
import Derived.Deep.CutBlock
namespace Go.Proofs.YtefippjakkgjkaaDoor
open Go.RowKit

theorem toNat_lt_of {a b : Nat} (h : a < b) : (a : Int) < b := Int.ofNat_lt.2 h
set_option maxRecDepth 100000 in
set_option maxHeartbeats 4000000 in
theorem lawEnds12_any (v : Value) (acts : List Act12) (w : World) (hT : TabAt w) (hv : SlcS 4 w v (acts.map aEl12)) :
    Calls Tryd.prog 4 #[v] w fun e w' => e = .returned (.bool true) ∧ Keeps w w' := by
  have hkn := fun (W : World) (h : Keeps w W) => known12_any W (hT.keeps h)
  have hst := GI.start (n := 4) (by decide) (by decide) w
  rw [show ((4 : Nat) : Int) = 4 from rfl] at hst
  obtain ⟨q, cap0, rfl, hl, hc, _⟩ := SlcS.get hv
  rw [List.length_map] at hl ⊢
  have haI : (0 : Int) ≤ (acts.length : Int) := by omega
  have hz1 := zeroIns
  obtain ⟨Z1, hZ1⟩ : ∃ Z, Z = (arr 129 fun _ => 0).toArray := ⟨_, rfl⟩
  rw [← hZ1] at hz1
  replace hZ1 := Lib.hid hZ1
  replace hkn := Lib.hid hkn
  replace hst := Lib.hid hst
  replace hv := Lib.hid hv
  replace hT := Lib.hid hT
  go_enter Tryd.func4, Tryd.ntmps4
  go_wp2_with fail
  refine hst.out.mono ?_
  rintro e w1 ⟨g, sp, p, rb, cap, pp, bb, rfl, hG⟩
  obtain ⟨xb, e1⟩ : ∃ b, b = w1.heap.size := ⟨_, rfl⟩
  have hI := EI.start hG xb e1
  rw [← hZ1.out] at hI
  replace hI := Lib.hid hI
  replace e1 := Lib.hid e1
  clear hst hG
  go_upto_region 7 with (fail)
  rw [← e1.out]
  refine wp_gen (fun W => EI w g sp p rb cap pp bb xb (.new 4) (xf (GSt.new 4).S) W) hI.out ?_
  clear hI e1 hz1 hZ1
  rintro W hI
  replace hI := Lib.hid hI
  have hH0 := Lib.hid EOk.start
  go_loopw [6, 7, 8, 9] (fun wa ca tl i wr => ∃ (k : Nat) (G : GSt) (d called told : Nat), k ≤ acts.length ∧ k ≤ 60 ∧ called ≤ k ∧ i = .int .i64 (k : Int) ∧ ca = .int .i64 (called : Int) ∧ tl = .int .i64 (told : Int) ∧ wa = .int .i64 G.want ∧ EOk k G d called told ∧ EI w g sp p rb cap pp bb xb G (xf G.S) wr) (fun _ _ _ i _ => acts.length - (intOf i).toNat)
  case atStart => exact ⟨0, _, 0, 0, 0, by omega, by omega, by omega, rfl, rfl, rfl, rfl, hH0.out, hI.out⟩
  case round =>
    clear hI hH0
    obtain ⟨k, G, d, called, told, hk, hk60, hck, rfl, rfl, rfl, rfl, hH, hI⟩ := hrel
    obtain ⟨wo, hwo⟩ : ∃ wo : World, wo = wr := ⟨_, rfl⟩
    rw [← hwo] at hI ⊢
    clear hwo
    by_cases hgo : k < acts.length ∧ k < 60
    · obtain ⟨hlt, h60⟩ := hgo
      have hltI := Int.ofNat_lt.2 hlt
      have h60I : (k : Int) < 60 := by omega
      have hk0 : (0 : Int) ≤ (k : Int) := by omega
      obtain ⟨q', c', hv', _, _, hcell⟩ := SlcS.get (SlcS.below hv.out hI.keeps)
      obtain ⟨cb, aoff, hq', hcell⟩ := hcell k (by rw [List.length_map]; exact hlt)
      simp only [Value.slice.injEq] at hv'
      obtain rfl : q = some ⟨cb, aoff, none⟩ := hv'.1.trans hq'
      have e0 : (acts.map aEl12).getD k [] = aEl12 acts[k] := by simp [List.getD, hlt]
      rw [e0] at hcell
      have y0 := hcell 0 (by decide)
      have y1 := hcell 1 (by decide)
      have y2 := hcell 2 (by decide)
      have y3 := hcell 3 (by decide)
      clear hcell hv' hq' e0
      generalize acts[k] = a at *
      obtain ⟨ki, rd, cp, id⟩ := a
      simp only [aEl12, List.getD_cons_zero, List.getD_cons_succ, Nat.add_zero] at y0 y1 y2 y3
      obtain ⟨A, hA⟩ : ∃ A, A = wo.heap.size := ⟨_, rfl⟩
      have hB := Blk.new wo 33 [.int .i64 ki, .int .i64 rd, .int .i64 cp, .int .i64 id]
      rw [← hA] at hB
      have hI2 := hI.kept (Keeps.alloc wo (.cells [.int .i64 ki, .int .i64 rd, .int .i64 cp, .int .i64 id].toArray 33))
      replace hA := Lib.hid hA
      replace hB := Lib.hid hB
      replace hI2 := Lib.hid hI2
      have htold := hH.sum
      have hcle := hH.le
      have hto60 : told ≤ 60 := by omega
      have hok := hH.ok.sok
      have hstk := hH.ok.st
      have hb0 := hH.ok.b0
      have hb1 := hH.ok.b1
      have hla := hH.ok.last
      have hbB : G.began < 1000000000 := by omega
      have hstB : G.S.st + 1 < 1000000 := by omega
      clear htold
      replace hH := Lib.hid hH
      replace hok := Lib.hid hok
      clear hI
      obtain ⟨kd, hkd, ek⟩ := wrap_mod ki 6 (by decide)
      go_upto_region 10 with (fail)
      rw [← hA.out]
      refine wp_gen (fun W => EI w g sp p rb cap pp bb xb G (xf G.S) W ∧ Blk W A 33 [.int .i64 ki, .int .i64 rd, .int .i64 cp, .int .i64 id]) ⟨hI2.out, hB.out⟩ ?_
      clear hI2 hB hA y0 y1 y2 y3
      rintro W ⟨hI, hB⟩
      have a0 := hB.cell 0 (by simp)
      have a1 := hB.cell 1 (by simp)
      have a2 := hB.cell 2 (by simp)
      simp only [List.getElem_cons_zero, List.getElem_cons_succ] at a0 a1 a2
      replace hI := Lib.hid hI
      clear hB
      go_upto_block 2 with fail
      have hcase : kd = 0 ∨ kd = 1 ∨ kd = 2 ∨ kd = 3 ∨ (kd = 4 ∨ kd = 5) := by omega
      rcases hcase with rfl | rfl | rfl | rfl | hkd4
      · -- Enter
        as_aux_lemma =>
        obtain ⟨r, hr, he⟩ := hI.out.enter hstB rd
        have hN := Lib.hid (hH.out.turn (Turn.ent hok.out r hr) (hok.out.ent r))
        replace he := Lib.hid he
        clear hI hla hb0 hb1
        go_wp2_with fail
        refine he.out.mono ?_
        rintro e w2 ⟨v, rfl, hI2⟩
        replace hI2 := Lib.hid hI2
        go_wp2_with fail
        go_roundw
        case rel =>
          refine ⟨k + 1, _, _, _, _, by omega, by omega, ?_, by go_num, ?_, ?_, ?_, hN.out, hI2.out⟩
          · omega
          · first | rfl | go_num
          · rfl
          · rfl
        case measure => (simp [intOf]; try omega)
      · -- Exit
        as_aux_lemma =>
        obtain ⟨r, hr, he⟩ := hI.out.exit rd
        have hN := Lib.hid (hH.out.turn (Turn.exi hok.out r hr) (hok.out.exi r))
        replace he := Lib.hid he
        clear hI hla hb0 hb1
        go_wp2_with fail
        refine he.out.mono ?_
        rintro e w2 ⟨v, rfl, hI2⟩
        replace hI2 := Lib.hid hI2
        go_wp2_with fail
        go_roundw
        case rel =>
          refine ⟨k + 1, _, _, _, _, by omega, by omega, ?_, by go_num, ?_, ?_, ?_, hN.out, hI2.out⟩
          · omega
          · first | rfl | go_num
          · rfl
          · rfl
        case measure => (simp [intOf]; try omega)
      · -- Call
        as_aux_lemma =>
        obtain ⟨c4, hc4, ec4⟩ := wrap_mod cp 4 (by decide)
        have hc5 : c4 < 4 := by omega
        have hN := Lib.hid (hH.out.call c4 hc5 (k : Int) (by omega))
        have hroom := hH.out.room c4
        have hcall := hI.out.call c4 hc5 (k : Int) _ rfl
        rw [if_pos (by omega)] at hcall
        replace hcall := Lib.hid hcall
        clear hI hla hb0 hb1 hroom
        go_wp2_with fail
        refine hcall.out.mono ?_
        rintro e w2 ⟨rfl, hI2⟩
        replace hI2 := Lib.hid hI2
        go_wp2_with fail
        go_roundw
        case rel =>
          refine ⟨k + 1, _, _, _, _, by omega, by omega, ?_, by go_num, ?_, ?_, ?_, hN.out, hI2.out⟩
          · omega
          · first | rfl | go_num
          · rfl
          · rfl
        case measure => (simp [intOf]; try omega)
      · -- Ticket
        as_aux_lemma =>
        have hN := Lib.hid hH.out.ticket
        have htick := hI.out.ticket hb0 hbB
        replace htick := Lib.hid htick
        clear hI hla hb1
        go_wp2_with fail
        refine htick.out.mono ?_
        rintro e w3 ⟨rfl, hI3⟩
        replace hI3 := Lib.hid hI3
        go_wp2_with fail
        go_roundw
        case rel =>
          refine ⟨k + 1, _, _, _, _, by omega, by omega, ?_, by go_num, ?_, ?_, ?_, hN.out, hI3.out⟩
          · omega
          · first | rfl | go_num
          · rfl
          · rfl
        case measure => (simp [intOf]; try omega)
      · -- Poll
        as_aux_lemma =>
        have hpl := hH.out.poll
        have hlen := hH.out.tell
        have hp := hI.out.poll hT.out hb0 hbB hla (by omega)
        have hwt := lookS_want G
        have hwb := begS_want G.lookS.1
        replace hpl := Lib.hid hpl
        replace hp := Lib.hid hp
        have q0 : ((kd : Int) == 0) = false := by rw [beq_eq_false_iff_ne]; omega
        have q1 : ((kd : Int) == 1) = false := by rw [beq_eq_false_iff_ne]; omega
        have q2 : ((kd : Int) == 2) = false := by rw [beq_eq_false_iff_ne]; omega
        have q3 : ((kd : Int) == 3) = false := by rw [beq_eq_false_iff_ne]; omega
        obtain ⟨n2, hn2⟩ : ∃ n2, n2 = G.lookS.2.length := ⟨_, rfl⟩
        rw [← hn2] at hlen
        replace hn2 := Lib.hid hn2
        replace hwt := Lib.hid hwt
        replace hwb := Lib.hid hwb
        have hs0 : (0 : Int) ≤ (told : Int) := by omega
        have hs1 : (told : Int) ≤ 60 := by omega
        have hs2 : (n2 : Int) ≤ 60 := by omega
        have hs3 : (0 : Int) ≤ (n2 : Int) := by omega
        clear hkd4 hI hla hb0 hb1
        go_wp2_with fail
        refine hp.out.mono ?_
        rintro e w2 ⟨qo, capo, x, rfl, _, hI2⟩
        obtain ⟨d', hN⟩ := hpl.out x
        have hS : (G.lookS.1.begS x).S = G.S := (hwb.out x).2.2.1.trans hwt.out.2.2
        have hW : (G.lookS.1.begS x).want = G.want := (hwb.out x).1.trans hwt.out.1
        have hX : xf G.S = xf (G.lookS.1.begS x).S := by rw [hS]
        rw [hX] at hI2
        rw [← hn2.out] at hN ⊢
        generalize G.lookS.1.begS x = G2 at *
        replace hN := Lib.hid hN
        replace hI2 := Lib.hid hI2
        replace hW := Lib.hid hW
        clear hp hpl hS hX
        go_wp2_with fail
        go_roundw
        case rel => exact ⟨k + 1, G2, d', called, told + n2, by omega, by omega, by omega, by go_num, rfl, by go_num, by rw [hW.out], hN.out, hI2.out⟩
        case measure => (simp [intOf]; try omega)
    · have hend : ((k : Int) < (acts.length : Int) ∧ ¬ (k : Int) < 60) ∨ (¬ (k : Int) < (acts.length : Int)) := by omega
      replace hI := Lib.hid hI
      replace hH := Lib.hid hH
      have hkI : (k : Int) ≤ 60 := by omega
      have hcI : (called : Int) ≤ 60 := by have := hH.out.le; omega
      have hcase : (¬ (k : Int) < (acts.length : Int)) ∨ ((k : Int) < (acts.length : Int) ∧ ¬ (k : Int) < 60) := by omega
      clear hend
      rcases hcase with hx1 | ⟨hx1, hx2⟩
      all_goals
        as_aux_lemma =>
        go_upto_region 23 with (fail)
        obtain ⟨W1, hW1⟩ : ∃ W1, W1 = wo := ⟨_, rfl⟩
        rw [← hW1] at hI ⊢
        clear hW1
        obtain ⟨wn, hwn⟩ : ∃ x, x = G.want := ⟨_, rfl⟩
        rw [← hwn]
        replace hwn := Lib.hid hwn
        go_loopw [11] (fun r wr => ∃ (m : Nat) (G2 : GSt) (f : Nat → Int), m ≤ 64 ∧ r = .int .i64 (m : Int) ∧ EOk k G2 d called told ∧ EI w g sp p rb cap pp bb xb G2 f wr ∧ (∀ j, j < 64 → f j = (G2.S.dep j : Int)) ∧ (∀ j, j < m → G2.S.dep j = 0) ∧ G2.want = wn) (fun r _ => 64 - (intOf r).toNat)
        case atStart => exact ⟨0, G, _, by omega, rfl, hH.out, hI.out, fun j hj => xf_dep _ j hj, fun j hj => by omega, hwn.out.symm⟩
        case round =>
          clear hI hH
          obtain ⟨m, G2, f, hm, rfl, hH, hI, hf, hz, hw2⟩ := hrel
          obtain ⟨wo2, hwo2⟩ : ∃ x : World, x = wr := ⟨_, rfl⟩
          rw [← hwo2] at hI ⊢
          clear hwo2
          have hm0 : (0 : Int) ≤ (m : Int) := by omega
          by_cases hmo : m < 64
          · have hmoI : (m : Int) < 64 := by omega
            replace hH := Lib.hid hH
            replace hI := Lib.hid hI
            replace hf := Lib.hid hf
            replace hz := Lib.hid hz
            replace hw2 := Lib.hid hw2
            go_upto_region 25 with (fail)
            go_loopw [12, 13] (fun _ _ wr => ∃ (G3 : GSt) (f3 : Nat → Int), EOk k G3 d called told ∧ EI w g sp p rb cap pp bb xb G3 f3 wr ∧ (∀ j, j < 64 → f3 j = (G3.S.dep j : Int)) ∧ (∀ j, j < m → G3.S.dep j = 0) ∧ G3.want = wn) (fun _ _ wr => match wr.cell? ⟨xb, m, none⟩ with | some (.int _ z) => z.toNat | _ => 0)
            case atStart => exact ⟨G2, f, hH.out, hI.out, hf.out, hz.out, hw2.out⟩
            case round =>
              clear hH hI hf hz hw2
              obtain ⟨G3, f3, hH, hI, hf, hz, hw2⟩ := hrel
              have c0 := arr_cell hI.hx m (by omega)
              have hfr := hI.hx.frozen m
              have hfm := hf m hmo
              by_cases hd : G3.S.dep m = 0
              · rw [hfm, hd] at c0
                have hz2 : ∀ j, j < m + 1 → G3.S.dep j = 0 := fun j hj => by
                  by_cases e : j = m
                  · subst e; exact hd
                  · exact hz j (by omega)
                replace hz2 := Lib.hid hz2
                replace hH := Lib.hid hH
                replace hI := Lib.hid hI
                replace hf := Lib.hid hf
                replace hw2 := Lib.hid hw2
                clear hz hfm hd
                go_wp2_with fail
                go_roundw
                case rel => exact ⟨m + 1, G3, f3, by omega, by go_num, hH.out, hI.out, hf.out, hz2.out, hw2.out⟩
                case measure => (simp [intOf]; try omega)
              · have hdI : 0 < f3 m := by omega
                have hd9 : f3 m ≤ 8 := by have := hH.ok.sok.dep8 m; omega
                have hH2 := hH.exi m hmo
                have hx := (hI.setX m (f3 m - 1)).gexit (m : Int)
                rw [SSt.exiE_pos hmo hd] at hx
                have hf2 : ∀ j, j < 64 → upd f3 m (f3 m - 1) j = ((G3.S.exi (m : Int)).dep j : Int) := fun j hj => by
                  rw [SSt.exi_dep hH.ok.sok m hmo]
                  by_cases e : m = j
                  · subst e; rw [upd_same, if_pos rfl]; omega
                  · rw [upd_ne _ _ (Ne.symm e), if_neg e]; exact hf j hj
                have hz2 : ∀ j, j < m → (G3.S.exi (m : Int)).dep j = 0 := fun j hj => by
                  rw [SSt.exi_dep hH.ok.sok m hmo, if_neg (by omega)]; exact hz j hj
                have hcl := fun (X : World) (hE : EI w g sp p rb cap pp bb xb { G3 with S := G3.S.exi (m : Int) } (upd f3 m (f3 m - 1)) X) => arr_cell hE.hx m (by omega)
                generalize f3 m = fm at *
                generalize G3.S.exiB (m : Int) = bl at *
                replace hH2 := Lib.hid hH2
                replace hx := Lib.hid hx
                replace hf2 := Lib.hid hf2
                replace hz2 := Lib.hid hz2
                replace hw2 := Lib.hid hw2
                replace hcl := Lib.hid hcl
                clear hz hfm hd hH hI hf
                go_wp2_with fail
                refine hx.out.mono ?_
                rintro e w3 ⟨rfl, hI3⟩
                have hc3 := hcl.out w3 hI3
                rw [upd_same] at hc3
                replace hI3 := Lib.hid hI3
                go_wp2_with fail
                go_roundw
                case rel => exact ⟨_, _, hH2.out, hI3.out, hf2.out, hz2.out, hw2.out⟩
                case measure => (rw [hc3, c0]; show (fm - 1).toNat < fm.toNat; omega)
          · have hm64 : ¬ (m : Int) < 64 := by omega
            have hnob : Nobody G2.S := fun r hr => hz r (by omega)
            replace hmo := Lib.hid hmo
            have hrk := rank_le G2
            replace hH := Lib.hid hH
            replace hI := Lib.hid hI
            replace hnob := Lib.hid hnob
            replace hw2 := Lib.hid hw2
            clear hz hf
            go_upto_region 31 with (fail)
            go_loopw [8, 14] (fun tl i wr => ∃ (m : Nat) (G3 : GSt) (d3 told3 : Nat), m ≤ 8 ∧ i = .int .i64 (m : Int) ∧ tl = .int .i64 (told3 : Int) ∧ EOk (k + m) G3 d3 called told3 ∧ EI w g sp p rb cap pp bb xb G3 f wr ∧ Nobody G3.S ∧ rank G3 ≤ 5 - m ∧ G3.want = wn) (fun _ i _ => 8 - (intOf i).toNat)
            case atStart => exact ⟨0, G2, d, told, by omega, rfl, rfl, hH.out, hI.out, hnob.out, hrk, hw2.out⟩
            case round =>
              clear hH hI hnob hrk hw2
              obtain ⟨m, G3, d3, told3, hm8, rfl, rfl, hH, hI, hnob, hrk, hw3⟩ := hrel
              have hsum := hH.sum
              have hcle := hH.le
              have hm0 : (0 : Int) ≤ (m : Int) := by omega
              by_cases hmo : m < 8
              · have hmoI : (m : Int) < 8 := by omega
                have hpl := hH.poll
                have hlen := hH.tell
                have hb0 := hH.ok.b0
                have hb1 := hH.ok.b1
                have hp := hI.poll hT.out hb0 (by omega) hH.ok.last (by omega)
                have hrp := rank_poll hH.ok hnob hH.want
                have hwt := lookS_want G3
                have hwb := begS_want G3.lookS.1
                obtain ⟨n2, hn2⟩ : ∃ n2, n2 = G3.lookS.2.length := ⟨_, rfl⟩
                rw [← hn2] at hlen
                have hs0 : (0 : Int) ≤ (told3 : Int) := by omega
                have hs1 : (told3 : Int) ≤ 60 := by omega
                have hs2 : (n2 : Int) ≤ 60 := by omega
                have hs3 : (0 : Int) ≤ (n2 : Int) := by omega
                replace hpl := Lib.hid hpl
                replace hp := Lib.hid hp
                replace hn2 := Lib.hid hn2
                replace hwt := Lib.hid hwt
                replace hwb := Lib.hid hwb
                replace hrp := Lib.hid hrp
                replace hnob := Lib.hid hnob
                replace hw3 := Lib.hid hw3
                replace hrk := Lib.hid hrk
                clear hH hI hb0 hb1 hsum hcle
                go_wp2_with fail
                refine hp.out.mono ?_
                rintro e w2 ⟨qo, capo, x, rfl, _, hI2⟩
                obtain ⟨d', hN⟩ := hpl.out x
                have hS : (G3.lookS.1.begS x).S = G3.S := (hwb.out x).2.2.1.trans hwt.out.2.2
                have hW : (G3.lookS.1.begS x).want = wn := ((hwb.out x).1.trans hwt.out.1).trans hw3.out
                have hnob2 : Nobody (G3.lookS.1.begS x).S := by rw [hS]; exact hnob.out
                have hrk2 : rank (G3.lookS.1.begS x) ≤ 5 - (m + 1) := by have := hrp.out x; have := hrk.out; omega
                rw [← hn2.out] at hN ⊢
                generalize G3.lookS.1.begS x = G4 at *
                replace hN := Lib.hid hN
                replace hI2 := Lib.hid hI2
                replace hW := Lib.hid hW
                replace hnob2 := Lib.hid hnob2
                replace hrk2 := Lib.hid hrk2
                clear hp hpl hS
                go_wp2_with fail
                go_roundw
                case rel => exact ⟨m + 1, G4, d', told3 + n2, by omega, by go_num, by go_num, hN.out, hI2.out, hnob2.out, hrk2.out, hW.out⟩
                case measure => (simp [intOf]; try omega)
              · obtain rfl : m = 8 := by omega
                obtain ⟨r1, r2, r3⟩ := rank_end hH.ok (by omega)
                have hmz := hnob.m hH.ok.sok
                rw [r2, List.length_nil, Nat.add_zero] at hsum
                subst hsum
                have hin := fun (X : World) (hk : Keeps wr X) => gin_any (hI.kept hk).at'
                have hwa := fun (X : World) (hk : Keeps wr X) => gwaiting_any (hI.kept hk).at'
                have hov := fun (X : World) (hk : Keeps wr X) => gover_any (hI.kept hk).at' wn
                have hru := fun (X : World) (hk : Keeps wr X) => grunning_any (hI.kept hk).at'
                rw [r2] at hwa
                rw [hmz] at hin
                rw [decide_eq_true (show wn ≤ G3.done by rw [← hw3]; exact r3)] at hov
                rw [r1] at hru
                have hKw := hI.keeps
                replace hKw := Lib.hid hKw
                replace hin := Lib.hid hin
                replace hwa := Lib.hid hwa
                replace hov := Lib.hid hov
                replace hru := Lib.hid hru
                clear hH hI hnob hrk r1 r2 r3 hmz hcle hw3
                go_wp2_with fail
                with_reducible refine (hkn.out _ hKw.out).mono ?_
                rintro e w2 ⟨rfl, hk2⟩
                replace hk2 := Lib.hid hk2
                go_wp2_with fail
                with_reducible refine (hin.out _ hk2.out).mono ?_
                rintro e w' ⟨rfl, rfl⟩
                go_wp2_with fail
                with_reducible refine (hwa.out _ hk2.out).mono ?_
                rintro e w3 ⟨rfl, hk3⟩
                have hk23 := Lib.hid (Keeps.trans hk2.out hk3)
                clear hk3
                go_wp2_with fail
                with_reducible refine (hov.out _ hk23.out).mono ?_
                rintro e w' ⟨rfl, rfl⟩
                go_wp2_with fail
                with_reducible refine (hru.out _ hk23.out).mono ?_
                rintro e w' ⟨rfl, rfl⟩
                go_wp2_with fail
                go_ret
                exact ⟨rfl, Keeps.trans hKw.out hk23.out⟩
end Go.Proofs.YtefippjakkgjkaaDoor
