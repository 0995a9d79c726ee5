/- GraceHolds: the walk. -/
import Derived.Test.YtefippjakkgjkaaDoorHoldA
import Derived.Deep.DeepCutAuto
import Derived.Deep.CutBlock
namespace Go.Proofs.YtefippjakkgjkaaDoor
open Go.RowKit

theorem loadMidG {P : Program} {ops : Array Oper} {rest : List Oper} {op : Oper} {a : Act} {w : World} {Q : Exit → Act → World → Prop} (hw : Region.wanted op (yielded ops a.tmps) = true) (ty : TypeId) (x : Operand) (ho : op.op = .load ty x)
    (b o : Nat) (hx : a.eval x = .pointer (some ⟨b, o, none⟩)) (cs : List Value) (d : TypeDesc) (hc : w.rangeAt b o cs)
    (hu : P.underlying ty = some d) (hd : d.isRow = true) (hi : (P.info? ty).map (·.size) = some cs.length)
    (h : wpList P ops Q rest (a.put op.dst (.agg cs.toArray)) w) : wpList P ops Q (op :: rest) a w := by
  unfold wpList
  rw [if_pos hw]
  exact .inl (wp_load_mid ty x ho b o hx cs d hc hu hd hi h)
theorem zeroPic (w : World) : (zeroValue 30).run Tryd.prog w = .ok (.agg (arr 5120 fun _ => 0).toArray) w := by kernel_rfl
theorem zero80 (w : World) : (zeroValue 31).run Tryd.prog w = .ok (.agg (arr 80 fun _ => 0).toArray) w := by kernel_rfl
set_option maxRecDepth 100000 in
set_option maxHeartbeats 4000000 in
theorem lawHolds12_any (v : Value) (acts : List Act12) (w : World) (hT : TabAt w) (hv : SlcS 4 w v (acts.map aEl12)) :
    Calls Tryd.prog 3 #[v] w fun e w' => e = .returned (.bool true) ∧ Keeps w w' := by
  have hkn := fun (W : World) (h : Keeps w W) => known12_any W (hT.keeps h)
  have hst := GI.start (n := 4) (by decide) (by decide) w
  rw [show ((4 : Nat) : Int) = 4 from rfl] at hst
  obtain ⟨q, cap0, rfl, hl, hc, _⟩ := SlcS.get hv
  rw [List.length_map] at hl ⊢
  have haI : (0 : Int) ≤ (acts.length : Int) := by omega
  have hz1 := zeroIns
  have hz2 := zeroPic
  have hz3 := zero80
  obtain ⟨Z1, hZ1⟩ : ∃ Z, Z = (arr 129 fun _ => 0).toArray := ⟨_, rfl⟩
  obtain ⟨Z2, hZ2⟩ : ∃ Z, Z = (arr 5120 fun _ => 0).toArray := ⟨_, rfl⟩
  obtain ⟨Z3, hZ3⟩ : ∃ Z, Z = (arr 80 fun _ => 0).toArray := ⟨_, rfl⟩
  rw [← hZ1] at hz1
  rw [← hZ2] at hz2
  rw [← hZ3] at hz3
  replace hZ1 := Lib.hid hZ1
  replace hZ2 := Lib.hid hZ2
  replace hZ3 := Lib.hid hZ3
  replace hkn := Lib.hid hkn
  replace hst := Lib.hid hst
  replace hv := Lib.hid hv
  replace hT := Lib.hid hT
  go_enter Tryd.func3, Tryd.ntmps3
  go_wp2_with fail
  refine hst.out.mono ?_
  rintro e w1 ⟨g, sp, p, rb, cap, pp, bb, rfl, hG⟩
  obtain ⟨xb, e1⟩ : ∃ b, b = w1.heap.size := ⟨_, rfl⟩
  obtain ⟨ab, e2⟩ : ∃ b, b = w1.heap.size + 1 := ⟨_, rfl⟩
  obtain ⟨tb, e3⟩ : ∃ b, b = w1.heap.size + 1 + 1 := ⟨_, rfl⟩
  obtain ⟨kb, e4⟩ : ∃ b, b = w1.heap.size + 1 + 1 + 1 := ⟨_, rfl⟩
  have hI := HI.start hG xb ab tb kb e1 e2 e3 e4
  rw [← hZ1.out, ← hZ2.out, ← hZ3.out] at hI
  replace hI := Lib.hid hI
  replace e1 := Lib.hid e1
  replace e2 := Lib.hid e2
  replace e3 := Lib.hid e3
  replace e4 := Lib.hid e4
  clear hst hG
  go_upto_region 9 with (fail)
  rw [← e4.out, ← e3.out, ← e2.out, ← e1.out]
  refine wp_gen (fun W => HI w g sp p rb cap pp bb xb ab tb kb (.new 4) (fun _ => 0) (fun _ => 0) (fun _ => 0) W) hI.out ?_
  clear hI e1 e2 e3 e4 hz1 hz2 hz3 hZ1 hZ2 hZ3
  rintro W hI
  replace hI := Lib.hid hI
  have hH0 := Lib.hid HOk.start
  go_loopw [9] (fun i wr => ∃ (k : Nat) (G : GSt) (d : Nat) (pf t tk : Nat → Int) (mk : Nat → Nat), k ≤ acts.length ∧ k ≤ 80 ∧ i = .int .i64 (k : Int) ∧ HOk k G d pf t tk mk ∧ HI w g sp p rb cap pp bb xb ab tb kb G pf t tk wr) (fun i _ => acts.length - (intOf i).toNat)
  case atStart => exact ⟨0, _, _, _, _, _, _, by omega, by omega, rfl, hH0.out, hI.out⟩
  case round =>
    clear hI hH0
    obtain ⟨k, G, d, pf, t, tk, mk, hk, hk80, rfl, hH, hI⟩ := hrel
    obtain ⟨wo, hwo⟩ : ∃ wo : World, wo = wr := ⟨_, rfl⟩
    rw [← hwo] at hI ⊢
    clear hwo
    by_cases hgo : k < acts.length ∧ k < 80
    · obtain ⟨hlt, h80⟩ := hgo
      have hltI := Int.ofNat_lt.2 hlt
      have h80I : (k : Int) < 80 := by omega
      have hk0 : (0 : Int) ≤ (k : Int) := by omega
      obtain ⟨q', c', hv', _, _, hcell⟩ := SlcS.get (SlcS.below hv.out hI.keeps)
      obtain ⟨cb, aoff, hq', hcell⟩ := hcell k (by rw [List.length_map]; exact hlt)
      simp only [Value.slice.injEq] at hv'
      obtain rfl : q = some ⟨cb, aoff, none⟩ := hv'.1.trans hq'
      have e0 : (acts.map aEl12).getD k [] = aEl12 acts[k] := by simp [List.getD, hlt]
      rw [e0] at hcell
      have y0 := hcell 0 (by decide)
      have y1 := hcell 1 (by decide)
      have y2 := hcell 2 (by decide)
      have y3 := hcell 3 (by decide)
      clear hcell hv' hq' e0
      generalize acts[k] = a at *
      obtain ⟨ki, rd, cp, id⟩ := a
      simp only [aEl12, List.getD_cons_zero, List.getD_cons_succ, Nat.add_zero] at y0 y1 y2 y3
      obtain ⟨A, hA⟩ : ∃ A, A = wo.heap.size := ⟨_, rfl⟩
      have hB := Blk.new wo 33 [.int .i64 ki, .int .i64 rd, .int .i64 cp, .int .i64 id]
      rw [← hA] at hB
      have hI2 := hI.kept (Keeps.alloc wo (.cells [.int .i64 ki, .int .i64 rd, .int .i64 cp, .int .i64 id].toArray 33))
      replace hA := Lib.hid hA
      replace hB := Lib.hid hB
      replace hI2 := Lib.hid hI2
      replace hH := Lib.hid hH
      clear hI
      obtain ⟨kd, hkd, ek⟩ := wrap_mod ki 6 (by decide)
      go_upto_region 12 with (fail)
      rw [← hA.out]
      refine wp_gen (fun W => HI w g sp p rb cap pp bb xb ab tb kb G pf t tk W ∧ Blk W A 33 [.int .i64 ki, .int .i64 rd, .int .i64 cp, .int .i64 id]) ⟨hI2.out, hB.out⟩ ?_
      clear hI2 hB hA y0 y1 y2 y3
      rintro W ⟨hI, hB⟩
      have a0 := hB.cell 0 (by simp)
      have a1 := hB.cell 1 (by simp)
      simp only [List.getElem_cons_zero, List.getElem_cons_succ] at a0 a1
      replace hI := Lib.hid hI
      clear hB
      go_upto_block 2 with fail
      go_cut [] (fun wx => ∃ (G2 : GSt) (d2 : Nat) (pf2 t2 tk2 : Nat → Int) (mk2 : Nat → Nat), HOk (k + 1) G2 d2 pf2 t2 tk2 mk2 ∧ HI w g sp p rb cap pp bb xb ab tb kb G2 pf2 t2 tk2 wx)
      case first =>
        have hok := hH.out.ok.sok
        have hstk := hH.out.ok.st
        have hb0 := hH.out.ok.b0
        have hb1 := hH.out.ok.b1
        have hdn := hH.out.ok.dn
        have hla := hH.out.ok.last
        have hbB : G.began < 1000000000 := by omega
        replace hok := Lib.hid hok
        have hcase : kd = 0 ∨ kd = 1 ∨ kd = 2 ∨ kd = 3 ∨ (kd = 4 ∨ kd = 5) := by omega
        rcases hcase with rfl | rfl | rfl | rfl | hkd4
        · -- Enter
          as_aux_lemma =>
          obtain ⟨r, hr, he⟩ := hI.out.enter (by omega) rd
          have hN := Lib.hid (hH.out.turn (Turn.ent hok.out r hr) (hok.out.ent r))
          replace he := Lib.hid he
          clear hI hdn hla hb0 hb1
          go_wp2_with fail
          refine he.out.mono ?_
          rintro e w2 ⟨v, rfl, hI2⟩
          replace hI2 := Lib.hid hI2
          go_wp2_with fail
          go_meet
          exact ⟨_, _, _, _, _, _, hN.out, hI2.out⟩
        · -- Exit
          as_aux_lemma =>
          obtain ⟨r, hr, he⟩ := hI.out.exit rd
          have hN := Lib.hid (hH.out.turn (Turn.exi hok.out r hr) (hok.out.exi r))
          replace he := Lib.hid he
          clear hI hdn hla hb0 hb1
          go_wp2_with fail
          refine he.out.mono ?_
          rintro e w2 ⟨v, rfl, hI2⟩
          replace hI2 := Lib.hid hI2
          go_wp2_with fail
          go_meet
          exact ⟨_, _, _, _, _, _, hN.out, hI2.out⟩
        · -- Call
          as_aux_lemma =>
          have hN := Lib.hid (hH.out.call h80)
          have hroom := hH.out.room h80 (k % 4) (Nat.mod_lt _ (by decide))
          have hsec := hI.out.sec
          have hth := arr_there (n := 64) (o := 64 * k) hI.out.ba (by omega)
          have hsA := hI.out.setA k
          obtain ⟨c4, hc4⟩ : ∃ c, c = k % 4 := ⟨_, rfl⟩
          have hc5 : c4 < 4 := by omega
          have hmod : ((k : Int)).tmod 4 = (c4 : Int) := by rw [Int.tmod_eq_emod_of_nonneg hk0]; omega
          rw [← hc4] at hN hroom
          replace hsec := Lib.hid hsec
          replace hth := Lib.hid hth
          replace hsA := Lib.hid hsA
          replace hc4 := Lib.hid hc4
          clear hdn hla hb0 hb1
          have hcl := arr_len 64 (secF G.S)
          have hco := arr_one 64 (secF G.S)
          replace hcl := Lib.hid hcl
          replace hco := Lib.hid hco
          generalize hcs : arr 64 (secF G.S) = cs at *
          replace hcs := Lib.hid hcs
          go_upto_region 25 with (fail)
          go_upto_region 26 with (first
            | (refine wpList_load_mid rfl _ _ rfl xb 64 rfl cs _ hsec.out rowU rfl (by rw [hcl.out]; exact rowZ) ?_)
            | (refine wpList_store_mid rfl _ _ _ rfl ab (k * 64) cs.toArray rfl rfl (by rw [List.size_toArray, hcl.out, Nat.mul_comm]; exact hth.out) (by rw [List.size_toArray, hcl.out]; exact rowZ) (all_oneCell_toArray hco.out) ?_))
          refine wp_gen (fun X => HI w g sp p rb cap pp bb xb ab tb kb G (rowF pf k G.S) t tk X) (by rw [Nat.mul_comm]; exact hsA.out) ?_
          clear hsA hsec hth hcl hco hI
          rintro W2 hI
          have ct := arr_cell hI.bt k h80
          have hf := hI.bt.frozen k
          have hI2 := hI.setT k 1
          have hcall := hI2.call c4 hc5 (k : Int) _ rfl
          rw [if_pos (by omega)] at hcall
          rw [World.size_setCell] at hcall
          generalize t k = tk0 at *
          replace hcall := Lib.hid hcall
          clear hI hI2 hroom
          go_wp2_with fail
          refine hcall.out.mono ?_
          rintro e w3 ⟨rfl, hI3⟩
          replace hI3 := Lib.hid hI3
          go_wp2_with fail
          go_meet
          exact ⟨_, _, _, _, _, _, hN.out, hI3.out⟩
        · -- Ticket
          as_aux_lemma =>
          have hN := Lib.hid hH.out.ticket
          have hsec := hI.out.sec
          have hth := arr_there (n := 64) (o := 64 * k) hI.out.ba (by omega)
          have hsA := hI.out.setA k
          replace hsec := Lib.hid hsec
          replace hth := Lib.hid hth
          replace hsA := Lib.hid hsA
          have hcl := arr_len 64 (secF G.S)
          have hco := arr_one 64 (secF G.S)
          replace hcl := Lib.hid hcl
          replace hco := Lib.hid hco
          generalize hcs : arr 64 (secF G.S) = cs at *
          replace hcs := Lib.hid hcs
          go_upto_region 30 with (fail)
          go_upto_region 31 with (first
            | (refine wpList_load_mid rfl _ _ rfl xb 64 rfl cs _ hsec.out rowU rfl (by rw [hcl.out]; exact rowZ) ?_)
            | (refine wpList_store_mid rfl _ _ _ rfl ab (k * 64) cs.toArray rfl rfl (by rw [List.size_toArray, hcl.out, Nat.mul_comm]; exact hth.out) (by rw [List.size_toArray, hcl.out]; exact rowZ) (all_oneCell_toArray hco.out) ?_))
          refine wp_gen (fun X => HI w g sp p rb cap pp bb xb ab tb kb G (rowF pf k G.S) t tk X) (by rw [Nat.mul_comm]; exact hsA.out) ?_
          clear hsA hsec hth hcl hco hI
          rintro W2 hI
          have htick := hI.ticket hb0 hbB
          replace htick := Lib.hid htick
          clear hI
          go_wp2_with fail
          refine htick.out.mono ?_
          rintro e w3 ⟨rfl, hI3⟩
          have ck := arr_cell hI3.bk k h80
          have hf := hI3.bk.frozen k
          have hI4 := hI3.setK k (G.began + 1)
          have hb2 : ¬ G.began + 1 ≤ G.done := by omega
          generalize tk k = tk0 at *
          generalize G.began + 1 = bg at *
          replace hI4 := Lib.hid hI4
          clear hI3 htick hla hbB
          go_upto_region 32 with (fail)
          refine wp_gen (fun X => HI w g sp p rb cap pp bb xb ab tb kb { G with want := bg } (rowF pf k G.S) t (upd tk k bg) X) hI4.out ?_
          clear hI4 ck hf
          rintro W4 hI4
          have ck2 := arr_cell hI4.bk k h80
          rw [upd_same] at ck2
          have hdone := fun n => gdone_any (hI4.kept (Keeps.drewN W4 n)).ins.at'
          simp only at hdone
          generalize G.done = dn at *
          have hb3 : decide (bg ≤ dn) = false := decide_eq_false (by omega)
          replace hI4 := Lib.hid hI4
          replace hdone := Lib.hid hdone
          go_quiet (with_reducible exact Go.Proofs.YtefippjakkgjkaaDoor.Calls.quiet_same (hdone.out _))
          go_wp2_with fail
          go_meet
          exact ⟨_, _, _, _, _, _, hN.out, hI4.out.kept (Keeps.drewN _ _)⟩
        · -- Poll
          as_aux_lemma =>
          have hpl := hH.out.poll
          have hlen := hH.out.tell_len
          have hp := hI.out.poll hT.out hb0 hbB hla (by omega)
          have htl := hI.out.bt.lt
          replace hpl := Lib.hid hpl
          replace hp := Lib.hid hp
          clear hI hdn hla hb0 hb1 hlen
          have q0 : ((kd : Int) == 0) = false := by rw [beq_eq_false_iff_ne]; omega
          have q1 : ((kd : Int) == 1) = false := by rw [beq_eq_false_iff_ne]; omega
          have q2 : ((kd : Int) == 2) = false := by rw [beq_eq_false_iff_ne]; omega
          have q3 : ((kd : Int) == 3) = false := by rw [beq_eq_false_iff_ne]; omega
          clear hkd4
          go_wp2_with fail
          refine hp.out.mono ?_
          rintro e w2 ⟨v, x, rfl, hvo, hown, hI2⟩
          obtain ⟨d', hO, hnd, _, hN⟩ := hpl.out x
          generalize G.lookS.2 = O at *
          generalize G.lookS.1.begS x = G2 at *
          obtain ⟨qo, capo, rfl, hol, hoc, hocell⟩ := hvo.open
          have hsep : ∀ b, (Value.slice qo O.length capo).ownBlock = some b → b ≠ tb := fun b hb => by have := hown b hb; omega
          have hI3 : HI w g sp p rb cap pp bb xb ab tb kb G2 pf (toldT (O.take 0) t) tk w2 := by rw [List.take_zero, told_nil]; exact hI2
          have hOI : (0 : Int) ≤ (O.length : Int) := by omega
          replace hO := Lib.hid hO
          replace hnd := Lib.hid hnd
          replace hN := Lib.hid hN
          replace hsep := Lib.hid hsep
          replace hI3 := Lib.hid hI3
          replace hvo := Lib.hid hvo
          clear hp hpl hI2 hown hocell htl
          go_wp2_with fail
          go_loopw [12] (fun j wr => ∃ m : Nat, m ≤ O.length ∧ j = .int .i64 (m : Int) ∧ HI w g sp p rb cap pp bb xb ab tb kb G2 pf (toldT (O.take m) t) tk wr ∧ Ints wr (.slice qo O.length capo) O) (fun j _ => O.length - (intOf j).toNat)
          case atStart => exact ⟨0, Nat.zero_le _, rfl, hI3.out, hvo.out⟩
          case round =>
            clear hI3 hvo
            obtain ⟨m, hm, rfl, hI, hvo⟩ := hrel
            by_cases hmo : m < O.length
            · have hmoI := Int.ofNat_lt.2 hmo
              have hm0 : (0 : Int) ≤ (m : Int) := by omega
              obtain ⟨_, _, hv', _, _, hcell⟩ := hvo.open
              obtain ⟨oc, ooff, hq', hcell⟩ := hcell m hmo
              simp only [Value.slice.injEq] at hv'
              obtain rfl : qo = some ⟨oc, ooff, none⟩ := hv'.1.trans hq'
              clear hv' hq'
              obtain ⟨a, ha, hOa, hta, hmk⟩ := hO.out _ (List.getElem_mem hmo)
              have hget : O[m]? = some (a : Int) := by rw [List.getElem?_eq_getElem hmo, hOa]
              rw [hOa] at hcell
              have ct := arr_cell hI.bt a (by omega)
              rw [told_fresh hnd.out hget, hta] at ct
              have hft := hI.bt.frozen a
              have hpi := hI.pict a (by omega)
              have hend := xended_any hI.ins.hx (fun r => pf (64 * a + r))
              rw [hN.out.ended a hmk] at hend
              have hcl := arr_len 64 (fun r => pf (64 * a + r))
              generalize arr 64 (fun r => pf (64 * a + r)) = cs at *
              have hset := fun (X : World) (hk : Keeps wr X) => (hI.kept hk).setT a 2
              rw [told_step hget] at hset
              have hvs := fun (X : World) (hk : Keeps wr X) => Slc.chg (S := (· = tb)) (Slc.below hvo hk) (Chg.setCell (b := tb) a (.int .i64 2) rfl) (fun b hb e => hsep.out b hb e)
              have z0 : (0 : Int) ≤ (a : Int) := by omega
              have z1 : (a : Int) < 80 := by omega
              have d0 : decide ((a : Int) < 0) = false := decide_eq_false (by omega)
              have d1 : decide (80 ≤ (a : Int)) = false := decide_eq_false (by omega)
              replace hpi := Lib.hid hpi
              replace hend := Lib.hid hend
              replace hcl := Lib.hid hcl
              replace hset := Lib.hid hset
              replace hvs := Lib.hid hvs
              replace hget := Lib.hid hget
              replace hmk := Lib.hid hmk
              replace hta := Lib.hid hta
              replace hOa := Lib.hid hOa
              clear hI hvo
              go_wp2_with (refine loadMidG rfl _ _ rfl ab (a * 64) rfl cs _ (by rw [Nat.mul_comm]; exact hpi.out) rowU rfl (by rw [hcl.out]; exact rowZ) ?_)
              refine hend.out.mono ?_
              rintro e w3 ⟨rfl, hk3⟩
              have hS3 := hset.out w3 hk3
              have hV3 := hvs.out w3 hk3
              have ct3 := (hk3.cell (p := ⟨tb, a, none⟩) (cell_lt ct)).trans ct
              have cc3 := (hk3.cell (p := ⟨oc, ooff + m, none⟩) (cell_lt hcell)).trans hcell
              have hf3 := (hk3.rules.2 tb a (cell_lt ct)).trans hft
              replace hS3 := Lib.hid hS3
              replace hV3 := Lib.hid hV3
              clear hset hvs hend hpi ct hcell hft
              replace hk3 := Lib.hid hk3
              go_wp2_with fail
              go_roundw
              case rel => exact ⟨m + 1, by omega, by go_num, hS3.out, hV3.out⟩
              case measure => (simp [intOf]; try omega)
            · obtain rfl : m = O.length := by omega
              have hmoI : ¬ (O.length : Int) < (O.length : Int) := by omega
              rw [List.take_of_length_le (Nat.le_refl _)] at hI
              replace hI := Lib.hid hI
              clear hvo
              go_wp2_with fail
              go_meet
              exact ⟨_, _, _, _, _, _, hN.out, hI.out⟩
      case rest =>
        obtain ⟨G2, d2, pf2, t2, tk2, mk2, hN, hI2⟩ := hcut
        obtain ⟨W5, hW5⟩ : ∃ W5, W5 = wc := ⟨_, rfl⟩
        rw [← hW5] at hI2 ⊢
        clear hW5 hI hH
        replace hN := Lib.hid hN
        replace hI2 := Lib.hid hI2
        go_upto_region 35 with (fail)
        go_loopw [13] (fun j wr => ∃ m : Nat, m ≤ k ∧ j = .int .i64 (m : Int) ∧ Keeps W5 wr) (fun j _ => k - (intOf j).toNat)
        case atStart => exact ⟨0, Nat.zero_le _, rfl, Keeps.refl _⟩
        case round =>
          obtain ⟨m, hm, rfl, hKr⟩ := hrel
          have hI := hI2.out.kept hKr
          have hmk : (m : Int) ≤ (k : Int) := by omega
          have hm0 : (0 : Int) ≤ (m : Int) := by omega
          by_cases hmo : m < k
          · have hmoI := Int.ofNat_lt.2 hmo
            have hm80 : (m : Int) < 80 := by omega
            have ck := arr_cell hI.bk m (by omega)
            have htk := hN.out.tks m
            have hov := gover_any hI.ins.at' (tk2 m)
            have hpi := hI.pict m (by omega)
            have hend := xended_any hI.ins.hx (fun r => pf2 (64 * m + r))
            have hed := hN.out.ended m
            have hcl := arr_len 64 (fun r => pf2 (64 * m + r))
            generalize arr 64 (fun r => pf2 (64 * m + r)) = cs at *
            generalize endedB G2.S (fun r => pf2 (64 * m + r)) = eb at *
            generalize tk2 m = tkm at *
            replace hpi := Lib.hid hpi
            replace hend := Lib.hid hend
            replace hcl := Lib.hid hcl
            replace hov := Lib.hid hov
            replace hKr := Lib.hid hKr
            replace hed := Lib.hid hed
            clear hI
            by_cases h0 : 0 < tkm
            · have d0 : decide (0 < tkm) = true := decide_eq_true h0
              have htk2 := Lib.hid (htk h0).2.1
              clear htk
              by_cases h1 : tkm ≤ G2.done
              · have hov2 := hov.out
                rw [decide_eq_true h1] at hov2
                have heb := hed.out (htk2.out h1)
                subst heb
                replace hov2 := Lib.hid hov2
                replace h1 := Lib.hid h1
                replace h0 := Lib.hid h0
                go_wp2_with fail
                refine hov2.out.mono ?_
                rintro e w' ⟨rfl, rfl⟩
                go_wp2_with (refine loadMidG rfl _ _ rfl ab (m * 64) rfl cs _ (by rw [Nat.mul_comm]; exact hpi.out) rowU rfl (by rw [hcl.out]; exact rowZ) ?_)
                refine hend.out.mono ?_
                rintro e w3 ⟨rfl, hk3⟩
                have hK3 := Lib.hid (Keeps.trans hKr.out hk3)
                replace hk3 := Lib.hid hk3
                go_wp2_with fail
                go_roundw
                case rel => exact ⟨m + 1, by omega, by go_num, hK3.out⟩
                case measure => (simp [intOf]; try omega)
              · have hov2 := hov.out
                rw [decide_eq_false h1] at hov2
                replace hov2 := Lib.hid hov2
                replace h1 := Lib.hid h1
                replace h0 := Lib.hid h0
                go_wp2_with fail
                refine hov2.out.mono ?_
                rintro e w' ⟨rfl, rfl⟩
                go_wp2_with fail
                go_roundw
                case rel => exact ⟨m + 1, by omega, by go_num, hKr.out⟩
                case measure => (simp [intOf]; try omega)
            · have d0 : decide (0 < tkm) = false := decide_eq_false h0
              clear htk
              replace h0 := Lib.hid h0
              go_wp2_with fail
              go_roundw
              case rel => exact ⟨m + 1, by omega, by go_num, hKr.out⟩
              case measure => (simp [intOf]; try omega)
          · obtain rfl : m = k := by omega
            have hmoI : ¬ (m : Int) < (m : Int) := by omega
            replace hI := Lib.hid hI
            clear hKr hI2
            go_wp2_with fail
            go_roundw
            case rel => exact ⟨m + 1, _, _, _, _, _, _, by omega, by omega, by go_num, hN.out, hI.out⟩
            case measure => (simp [intOf]; try omega)
    · have hend : (k : Int) = (acts.length : Int) ∨ (k : Int) = 80 := by omega
      replace hI := Lib.hid hI
      replace hH := Lib.hid hH
      rcases hend with h1 | h1
      · have hx : ¬ (k : Int) < (acts.length : Int) := by omega
        replace h1 := Lib.hid h1
        go_wp2_with fail
        refine (hkn.out _ hI.out.keeps).mono ?_
        rintro e w2 ⟨rfl, hK2⟩
        replace hK2 := Lib.hid hK2
        go_wp2_with fail
        go_ret
        exact ⟨rfl, Keeps.trans hI.out.keeps hK2.out⟩
      · have hx : ¬ (k : Int) < 80 := by omega
        replace h1 := Lib.hid h1
        by_cases hy : (k : Int) < (acts.length : Int)
        all_goals
          go_wp2_with fail
          refine (hkn.out _ hI.out.keeps).mono ?_
          rintro e w2 ⟨rfl, hK2⟩
          replace hK2 := Lib.hid hK2
          go_wp2_with fail
          go_ret
          exact ⟨rfl, Keeps.trans hI.out.keeps hK2.out⟩
end Go.Proofs.YtefippjakkgjkaaDoor
