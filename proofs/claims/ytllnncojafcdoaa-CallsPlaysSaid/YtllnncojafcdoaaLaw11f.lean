/- CallsPlays: the walk. -/
import Derived.Test.YtllnncojafcdoaaLaw11e
import Derived.Deep.CutBlock
namespace Go.Proofs.Ytllnncojafcdoaa
open Go.RowKit RgC

/-- Where the callbacks of a CPU stand, among the first j. -/
def rpos (L : List C3) (c j : Nat) : Nat := (ringL (L.take j) c).length
theorem rpos_end (L : List C3) (c : Nat) : rpos L c L.length = (ringL L c).length := by unfold rpos; rw [List.take_length]
theorem rpos_no {L : List C3} {c j : Nat} (hj : j < L.length) (h : ¬ L[j].1 = c) : rpos L c (j + 1) = rpos L c j := by
  unfold rpos ringL
  rw [List.take_succ_eq_append_getElem hj, List.filter_append]
  simp [h]
theorem rpos_yes {L : List C3} {c j : Nat} (hj : j < L.length) (h : L[j].1 = c) : rpos L c (j + 1) = rpos L c j + 1 ∧ ∃ hp : rpos L c j < (ringL L c).length, (ringL L c)[rpos L c j] = L[j].2 := by
  have e1 : ringL (L.take (j + 1)) c = ringL (L.take j) c ++ [L[j].2] := by
    unfold ringL
    rw [List.take_succ_eq_append_getElem hj, List.filter_append, List.map_append]
    simp [h]
  have e2 : ringL L c = ringL (L.take j) c ++ ([L[j].2] ++ ringL (L.drop (j + 1)) c) := by
    have e3 : ringL L c = ringL (L.take (j + 1)) c ++ ringL (L.drop (j + 1)) c := by
      unfold ringL
      rw [← List.map_append, ← List.filter_append, List.take_append_drop]
    rw [e3, e1, List.append_assoc]
  refine ⟨by unfold rpos; rw [e1, List.length_append, List.length_singleton], ?_⟩
  have hp : rpos L c j < (ringL L c).length := by unfold rpos; rw [e2]; simp
  refine ⟨hp, ?_⟩
  have : (ringL L c)[rpos L c j]? = some L[j].2 := by
    unfold rpos
    rw [e2, List.getElem?_append_right (Nat.le_refl _)]
    simp
  rw [List.getElem?_eq_getElem hp] at this
  exact Option.some.inj this
/-- An act: kind, CPU, generation, the ids' slice and what it reads. -/
abbrev Act11 : Type := Int × Int × Int × Value × List Int
def aEl (a : Act11) : List Value := [.int .i64 a.1, .int .i64 a.2.1, .int .i64 a.2.2.1, a.2.2.2.1]
set_option maxRecDepth 100000 in
set_option maxHeartbeats 4000000 in
theorem lawPlays11_any (n0 : Int) (v : Value) (acts : List Act11) (w : World) (hv : SlcS 4 w v (acts.map aEl)) (hi : ∀ a ∈ acts, Ints w a.2.2.2.1 a.2.2.2.2) :
    Calls Try.prog 5 #[.int .i64 n0, v] w fun e w' => e = .returned (.bool true) ∧ Keeps w w' := by
  obtain ⟨n5, hn5, en⟩ := wrap_mod n0 6 (by decide)
  have hkn := fun (W : World) => known11_any W
  obtain ⟨n, hn⟩ : ∃ n : Nat, n = 1 + n5 := ⟨_, rfl⟩
  have hn1 : 1 ≤ n := by omega
  have hn6 : n ≤ 6 := by omega
  have hnI : 1 + (n5 : Int) = (n : Int) := by omega
  have hst := LI.start (n := n) hn1 (by omega) w
  have hr0 : List.replicate n ([] : List Cl) = ringsL n [] := by
    apply List.ext_getElem
    · simp [ringsL]
    · intro i h1 h2; simp [ringsL, ringL]
  rw [hr0, ← hnI] at hst
  obtain ⟨q, cap, rfl, hl, hc, _⟩ := SlcS.get hv
  rw [List.length_map] at hl ⊢
  have haI : (0 : Int) ≤ (acts.length : Int) := by omega
  replace hkn := Lib.hid hkn
  replace hst := Lib.hid hst
  replace hv := Lib.hid hv
  replace hi := Lib.hid hi
  replace hn := Lib.hid hn
  replace hnI := Lib.hid hnI
  replace hr0 := Lib.hid hr0
  go_enter Try.func5, Try.ntmps5
  go_wp2_with fail
  refine hst.out.mono ?_
  rintro e w1 ⟨p, rb, cap2, pp, bb, rfl, hL⟩
  obtain ⟨M, hM⟩ : ∃ M, M = w1.heap.size := ⟨_, rfl⟩
  have hP : PI w p rb cap2 n pp bb M 0 [] (.slice none 0 0) (w1.alloc (.cells (lsC n 0 (.slice none 0 0)).toArray 41)) :=
    ⟨hL.kept (Keeps.alloc _ _), by rw [hM]; exact Blk.new _ _ _, SlcS.nil _ _, Fit.nil n, by rw [hM]; exact hL.keeps.size, fun hF => by have := hL.at'.foot_lt M hF; omega, fun b hb => by simp [Value.ownBlock] at hb⟩
  replace hP := Lib.hid hP
  replace hM := Lib.hid hM
  clear hst
  go_upto_region 6 with (fail)
  rw [hnI.out, ← hM.out]
  refine wp_gen (fun W => PI w p rb cap2 n pp bb M 0 [] (.slice none 0 0) W) hP.out ?_
  clear hP hM hL
  rintro W hP
  replace hP := Lib.hid hP
  go_wp2_with fail
  go_loopw [8] (fun i wr => ∃ (k : Nat) (last : Int) (L : List C3) (u : Value), k ≤ acts.length ∧ k ≤ 50 ∧ L.length ≤ k * 20 ∧ i = .int .i64 (k : Int) ∧ PI w p rb cap2 n pp bb M last L u wr) (fun i _ => acts.length - (intOf i).toNat)
  case atStart => exact ⟨0, 0, [], _, by omega, by omega, by simp, rfl, hP.out⟩
  case round =>
    clear hP
    obtain ⟨k, last, L, u, hk, hk50, hLl, rfl, hP⟩ := hrel
    obtain ⟨wo, hwo⟩ : ∃ wo : World, wo = wr := ⟨_, rfl⟩
    rw [← hwo] at hP ⊢
    clear hwo
    by_cases hgo : k < acts.length ∧ k < 50
    · obtain ⟨hlt, h50⟩ := hgo
      have hltI := Int.ofNat_lt.2 hlt
      have h50I : (k : Int) < 50 := by omega
      obtain ⟨q', c', hv', _, _, hcell⟩ := SlcS.get (SlcS.below hv.out hP.li.keeps)
      obtain ⟨ab, aoff, hq', hcell⟩ := hcell k (by rw [List.length_map]; exact hlt)
      simp only [Value.slice.injEq] at hv'
      obtain rfl : q = some ⟨ab, aoff, none⟩ := hv'.1.trans hq'
      have e0 : (acts.map aEl).getD k [] = aEl acts[k] := by simp [List.getD, hlt]
      rw [e0] at hcell
      have y0 := hcell 0 (by decide)
      have y1 := hcell 1 (by decide)
      have y2 := hcell 2 (by decide)
      have y3 := hcell 3 (by decide)
      have hids := hi.out _ (List.getElem_mem hlt)
      clear hcell hv' hq' e0
      generalize acts[k] = a at *
      obtain ⟨ki, cp, ge, sv, ids⟩ := a
      simp only [aEl, List.getD_cons_zero, List.getD_cons_succ, Nat.add_zero] at y0 y1 y2 y3 hids
      have hids2 : Ints wo sv ids := Slc.below hids hP.li.keeps
      obtain ⟨sq, scap, rfl, hsl, hsc, _⟩ := hids2.open
      have hws : w.heap.size ≤ wo.heap.size := hP.li.keeps.size
      have hiOld : ∀ (m : Nat) (b : Nat), (Value.slice sq m scap).ownBlock = some b → 0 < ids.length → b < w.heap.size := fun m b hb h0 => slc_ownLt hids b ((show (Value.slice sq ids.length scap).ownBlock = (Value.slice sq m scap).ownBlock by cases sq <;> rfl).trans hb) (by rw [List.length_map]; exact h0)
      replace hiOld := Lib.hid hiOld
      obtain ⟨A, hA⟩ : ∃ A, A = wo.heap.size := ⟨_, rfl⟩
      have hB := Blk.new wo 43 [.int .i64 ki, .int .i64 cp, .int .i64 ge, .slice sq ids.length scap]
      rw [← hA] at hB
      have hkA := Keeps.alloc wo (.cells [.int .i64 ki, .int .i64 cp, .int .i64 ge, .slice sq ids.length scap].toArray 43)
      have hP2 := hP.kept hkA
      replace hA := Lib.hid hA
      replace hB := Lib.hid hB
      replace hkA := Lib.hid hkA
      replace hP2 := Lib.hid hP2
      replace hids2 := Lib.hid hids2
      clear hids hP
      obtain ⟨kd, hkd, ek⟩ := wrap_mod ki 3 (by decide)
      go_upto_region 10 with (fail)
      rw [← hA.out]
      refine wp_gen (fun W => PI w p rb cap2 n pp bb M last L u W ∧ Blk W A 43 [.int .i64 ki, .int .i64 cp, .int .i64 ge, .slice sq ids.length scap] ∧ Ints W (.slice sq ids.length scap) ids) ⟨hP2.out, hB.out, Slc.below hids2.out hkA.out⟩ ?_
      have hAw : w.heap.size ≤ A := by rw [hA.out]; exact hws
      clear hP2 hB hids2 hkA hA y0 y1 y2 y3
      rintro W ⟨hP, hB, hids⟩
      have a0 := hB.cell 0 (by simp)
      have a1 := hB.cell 1 (by simp)
      have a2 := hB.cell 2 (by simp)
      have a3 := hB.cell 3 (by simp)
      simp only [List.getElem_cons_zero, List.getElem_cons_succ] at a0 a1 a2 a3
      replace hP := Lib.hid hP
      replace hB := Lib.hid hB
      replace hids := Lib.hid hids
      go_upto_block 2 with fail
      go_cut [] (fun wx => ∃ (last2 : Int) (L2 : List C3) (u2 : Value), L2.length ≤ (k + 1) * 20 ∧ PI w p rb cap2 n pp bb M last2 L2 u2 wx)
      case first =>
        have hkd3 : kd = 0 ∨ kd = 1 ∨ kd = 2 := by omega
        rcases hkd3 with rfl | rfl | rfl
        · -- Add
          as_aux_lemma =>
          obtain ⟨_, _, hse, _, _, hl0, hcase⟩ := hids.out.upto 20
          simp only [Value.slice.injEq] at hse
          obtain ⟨rfl, _, rfl⟩ := hse
          go_upto_region 16 with (fail)
          go_cut [10] (fun x wx => ∃ (m : Nat) (I : List Int), I.length = m ∧ (m ≤ 20 ∧ m ≤ ids.length) ∧ x = .slice sq m scap ∧ Ints W (.slice sq m scap) I ∧ wx = W)
          case first =>
            rcases hcase with ⟨hm, hI⟩ | ⟨hm, hI⟩
            · have hmI : (ids.length : Int) ≤ 20 := by omega
              replace hI := Lib.hid hI
              go_wp2_with fail
              go_meet
              exact ⟨_, ids, rfl, ⟨hm, Nat.le_refl _⟩, rfl, hI.out, rfl⟩
            · have hmI : 20 < (ids.length : Int) := by omega
              have hmI2 : (20 : Int) ≤ (ids.length : Int) := by omega
              have hsc2 : 20 ≤ scap := by omega
              have hl20 : (ids.take 20).length = 20 := by rw [List.length_take]; omega
              replace hI := Lib.hid hI
              replace hl20 := Lib.hid hl20
              go_wp2_with fail
              go_meet
              exact ⟨20, _, hl20.out, ⟨Nat.le_refl _, by omega⟩, rfl, hI.out, rfl⟩
          case rest =>
            as_aux_lemma =>
            obtain ⟨m, I, hIl, ⟨hm20, hmi⟩, rfl, hI, hw⟩ := hcut
            subst hw
            have hCw : w.heap.size ≤ wc.heap.size := hP.out.li.keeps.size
            by_cases hcc : cp < 0 ∨ (n : Int) ≤ cp
            · have hr := r11Add_no n last u (.slice sq m scap) L cp wc hP.out.cs hcc
              unfold ls3 at hr
              obtain ⟨qu, cu, hu, _, _, _⟩ := hP.out.cs.get
              replace hr := Lib.hid hr
              replace hcc := Lib.hid hcc
              replace hu := Lib.hid hu
              replace hIl := Lib.hid hIl
              replace hI := Lib.hid hI
              go_wp2_with (refine loadL hP.out.bm rfl _ rfl rfl ?_)
              refine hr.out.mono ?_
              rintro e W2 ⟨rfl, hK2⟩
              have hB2 := hB.out.keeps hK2
              have a4 := hB2.cell 1 (by simp)
              simp only [List.getElem_cons_zero, List.getElem_cons_succ] at a4
              replace hK2 := Lib.hid hK2
              replace hB2 := Lib.hid hB2
              clear hr
              rw [hu.out]
              go_upto_region 18 with (fail)
              rw [← hu.out]
              obtain ⟨C, hC⟩ : ∃ C, C = W2.heap.size := ⟨_, rfl⟩
              rw [← hC]
              refine wp_gen (fun X => Keeps W2 X ∧ Blk X C 41 (lsC n last u)) ⟨Keeps.alloc _ _, by rw [hC]; exact Blk.new _ _ _⟩ ?_
              rintro X ⟨hKX, hBC⟩
              have hBX := hB2.out.keeps hKX
              have hWX := Keeps.trans hK2.out hKX
              have hPX := hP.out.kept hWX
              have hd := ladd_no hPX.li.at' cp hcc.out (.slice sq m scap)
              have a3 := hBX.cell 1 (by simp)
              simp only [List.getElem_cons_zero, List.getElem_cons_succ] at a3
              replace hd := Lib.hid hd
              replace hBC := Lib.hid hBC
              replace hPX := Lib.hid hPX
              replace hC := Lib.hid hC
              clear hKX hBX a4 hWX
              go_wp2_with fail
              refine hd.out.mono ?_
              rintro e W5 ⟨rfl, hw5⟩
              subst hw5
              have hone := hPX.out.cs.one
              have hP6 := hPX.out.next (Keeps.refl _) hPX.out.cs (.inr rfl) hPX.out.li (Chg.refl _ _) (Keeps.refl _) hPX.out.fit
              replace hP6 := Lib.hid hP6
              replace hone := Lib.hid hone
              go_wp2_with (first | (refine loadL hBC.out rfl _ rfl rfl ?_) | (refine storeL hPX.out.bm hone.out rfl _ _ rfl rfl rfl rfl ?_))
              go_meet
              exact ⟨_, _, _, by omega, hP6.out⟩
            · obtain ⟨c, rfl⟩ : ∃ c : Nat, cp = c := ⟨cp.toNat, by omega⟩
              have hcn : c < n := by omega
              have hr := r11Add_yes n last u (.slice sq m scap) L c I wc hP.out.cs hI hcn (by omega) (by omega) (hP.out.fit.room c)
              obtain ⟨er, her⟩ : ∃ x : Int, x = if I.length ≤ 64 - cnt3 L c then 0 else 3 := ⟨_, rfl⟩
              rw [← her] at hr
              have hIf : ∀ b, (Value.slice sq m scap).ownBlock = some b → 0 < I.length → b < w.heap.size ∧ ¬ Foot p rb n pp bb b := by
                intro b hb h0
                have hlt := hiOld.out m b hb (by omega)
                exact ⟨hlt, fun hF => by have := hP.out.li.new b hF; omega⟩
              unfold ls3 at hr
              replace hr := Lib.hid hr
              replace her := Lib.hid her
              replace hcc := Lib.hid hcc
              replace hIl := Lib.hid hIl
              replace hI := Lib.hid hI
              replace hIf := Lib.hid hIf
              go_wp2_with (refine loadL hP.out.bm rfl _ rfl rfl ?_)
              refine hr.out.mono ?_
              rintro e W2 ⟨v2, rfl, hc2, hf2, hK2⟩
              obtain ⟨q2, cc2, rfl, _, _, _⟩ := hc2.get
              have hB2 := hB.out.keeps hK2
              have a4 := hB2.cell 1 (by simp)
              simp only [List.getElem_cons_zero, List.getElem_cons_succ] at a4
              replace hc2 := Lib.hid hc2
              replace hf2 := Lib.hid hf2
              replace hK2 := Lib.hid hK2
              replace hB2 := Lib.hid hB2
              clear hr
              go_upto_region 18 with (fail)
              generalize hq2 : Value.slice q2 (add3 L c I).length cc2 = v2 at *
              obtain ⟨C, hC⟩ : ∃ C, C = W2.heap.size := ⟨_, rfl⟩
              rw [← hC]
              refine wp_gen (fun X => Keeps W2 X ∧ Blk X C 41 (lsC n last v2)) ⟨Keeps.alloc _ _, by rw [hC]; exact Blk.new _ _ _⟩ ?_
              rintro X ⟨hKX, hBC⟩
              have hBX := hB2.out.keeps hKX
              have hLX := (hP.out.li.kept hK2.out).kept hKX
              have hcX := hc2.out.keeps hKX
              have hWX := Keeps.trans hK2.out hKX
              have hd := ladd_any hLX.at' c hcn (.slice sq m scap) I (Slc.below hI.out hWX) (fun b hb h0 => (hIf.out b hb h0).2)
              rw [ringsL_add c hcn, ringsL_get n L c hcn, ringL_len, ← her.out] at hd
              have a3 := hBX.cell 1 (by simp)
              simp only [List.getElem_cons_zero, List.getElem_cons_succ] at a3
              replace hd := Lib.hid hd
              replace hLX := Lib.hid hLX
              replace hcX := Lib.hid hcX
              replace hBC := Lib.hid hBC
              replace hWX := Lib.hid hWX
              replace hq2 := Lib.hid hq2
              replace hC := Lib.hid hC
              clear hKX hBX a4
              go_wp2_with fail
              refine hd.out.mono ?_
              rintro e W5 ⟨rfl, ha5, hC5⟩
              have hli5 := hLX.out.chg ha5 hC5
              have hszW := hK2.out.size
              have hBC5 := hBC.out.chg hC5 (fun hF => by have h1 := hC.out; have h2 := hP.out.li.at'.foot_lt C hF; omega)
              have hM5 := ((hP.out.bm.keeps hWX.out).chg hC5 hP.out.nf)
              have hP6 := hP.out.next hWX.out hcX.out (.inl hf2.out) hli5 hC5 (Keeps.refl W5) (hP.out.fit.add c hcn I)
              have hlen3 : (add3 L c I).length ≤ L.length + 20 := by
                have := hIl.out
                unfold add3 addN
                rw [List.length_append, List.length_map, List.length_take]; omega
              have hone := hcX.out.one
              replace hBC5 := Lib.hid hBC5
              replace hM5 := Lib.hid hM5
              replace hP6 := Lib.hid hP6
              replace hone := Lib.hid hone
              clear hli5 ha5 hC5
              go_wp2_with (first | (refine loadL hBC5.out rfl _ rfl rfl ?_) | (refine storeL hM5.out hone.out rfl _ _ rfl rfl rfl rfl ?_))
              go_meet
              exact ⟨_, _, _, by omega, hP6.out⟩
        · -- Close
          as_aux_lemma =>
          by_cases hcg : ge < 1 ∨ ge < last
          · have hr := r11Close_no n last u L ge W hP.out.cs hcg
            unfold ls3 at hr
            obtain ⟨qu, cu, hu, _, _, _⟩ := hP.out.cs.get
            replace hr := Lib.hid hr
            replace hcg := Lib.hid hcg
            replace hu := Lib.hid hu
            go_wp2_with (refine loadL hP.out.bm rfl _ rfl rfl ?_)
            refine hr.out.mono ?_
            rintro e W2 ⟨rfl, hK2⟩
            have hB2 := hB.out.keeps hK2
            have a2 := hB2.cell 2 (by simp)
            simp only [List.getElem_cons_zero, List.getElem_cons_succ] at a2
            replace hK2 := Lib.hid hK2
            replace hB2 := Lib.hid hB2
            clear hr
            rw [hu.out]
            go_upto_region 23 with (fail)
            rw [← hu.out]
            obtain ⟨C, hC⟩ : ∃ C, C = W2.heap.size := ⟨_, rfl⟩
            rw [← hC]
            refine wp_gen (fun X => Keeps W2 X ∧ Blk X C 41 (lsC n last u)) ⟨Keeps.alloc _ _, by rw [hC]; exact Blk.new _ _ _⟩ ?_
            rintro X ⟨hKX, hBC⟩
            have hBX := hB2.out.keeps hKX
            have hWX := Keeps.trans hK2.out hKX
            have hPX := hP.out.kept hWX
            have hd := lclose_no hPX.li.at' ge hcg.out
            have a3 := hBX.cell 2 (by simp)
            simp only [List.getElem_cons_zero, List.getElem_cons_succ] at a3
            replace hd := Lib.hid hd
            replace hBC := Lib.hid hBC
            replace hPX := Lib.hid hPX
            replace hC := Lib.hid hC
            clear hKX hBX a2 hWX
            go_wp2_with fail
            refine hd.out.mono ?_
            rintro e W5 ⟨rfl, hK5⟩
            have hBC5 := hBC.out.keeps hK5
            have hM5 := hPX.out.bm.keeps hK5
            have hone := hPX.out.cs.one
            have hP6 := hPX.out.next hK5 (hPX.out.cs.keeps hK5) (.inr rfl) (hPX.out.li.kept hK5) (Chg.refl _ _) (Keeps.refl W5) hPX.out.fit
            replace hBC5 := Lib.hid hBC5
            replace hM5 := Lib.hid hM5
            replace hP6 := Lib.hid hP6
            replace hone := Lib.hid hone
            clear hK5
            go_wp2_with (first | (refine loadL hBC5.out rfl _ rfl rfl ?_) | (refine storeL hM5.out hone.out rfl _ _ rfl rfl rfl rfl ?_))
            go_meet
            exact ⟨_, _, _, by omega, hP6.out⟩
          have h1 : 1 ≤ ge := by omega
          have h2 : last ≤ ge := by omega
          have hr := r11Close_yes n last u L ge W hP.out.cs h1 h2 (by omega)
          unfold ls3 at hr
          replace hr := Lib.hid hr
          go_wp2_with (refine loadL hP.out.bm rfl _ rfl rfl ?_)
          refine hr.out.mono ?_
          rintro e W2 ⟨v2, rfl, hc2, hf2, hK2⟩
          obtain ⟨q2, cc2, rfl, _, _, _⟩ := hc2.get
          have hB2 := hB.out.keeps hK2
          have a2 := hB2.cell 2 (by simp)
          simp only [List.getElem_cons_zero, List.getElem_cons_succ] at a2
          replace hc2 := Lib.hid hc2
          replace hf2 := Lib.hid hf2
          replace hK2 := Lib.hid hK2
          replace hB2 := Lib.hid hB2
          clear hr
          go_upto_region 23 with (fail)
          generalize hq2 : Value.slice q2 (close3 ge L).length cc2 = v2 at *
          obtain ⟨C, hC⟩ : ∃ C, C = W2.heap.size := ⟨_, rfl⟩
          rw [← hC]
          refine wp_gen (fun X => Keeps W2 X ∧ Blk X C 41 (lsC n ge v2)) ⟨Keeps.alloc _ _, by rw [hC]; exact Blk.new _ _ _⟩ ?_
          rintro X ⟨hKX, hBC⟩
          have hBX := hB2.out.keeps hKX
          have hLX := (hP.out.li.kept hK2.out).kept hKX
          have hcX := hc2.out.keeps hKX
          have hd := lclose_any hLX.at' ge h1 h2
          rw [openC_ringsL hP.out.fit, ringsL_close] at hd
          have a3 := hBX.cell 2 (by simp)
          simp only [List.getElem_cons_zero, List.getElem_cons_succ] at a3
          have hWX := Keeps.trans hK2.out hKX
          generalize open3 L = NO at *
          replace hd := Lib.hid hd
          replace hLX := Lib.hid hLX
          replace hcX := Lib.hid hcX
          replace hBC := Lib.hid hBC
          replace hWX := Lib.hid hWX
          replace hq2 := Lib.hid hq2
          replace hC := Lib.hid hC
          clear hKX hBX a2
          go_wp2_with fail
          refine hd.out.mono ?_
          rintro e W5 ⟨rfl, ha5, hC5⟩
          have hli5 := hLX.out.chg ha5 hC5
          have hszW := hK2.out.size
          have hBC5 := hBC.out.chg hC5 (fun hF => by have h1 := hC.out; have h2 := hP.out.li.at'.foot_lt C hF; omega)
          have hM5 := ((hP.out.bm.keeps hWX.out).chg hC5 hP.out.nf)
          have hP6 := hP.out.next hWX.out hcX.out (.inl hf2.out) hli5 hC5 (Keeps.refl W5) (hP.out.fit.close ge h1 h2)
          have hlen3 : (close3 ge L).length = L.length := by unfold close3; exact List.length_map _
          have hone := hcX.out.one
          replace hBC5 := Lib.hid hBC5
          replace hM5 := Lib.hid hM5
          replace hP6 := Lib.hid hP6
          replace hone := Lib.hid hone
          replace hlen3 := Lib.hid hlen3
          clear hli5 ha5 hC5
          go_wp2_with (first | (refine loadL hBC5.out rfl _ rfl rfl ?_) | (refine storeL hM5.out hone.out rfl _ _ rfl rfl rfl rfl ?_))
          go_meet
          exact ⟨_, _, _, by rw [hlen3.out]; omega, hP6.out⟩
        · -- Done
          as_aux_lemma =>
          have hr := r11Done_any n last u L ge W hP.out.cs (by omega) (by omega)
          unfold ls3 at hr
          replace hr := Lib.hid hr
          go_wp2_with (refine loadL hP.out.bm rfl _ rfl rfl ?_)
          refine hr.out.mono ?_
          rintro e W2 ⟨v2, y, rfl, hc2, hy2, hf2, hfy, hK2⟩
          obtain ⟨q2, cc2, rfl, _, _, _⟩ := hc2.get
          obtain ⟨qy, cy, rfl, _, _, _⟩ := hy2.open
          have hB2 := hB.out.keeps hK2
          have a2 := hB2.cell 2 (by simp)
          simp only [List.getElem_cons_zero, List.getElem_cons_succ] at a2
          replace hc2 := Lib.hid hc2
          replace hy2 := Lib.hid hy2
          replace hf2 := Lib.hid hf2
          replace hfy := Lib.hid hfy
          replace hK2 := Lib.hid hK2
          replace hB2 := Lib.hid hB2
          clear hr
          go_upto_region 12 with (fail)
          generalize hq2 : Value.slice q2 (left3 ge L).length cc2 = v2 at *
          generalize hqy : Value.slice qy (tell3 ge L n).length cy = y at *
          obtain ⟨C, hC⟩ : ∃ C, C = W2.heap.size := ⟨_, rfl⟩
          rw [← hC]
          refine wp_gen (fun X => Keeps W2 X ∧ Blk X C 41 (lsC n last v2)) ⟨Keeps.alloc _ _, by rw [hC]; exact Blk.new _ _ _⟩ ?_
          rintro X ⟨hKX, hBC⟩
          have hBX := hB2.out.keeps hKX
          have hLX := (hP.out.li.kept hK2.out).kept hKX
          have hcX := hc2.out.keeps hKX
          have hyX : Ints X y (tell3 ge L n) := Slc.below hy2.out hKX
          have hd := ldone_any hLX.at' ge
          rw [tell_ringsL hP.out.fit, left_ringsL hP.out.fit] at hd
          have a3 := hBX.cell 2 (by simp)
          simp only [List.getElem_cons_zero, List.getElem_cons_succ] at a3
          have hWX := Keeps.trans hK2.out hKX
          replace hd := Lib.hid hd
          replace hLX := Lib.hid hLX
          replace hcX := Lib.hid hcX
          replace hyX := Lib.hid hyX
          replace hBC := Lib.hid hBC
          replace hWX := Lib.hid hWX
          replace hq2 := Lib.hid hq2
          replace hqy := Lib.hid hqy
          replace hC := Lib.hid hC
          clear hKX hBX a2
          go_wp2_with fail
          refine hd.out.mono ?_
          rintro e W5 ⟨v5, rfl, hr5, ha5, hC5⟩
          have hli5 := hLX.out.chg ha5 hC5
          have hyW5 : Ints W5 y (tell3 ge L n) := Slc.chg hyX.out hC5 (fun b hb hF => by have h1 := hfy.out b hb; have h2 := hP.out.li.at'.foot_lt b hF; omega)
          have hs := same_any (tell3 ge L n) (tell3 ge L n) v5 y W5 (slc_of_row hr5) hyW5
          rw [sameL_self] at hs
          have hszW := hK2.out.size
          have hBC5 := hBC.out.chg hC5 (fun hF => by have h1 := hC.out; have h2 := hP.out.li.at'.foot_lt C hF; omega)
          have hM5 := ((hP.out.bm.keeps hWX.out).chg hC5 hP.out.nf)
          have hnext := fun (W6 : World) (hk6 : Keeps W5 W6) => hP.out.next hWX.out hcX.out (.inl hf2.out) hli5 hC5 hk6 (hP.out.fit.left ge)
          have hlen3 := left3_len ge L
          have hone := hcX.out.one
          replace hs := Lib.hid hs
          replace hBC5 := Lib.hid hBC5
          replace hM5 := Lib.hid hM5
          replace hnext := Lib.hid hnext
          replace hone := Lib.hid hone
          clear hli5 hyW5 hr5 ha5 hC5
          go_wp2_with fail
          refine hs.out.mono ?_
          rintro e W6 ⟨rfl, hK6⟩
          have hBC6 := hBC5.out.keeps hK6
          have hM6 := hM5.out.keeps hK6
          have hP6 := hnext.out W6 hK6
          replace hBC6 := Lib.hid hBC6
          replace hM6 := Lib.hid hM6
          replace hP6 := Lib.hid hP6
          clear hK6
          go_wp2_with (first | (refine loadL hBC6.out rfl _ rfl rfl ?_) | (refine storeL hM6.out hone.out rfl _ _ rfl rfl rfl rfl ?_))
          go_meet
          exact ⟨_, _, _, by omega, hP6.out⟩
      case rest =>
        as_aux_lemma =>
        obtain ⟨last2, L2, u2, hL2, hP2⟩ := hcut
        obtain ⟨W0, hW0⟩ : ∃ W0, W0 = wc := ⟨_, rfl⟩
        rw [← hW0] at hP2 ⊢
        clear hW0 hP hB hids hiOld a0 a1 a2 a3
        have hro := r11Open_any n last2 u2 L2 W0 hP2.cs
        unfold ls3 at hro
        obtain ⟨qu, cu, hu, _, _, _⟩ := hP2.cs.get
        replace hu := Lib.hid hu
        replace hP2 := Lib.hid hP2
        replace hro := Lib.hid hro
        go_wp2_with (refine loadL hP2.out.bm rfl _ rfl rfl ?_)
        refine hro.out.mono ?_
        rintro e W2 ⟨rfl, hK2⟩
        have hPW := hP2.out.kept hK2
        have hop : ∀ x : After W2, Calls Try.prog 18 #[.pointer (some ⟨p, 0, none⟩)] x.now fun e w' => e = .returned (.int .i64 (open3 L2 : Nat)) ∧ ∃ y : After W2, w' = y.now := fun x => After.call x (by
          have := lopen_any (hPW.kept x.keeps).li.all
          rwa [openC_ringsL hPW.fit] at this)
        have hnw : ∀ x : After W2, Calls Try.prog 19 #[.pointer (some ⟨p, 0, none⟩)] x.now fun e w' => e = .returned (.int .i64 (most3 L2)) ∧ ∃ y : After W2, w' = y.now := fun x => After.call x (by
          have := lnewest_any (hPW.kept x.keeps).li.all
          rwa [newC_ringsL hPW.fit] at this)
        have hln : ∀ x : After W2, Calls Try.prog 12 #[.pointer (some ⟨p, 0, none⟩)] x.now fun e w' => e = .returned (.int .i64 (L2.length : Nat)) ∧ ∃ y : After W2, w' = y.now := fun x => After.call x (by
          have := llen_any (hPW.kept x.keeps).li.all
          rwa [len_ringsL hPW.fit] at this)
        have ho1 : ∀ x : After W2, Calls Try.prog 20 #[.pointer (some ⟨p, 0, none⟩), .int .i64 (n : Int)] x.now fun e w' => e = .returned (.slice none 0 0) ∧ ∃ y : After W2, w' = y.now := fun x => After.same x (lof_no (hPW.kept x.keeps).li.at' (n : Int) (.inr (Int.le_refl _)))
        have ho2 : ∀ x : After W2, Calls Try.prog 20 #[.pointer (some ⟨p, 0, none⟩), .int .i64 (-1)] x.now fun e w' => e = .returned (.slice none 0 0) ∧ ∃ y : After W2, w' = y.now := fun x => After.same x (lof_no (hPW.kept x.keeps).li.at' (-1) (.inl (by omega)))
        have cc2 := hPW.bm.cell 2 (by simp [lsC])
        simp only [lsC, List.getElem_cons_zero, List.getElem_cons_succ] at cc2
        rw [hu.out] at cc2
        have cx2 := After.cell cc2
        generalize hNO : open3 L2 = NO at *
        generalize hMO : most3 L2 = MO at *
        replace hNO := Lib.hid hNO
        replace hMO := Lib.hid hMO
        replace hop := Lib.hid hop
        replace hnw := Lib.hid hnw
        replace hln := Lib.hid hln
        replace ho1 := Lib.hid ho1
        replace ho2 := Lib.hid ho2
        replace hPW := Lib.hid hPW
        clear hro hP2 hK2
        go_wp2_with fail
        refine region_after (by kernel_rfl) (by kernel_rfl) ?_
        repeat (go_big_quiet_step (first | (with_reducible exact hop.out _) | (with_reducible exact hnw.out _) | (with_reducible exact hln.out _) | (with_reducible exact ho1.out _) | (with_reducible exact ho2.out _)))
        refine wpQuiet_nil ?_
        rintro _ ⟨⟨W3, hK3⟩, rfl⟩
        have hPW3 := hPW.out.kept hK3
        have hL2I : (0 : Int) ≤ (L2.length : Int) := by omega
        replace hPW3 := Lib.hid hPW3
        clear hPW hK3 hop hnw hln ho1 ho2 cx2 cc2
        go_wp2_with fail
        go_loopw [19] (fun ci wr => ∃ c : Nat, c ≤ n ∧ ci = .int .i64 (c : Int) ∧ PI w p rb cap2 n pp bb M last2 L2 u2 wr) (fun ci _ => n - (intOf ci).toNat)
        case atStart => exact ⟨0, Nat.zero_le _, rfl, hPW3.out⟩
        case round =>
          clear hPW3
          obtain ⟨c, hc, rfl, hP3⟩ := hrel
          obtain ⟨W4, hW4⟩ : ∃ W4 : World, W4 = wr := ⟨_, rfl⟩
          rw [← hW4] at hP3 ⊢
          clear hW4
          by_cases hcn : c < n
          · have hcnI := Int.ofNat_lt.2 hcn
            have hof := lof_any hP3.li.at' c hcn
            rw [ringsL_get n L2 c hcn] at hof
            replace hof := Lib.hid hof
            replace hP3 := Lib.hid hP3
            go_wp2_with fail
            refine hof.out.mono ?_
            rintro e W5 ⟨vx, rfl, hrow, hK5⟩
            obtain ⟨qx, cx, rfl, hx1, hx2⟩ := rowCap hrow
            have hP5 := hP3.out.kept hK5
            have hxI : (0 : Int) ≤ ((ringL L2 c).length : Int) := by omega
            replace hrow := Lib.hid hrow
            replace hP5 := Lib.hid hP5
            clear hof hP3 hK5
            go_wp2_with fail
            go_loopw [21, 22] (fun ai ki wr => ∃ j : Nat, j ≤ L2.length ∧ ki = .int .i64 (j : Int) ∧ ai = .int .i64 (rpos L2 c j : Nat) ∧ Keeps W5 wr) (fun _ ki _ => L2.length - (intOf ki).toNat)
            case atStart => exact ⟨0, Nat.zero_le _, rfl, rfl, Keeps.refl _⟩
            case round =>
              obtain ⟨j, hj, rfl, rfl, hKr⟩ := hrel
              have hPr := hP5.out.kept hKr
              have cc2 := hPr.bm.cell 2 (by simp [lsC])
              simp only [lsC, List.getElem_cons_zero, List.getElem_cons_succ] at cc2
              rw [hu.out] at cc2
              by_cases hjl : j < L2.length
              · have hjlI := Int.ofNat_lt.2 hjl
                have hjI : (0 : Int) ≤ (j : Int) := by omega
                obtain ⟨q', c', hv', _, _, hcell⟩ := hPr.cs.get
                obtain ⟨lb, loff, hq', y0, y1, y2⟩ := hcell j hjl
                rw [hu.out] at hv'
                simp only [Value.slice.injEq] at hv'
                obtain rfl : qu = some ⟨lb, loff, none⟩ := hv'.1.trans hq'
                by_cases hck : L2[j].1 = c
                · obtain ⟨hp1, hp2, hp3⟩ := rpos_yes hjl hck
                  have hxr : RowS 2 W4.heap.size 57 wr (.slice qx (ringL L2 c).length cx) ((ringL L2 c).map xc) := rowKeeps' hrow.out hKr
                  obtain ⟨xb, xoff, rfl, x0, x1⟩ := rowCell hxr (rpos L2 c j) hp2
                  rw [hp3] at x0 x1
                  have hp2I := Int.ofNat_lt.2 hp2
                  have hp0I : (0 : Int) ≤ (rpos L2 c j : Int) := by omega
                  have hcb : (((L2[j].1 : Nat) : Int) == (c : Int)) = true := by rw [hck]; exact beq_self_eq_true _
                  rw [hck] at y0
                  clear hck hcb hcell hv' hq' hxr
                  generalize L2[j] = el at *
                  obtain ⟨e1, e2, e3⟩ := el
                  simp only at y1 y2 x0 x1
                  replace hp1 := Lib.hid hp1
                  replace hp3 := Lib.hid hp3
                  replace hPr := Lib.hid hPr
                  generalize hrp : rpos L2 c j = rp at *
                  replace hrp := Lib.hid hrp
                  go_wp2_with fail
                  go_quiet (fail)
                  rename_i nq
                  clear y0 y1 y2 x0 x1 cc2
                  go_wp2_with fail
                  go_roundw
                  case rel => exact ⟨j + 1, by omega, by go_num, by rw [hp1.out]; go_num, Keeps.trans hKr (Keeps.drewN _ _)⟩
                  case measure => (simp [intOf]; try omega)
                · have hp1 := rpos_no hjl hck
                  have hcb : (((L2[j].1 : Nat) : Int) == (c : Int)) = false := by rw [beq_eq_false_iff_ne]; omega
                  generalize L2[j] = el at *
                  obtain ⟨e1, e2, e3⟩ := el
                  simp only at y0 y1 y2 hcb
                  replace hck := Lib.hid hck
                  replace hp1 := Lib.hid hp1
                  replace hPr := Lib.hid hPr
                  clear hcell hv' hq' y1 y2
                  go_wp2_with fail
                  go_roundw
                  case rel => exact ⟨j + 1, by omega, by go_num, by rw [hp1.out], hKr⟩
                  case measure => (simp [intOf]; try omega)
              · obtain rfl : j = L2.length := by omega
                have hpe := rpos_end L2 c
                rw [hpe]
                have hPr2 := hP5.out.kept hKr
                replace hPr := Lib.hid hPr
                replace hPr2 := Lib.hid hPr2
                go_wp2_with fail
                go_roundw
                case rel => exact ⟨c + 1, by omega, by go_num, hPr2.out⟩
                case measure => (simp [intOf]; try omega)
          · obtain rfl : c = n := by omega
            replace hP3 := Lib.hid hP3
            go_wp2_with fail
            go_roundw
            case rel => exact ⟨k + 1, last2, L2, u2, by omega, by omega, hL2, by go_num, hP3.out⟩
            case measure => (simp [intOf]; try omega)
    · have hend : (k : Int) = (acts.length : Int) ∨ (k : Int) = 50 := by omega
      replace hP := Lib.hid hP
      rcases hend with h1 | h1
      · have hx : ¬ (k : Int) < (acts.length : Int) := by omega
        replace h1 := Lib.hid h1
        go_wp2_with fail
        refine (hkn.out _).mono ?_
        rintro e w2 ⟨rfl, hK2⟩
        replace hK2 := Lib.hid hK2
        go_wp2_with fail
        go_ret
        exact ⟨rfl, Keeps.trans hP.out.li.keeps hK2.out⟩
      · have hx : ¬ (k : Int) < 50 := by omega
        replace h1 := Lib.hid h1
        by_cases hy : (k : Int) < (acts.length : Int)
        all_goals
          go_wp2_with fail
          refine (hkn.out _).mono ?_
          rintro e w2 ⟨rfl, hK2⟩
          replace hK2 := Lib.hid hK2
          go_wp2_with fail
          go_ret
          exact ⟨rfl, Keeps.trans hP.out.li.keeps hK2.out⟩
end Go.Proofs.Ytllnncojafcdoaa
