/- PendPlays: the walk. (printed by gen25e.py) -/
import Derived.Test.YtlihpmfponkmjaaPlay25b
import Derived.Test.YtlihpmfponkmjaaOpen25
import Derived.Test.YtlihpmfponkmjaaSeq
import Derived.Test.YtlihpmfponkmjaaQuietRow
import Derived.Deep.CutBlock
import Derived.Deep.DeepCutAuto
namespace Go.Proofs.Ytlihpmfponkmjaa
open Go.RowKit i64

/-- What the document adds, whatever the CPU. -/
theorem radd_all {Z : Nat → Prop} {w : World} {n : Nat} {vq vr : Value} {Q Rn : List Th} (h : PD Z w vq vr Q Rn) (hZ : ∀ b, Z b → b < w.heap.size) (v : Value) (ids : List Int) (hv : Ints w v ids) (c : Int) (hQ : Q.length ≤ 10000) (hi : ids.length ≤ 10000) :
    Calls Try.prog 16 #[pd n vq vr, .int .i64 c, v] w fun e w' => ∃ uq, e = .returned (.tuple #[pd n uq vr, .int .i64 (addC n Q c ids).2]) ∧ PD Z w' uq vr (addC n Q c ids).1 Rn ∧ Keeps w w' := by
  unfold addC
  by_cases hc : c < 0 ∨ (n : Int) ≤ c
  · rw [if_pos hc]
    refine (radd_no h hZ v c hc).mono ?_
    rintro e w' ⟨he, hp, hk⟩
    exact ⟨vq, he, hp, hk⟩
  · rw [if_neg hc]
    obtain ⟨k, rfl⟩ : ∃ k : Nat, c = k := ⟨c.toNat, by omega⟩
    exact radd_any h hZ v ids hv k (by omega) hQ hi
set_option maxRecDepth 100000 in
set_option maxHeartbeats 4000000 in
theorem lawPlays25_any (n0 : Int) (v : Value) (acts : List Act25) (w : World) (hv : SlcS 4 w v (acts.map aE25)) :
    Calls Try.prog 5 #[.int .i64 n0, v] w fun e w' => e = .returned (.bool true) ∧ Keeps w w' := by
  obtain ⟨n5, hn5, en⟩ := wrap_mod n0 5 (by decide)
  have hkn := fun (W : World) => known25_any W
  obtain ⟨n, hn⟩ : ∃ n : Nat, n = 1 + n5 := ⟨_, rfl⟩
  have hn1 : 1 ≤ n := by omega
  have hn6 : n ≤ 5 := by omega
  have hnI : 1 + (n5 : Int) = (n : Int) := by omega
  have hst := PR.start (n := n) hn1 (by omega) w
  rw [← hnI] at hst
  obtain ⟨q, cap, rfl, hl, hc, _⟩ := SlcS.get hv
  rw [List.length_map] at hl ⊢
  have haI : (0 : Int) ≤ (acts.length : Int) := by omega
  replace hkn := Lib.hid hkn
  replace hst := Lib.hid hst
  replace hv := Lib.hid hv
  replace hn := Lib.hid hn
  replace hnI := Lib.hid hnI
  go_enter Try.func5, Try.ntmps5
  go_wp2_with fail
  refine hst.out.mono ?_
  rintro e w1 ⟨p, rb, cap2, pp, bb, rfl, hL⟩
  obtain ⟨M, hM⟩ : ∃ M, M = w1.heap.size := ⟨_, rfl⟩
  have hP : PM w p rb cap2 n pp bb M (.slice none 0 0) (.slice none 0 0) [] [] (w1.alloc (.cells (pdC n (.slice none 0 0) (.slice none 0 0)).toArray 47)) :=
    ⟨hL.kept (Keeps.alloc _ _), by rw [hM]; exact Blk.new _ _ _, ⟨SlcS.nil _ _, SlcS.nil _ _, fun b hb => by simp [Value.ownBlock] at hb, fun b hb => by simp [Value.ownBlock] at hb⟩, by rw [hM]; exact hL.keeps.size, fun hF => by have := hL.foot_lt M hF; omega⟩
  replace hP := Lib.hid hP
  replace hM := Lib.hid hM
  clear hst
  go_upto_region 6 with (fail)
  rw [hnI.out, ← hM.out]
  refine wp_gen (fun W => PM w p rb cap2 n pp bb M (.slice none 0 0) (.slice none 0 0) [] [] W) hP.out ?_
  clear hP hM hL
  rintro W hP
  replace hP := Lib.hid hP
  go_wp2_with fail
  go_loopw [8] (fun i wr => ∃ (k : Nat) (vq vr : Value) (Q Rn : List Th), k ≤ acts.length ∧ k ≤ 60 ∧ Q.length ≤ 2 * k ∧ Rn.length ≤ k ∧ i = .int .i64 (k : Int) ∧ PM w p rb cap2 n pp bb M vq vr Q Rn wr) (fun i _ => acts.length - (intOf i).toNat)
  case atStart => exact ⟨0, _, _, [], [], by omega, by omega, by simp, by simp, rfl, hP.out⟩
  case round =>
    clear hP
    obtain ⟨k, vq, vr, Q, Rn, hk, hk60, hQl, hRl, rfl, hP⟩ := hrel
    obtain ⟨wo, hwo⟩ : ∃ wo : World, wo = wr := ⟨_, rfl⟩
    rw [← hwo] at hP ⊢
    clear hwo
    by_cases hgo : k < acts.length ∧ k < 60
    · obtain ⟨hlt, h60⟩ := hgo
      have hltI := Int.ofNat_lt.2 hlt
      have h60I : (k : Int) < 60 := by omega
      obtain ⟨q', c', hv', _, _, hcell⟩ := SlcS.get (SlcS.below hv.out hP.pr.keeps)
      obtain ⟨ab, aoff, hq', hcell⟩ := hcell k (by rw [List.length_map]; exact hlt)
      simp only [Value.slice.injEq] at hv'
      obtain rfl : q = some ⟨ab, aoff, none⟩ := hv'.1.trans hq'
      have e0 : (acts.map aE25).getD k [] = aE25 acts[k] := by simp [List.getD, hlt]
      rw [e0] at hcell
      have y0 := hcell 0 (by decide)
      have y1 := hcell 1 (by decide)
      have y2 := hcell 2 (by decide)
      have y3 := hcell 3 (by decide)
      clear hcell hv' hq' e0
      generalize acts[k] = a at *
      obtain ⟨ki, cp, id, cx⟩ := a
      simp only [aE25, List.getD_cons_zero, List.getD_cons_succ, Nat.add_zero] at y0 y1 y2 y3
      obtain ⟨A, hA⟩ : ∃ A, A = wo.heap.size := ⟨_, rfl⟩
      have hB := Blk.new wo 30 [.int .i64 ki, .int .i64 cp, .int .i64 id, .int .i64 cx]
      rw [← hA] at hB
      have hP2 := hP.kept (Keeps.alloc wo (.cells [.int .i64 ki, .int .i64 cp, .int .i64 id, .int .i64 cx].toArray 30))
      have hAF : ¬ Foot p rb n pp bb A := fun hF => by have := hP.pr.foot_lt A hF; omega
      have hAM : A ≠ M := by have := hP.bm.lt; omega
      replace hA := Lib.hid hA
      replace hB := Lib.hid hB
      replace hP2 := Lib.hid hP2
      replace hAF := Lib.hid hAF
      replace hAM := Lib.hid hAM
      clear hP
      obtain ⟨kd, hkd, ek⟩ := wrap_mod ki 5 (by decide)
      go_upto_region 10 with (fail)
      rw [← hA.out]
      refine wp_gen (fun W => PM w p rb cap2 n pp bb M vq vr Q Rn W ∧ Blk W A 30 [.int .i64 ki, .int .i64 cp, .int .i64 id, .int .i64 cx]) ⟨hP2.out, hB.out⟩ ?_
      clear hP2 hB hA y0 y1 y2 y3
      rintro W ⟨hP, hB⟩
      have a0 := hB.cell 0 (by simp)
      have a1 := hB.cell 1 (by simp)
      have a2 := hB.cell 2 (by simp)
      have a3 := hB.cell 3 (by simp)
      simp only [List.getElem_cons_zero, List.getElem_cons_succ] at a0 a1 a2 a3
      replace hP := Lib.hid hP
      replace hB := Lib.hid hB
      go_upto_block 2 with fail
      go_cut [] (fun wx => ∃ (uq ur : Value) (Q2 R2 : List Th), (Q2.length ≤ 2 * (k + 1) ∧ R2.length ≤ k + 1) ∧ PM w p rb cap2 n pp bb M uq ur Q2 R2 wx ∧ Blk wx A 30 [.int .i64 ki, .int .i64 cp, .int .i64 id, .int .i64 cx])
      case first =>
        have hkd5 : (kd = 0 ∨ kd = 1) ∨ kd = 2 ∨ kd = 3 ∨ kd = 4 := by omega
        rcases hkd5 with hkd01 | rfl | rfl | rfl
        · -- Add
          as_aux_lemma =>
          have hr := radd_all (n := n) (hP.out.pd.kept (Keeps.alloc W (.cells #[.int .i64 id, .int .i64 cx] 3))) (fun b hb => by have h1 := hP.out.hZ b hb; have h2 := (Keeps.alloc W (.cells #[.int .i64 id, .int .i64 cx] 3)).size; omega) (.slice (some ⟨W.heap.size, 0, none⟩) 2 2) [id, cx] (ints_new W 3 [id, cx] (by simp [maxLen])) cp (by omega) (by simp)
          have hl2 := addC_len n Q cp [id, cx]
          generalize hz : addC n Q cp [id, cx] = z at *
          replace hl2 := Lib.hid hl2
          replace hz := Lib.hid hz
          unfold pd at hr
          replace hr := Lib.hid hr
          rcases hkd01 with rfl | rfl
          all_goals
            go_wp2_with (refine loadP25 hP.out.bm rfl _ rfl rfl ?_)
            refine hr.out.mono ?_
            rintro e W2 ⟨uq, rfl, hp2, hK2⟩
            obtain ⟨q2, c2, hq2, _, _, _⟩ := hp2.q.get
            obtain ⟨r2, d2, hr2, _, _, _⟩ := hp2.r.get
            have hKW := Keeps.trans (Keeps.alloc W (.cells #[.int .i64 id, .int .i64 cx] 3)) hK2
            have hB2 := hB.out.keeps hKW
            have b1 := hB2.cell 1 (by simp)
            have b2 := hB2.cell 2 (by simp)
            have b3 := hB2.cell 3 (by simp)
            simp only [List.getElem_cons_zero, List.getElem_cons_succ] at b1 b2 b3
            replace hp2 := Lib.hid hp2
            replace hq2 := Lib.hid hq2
            replace hr2 := Lib.hid hr2
            replace hKW := Lib.hid hKW
            replace hB2 := Lib.hid hB2
            clear hr hK2
            rw [hq2.out, hr2.out]
            go_upto_region 19 with (fail)
            rw [← hq2.out, ← hr2.out]
            obtain ⟨C, hC⟩ : ∃ C, C = W2.heap.size := ⟨_, rfl⟩
            rw [← hC]
            refine wp_gen (fun X => Keeps W2 X ∧ Blk X C 47 (pdC n uq vr)) ⟨Keeps.alloc _ _, by rw [hC]; exact Blk.new _ _ _⟩ ?_
            rintro X ⟨hKX, hBC⟩
            have hBX := hB2.out.keeps hKX
            have hWX := Keeps.trans hKW.out hKX
            have hCF : ¬ Foot p rb n pp bb C := fun hF => by have h1 := hP.out.pr.foot_lt C hF; have h2 := hKW.out.size; omega
            have hd := (hP.out.pr.kept hWX).add cp id cx X.heap.size rfl
            rw [hz.out] at hd
            have x1 := hBX.cell 1 (by simp)
            have x2 := hBX.cell 2 (by simp)
            have x3 := hBX.cell 3 (by simp)
            simp only [List.getElem_cons_zero, List.getElem_cons_succ] at x1 x2 x3
            replace hd := Lib.hid hd
            replace hBC := Lib.hid hBC
            replace hBX := Lib.hid hBX
            replace hWX := Lib.hid hWX
            replace hC := Lib.hid hC
            replace hCF := Lib.hid hCF
            clear b1 b2 b3
            go_wp2_with fail
            refine hd.out.mono ?_
            rintro e W5 ⟨rfl, hR5, hC5⟩
            have hkA := Keeps.alloc X (.cells #[.int .i64 id, .int .i64 cx] 3)
            have hBC5 := (hBC.out.keeps hkA).chg hC5 hCF.out
            have hB5 := (hBX.out.keeps hkA).chg hC5 hAF.out
            have hM5 := ((hP.out.bm.keeps hWX.out).keeps hkA).chg hC5 hP.out.nf
            have hP6 := hP.out.next hKW.out hp2.out (Keeps.trans hKX hkA) hR5 hC5
            have hB6 := hB5.otherRow hAM.out (pdC n uq vr).toArray
            have h1 := hp2.out.q.one
            have h2 := hp2.out.r.one
            replace hBC5 := Lib.hid hBC5
            replace hM5 := Lib.hid hM5
            replace hP6 := Lib.hid hP6
            replace hB6 := Lib.hid hB6
            replace h1 := Lib.hid h1
            replace h2 := Lib.hid h2
            clear hR5 hC5 hB5 hKX
            go_wp2_with (first | (refine loadP25 hBC5.out rfl _ rfl rfl ?_) | (refine storeP25 hM5.out h1.out h2.out rfl _ _ rfl rfl rfl rfl ?_))
            go_meet
            exact ⟨_, _, _, _, ⟨by have := hl2.out; simp only [List.length_cons, List.length_nil] at this; omega, by omega⟩, hP6.out, hB6.out⟩
        · -- Del
          as_aux_lemma =>
          have hr := rdel_any (n := n) hP.out.pd hP.out.hZ (by omega) id
          have hl2 : (Q.eraseP (·.1 == id)).length ≤ Q.length := List.length_eraseP_le
          generalize hz : Q.eraseP (·.1 == id) = z at *
          generalize hb : lkIB Q id = lb at *
          replace hl2 := Lib.hid hl2
          replace hz := Lib.hid hz
          replace hb := Lib.hid hb
          unfold pd at hr
          replace hr := Lib.hid hr
          go_wp2_with (refine loadP25 hP.out.bm rfl _ rfl rfl ?_)
          refine hr.out.mono ?_
          rintro e W2 ⟨uq, rfl, hp2, hK2⟩
          obtain ⟨q2, c2, hq2, _, _, _⟩ := hp2.q.get
          obtain ⟨r2, d2, hr2, _, _, _⟩ := hp2.r.get
          have hKW := hK2
          have hB2 := hB.out.keeps hKW
          have b2 := hB2.cell 2 (by simp)
          simp only [List.getElem_cons_zero, List.getElem_cons_succ] at b2
          replace hp2 := Lib.hid hp2
          replace hq2 := Lib.hid hq2
          replace hr2 := Lib.hid hr2
          replace hKW := Lib.hid hKW
          replace hB2 := Lib.hid hB2
          clear hr hK2
          rw [hq2.out, hr2.out]
          go_upto_region 24 with (fail)
          rw [← hq2.out, ← hr2.out]
          obtain ⟨C, hC⟩ : ∃ C, C = W2.heap.size := ⟨_, rfl⟩
          rw [← hC]
          refine wp_gen (fun X => Keeps W2 X ∧ Blk X C 47 (pdC n uq vr)) ⟨Keeps.alloc _ _, by rw [hC]; exact Blk.new _ _ _⟩ ?_
          rintro X ⟨hKX, hBC⟩
          have hBX := hB2.out.keeps hKX
          have hWX := Keeps.trans hKW.out hKX
          have hCF : ¬ Foot p rb n pp bb C := fun hF => by have h1 := hP.out.pr.foot_lt C hF; have h2 := hKW.out.size; omega
          have hd := (hP.out.pr.kept hWX).del id X.heap.size rfl
          rw [hz.out, hb.out] at hd
          have x2 := hBX.cell 2 (by simp)
          simp only [List.getElem_cons_zero, List.getElem_cons_succ] at x2
          replace hd := Lib.hid hd
          replace hBC := Lib.hid hBC
          replace hBX := Lib.hid hBX
          replace hWX := Lib.hid hWX
          replace hC := Lib.hid hC
          replace hCF := Lib.hid hCF
          clear b2
          cases lb
          all_goals
            go_wp2_with fail
            refine hd.out.mono ?_
            rintro e W5 ⟨rfl, hR5, hC5⟩
            have hkA := Keeps.alloc X (.cells #[.int .i64 id, .int .i64 id] 3)
            have hBC5 := (hBC.out.keeps hkA).chg hC5 hCF.out
            have hB5 := (hBX.out.keeps hkA).chg hC5 hAF.out
            have hM5 := ((hP.out.bm.keeps hWX.out).keeps hkA).chg hC5 hP.out.nf
            have hP6 := hP.out.next hKW.out hp2.out (Keeps.trans hKX hkA) hR5 hC5
            have hB6 := hB5.otherRow hAM.out (pdC n uq vr).toArray
            have h1 := hp2.out.q.one
            have h2 := hp2.out.r.one
            replace hBC5 := Lib.hid hBC5
            replace hM5 := Lib.hid hM5
            replace hP6 := Lib.hid hP6
            replace hB6 := Lib.hid hB6
            replace h1 := Lib.hid h1
            replace h2 := Lib.hid h2
            clear hR5 hC5 hB5 hKX
            go_wp2_with (first | (refine loadP25 hBC5.out rfl _ rfl rfl ?_) | (refine storeP25 hM5.out h1.out h2.out rfl _ _ rfl rfl rfl rfl ?_))
            go_meet
            exact ⟨_, _, _, _, ⟨by have := hl2.out; omega, by omega⟩, hP6.out, hB6.out⟩
        · -- Begin
          as_aux_lemma =>
          have hr := rbegin_any (n := n) hP.out.pd hP.out.hZ (by omega) (by omega) cp cx
          have hl2 := begM_len (n := n) (Q := Q) (Rn := Rn) cp cx
          generalize hz : begM n Q Rn cp cx = z at *
          replace hl2 := Lib.hid hl2
          replace hz := Lib.hid hz
          unfold pd at hr
          replace hr := Lib.hid hr
          go_wp2_with (refine loadP25 hP.out.bm rfl _ rfl rfl ?_)
          refine hr.out.mono ?_
          rintro e W2 ⟨uq, ur, rfl, hp2, hK2⟩
          obtain ⟨q2, c2, hq2, _, _, _⟩ := hp2.q.get
          obtain ⟨r2, d2, hr2, _, _, _⟩ := hp2.r.get
          have hKW := hK2
          have hB2 := hB.out.keeps hKW
          have b1 := hB2.cell 1 (by simp)
          have b3 := hB2.cell 3 (by simp)
          simp only [List.getElem_cons_zero, List.getElem_cons_succ] at b1 b3
          replace hp2 := Lib.hid hp2
          replace hq2 := Lib.hid hq2
          replace hr2 := Lib.hid hr2
          replace hKW := Lib.hid hKW
          replace hB2 := Lib.hid hB2
          clear hr hK2
          rw [hq2.out, hr2.out]
          go_upto_region 30 with (fail)
          rw [← hq2.out, ← hr2.out]
          obtain ⟨C, hC⟩ : ∃ C, C = W2.heap.size := ⟨_, rfl⟩
          rw [← hC]
          refine wp_gen (fun X => Keeps W2 X ∧ Blk X C 47 (pdC n uq ur)) ⟨Keeps.alloc _ _, by rw [hC]; exact Blk.new _ _ _⟩ ?_
          rintro X ⟨hKX, hBC⟩
          have hBX := hB2.out.keeps hKX
          have hWX := Keeps.trans hKW.out hKX
          have hCF : ¬ Foot p rb n pp bb C := fun hF => by have h1 := hP.out.pr.foot_lt C hF; have h2 := hKW.out.size; omega
          have hd := (hP.out.pr.kept hWX).begin cp cx
          rw [hz.out] at hd
          have x1 := hBX.cell 1 (by simp)
          have x3 := hBX.cell 3 (by simp)
          simp only [List.getElem_cons_zero, List.getElem_cons_succ] at x1 x3
          replace hd := Lib.hid hd
          replace hBC := Lib.hid hBC
          replace hBX := Lib.hid hBX
          replace hWX := Lib.hid hWX
          replace hC := Lib.hid hC
          replace hCF := Lib.hid hCF
          clear b1 b3
          go_wp2_with fail
          refine hd.out.mono ?_
          rintro e W5 ⟨rfl, hR5, hC5⟩
          have hBC5 := (hBC.out).chg hC5 hCF.out
          have hB5 := (hBX.out).chg hC5 hAF.out
          have hM5 := ((hP.out.bm.keeps hWX.out)).chg hC5 hP.out.nf
          have hP6 := hP.out.next hKW.out hp2.out hKX hR5 hC5
          have hB6 := hB5.otherRow hAM.out (pdC n uq ur).toArray
          have h1 := hp2.out.q.one
          have h2 := hp2.out.r.one
          replace hBC5 := Lib.hid hBC5
          replace hM5 := Lib.hid hM5
          replace hP6 := Lib.hid hP6
          replace hB6 := Lib.hid hB6
          replace h1 := Lib.hid h1
          replace h2 := Lib.hid h2
          clear hR5 hC5 hB5 hKX
          go_wp2_with (first | (refine loadP25 hBC5.out rfl _ rfl rfl ?_) | (refine storeP25 hM5.out h1.out h2.out rfl _ _ rfl rfl rfl rfl ?_))
          go_meet
          exact ⟨_, _, _, _, ⟨by have := hl2.out; omega, by have := hl2.out; omega⟩, hP6.out, hB6.out⟩
        · -- End
          as_aux_lemma =>
          have hr := rend_any (n := n) hP.out.pd hP.out.hZ (by omega) cx
          have hl2 := endM_len (Rn := Rn) cx
          generalize hz : endM Rn cx = z at *
          replace hl2 := Lib.hid hl2
          replace hz := Lib.hid hz
          unfold pd at hr
          replace hr := Lib.hid hr
          go_wp2_with (refine loadP25 hP.out.bm rfl _ rfl rfl ?_)
          refine hr.out.mono ?_
          rintro e W2 ⟨ur, rfl, hp2, hK2⟩
          obtain ⟨q2, c2, hq2, _, _, _⟩ := hp2.q.get
          obtain ⟨r2, d2, hr2, _, _, _⟩ := hp2.r.get
          have hKW := hK2
          have hB2 := hB.out.keeps hKW
          have b3 := hB2.cell 3 (by simp)
          simp only [List.getElem_cons_zero, List.getElem_cons_succ] at b3
          replace hp2 := Lib.hid hp2
          replace hq2 := Lib.hid hq2
          replace hr2 := Lib.hid hr2
          replace hKW := Lib.hid hKW
          replace hB2 := Lib.hid hB2
          clear hr hK2
          rw [hq2.out, hr2.out]
          go_upto_region 12 with (fail)
          rw [← hq2.out, ← hr2.out]
          obtain ⟨C, hC⟩ : ∃ C, C = W2.heap.size := ⟨_, rfl⟩
          rw [← hC]
          refine wp_gen (fun X => Keeps W2 X ∧ Blk X C 47 (pdC n vq ur)) ⟨Keeps.alloc _ _, by rw [hC]; exact Blk.new _ _ _⟩ ?_
          rintro X ⟨hKX, hBC⟩
          have hBX := hB2.out.keeps hKX
          have hWX := Keeps.trans hKW.out hKX
          have hCF : ¬ Foot p rb n pp bb C := fun hF => by have h1 := hP.out.pr.foot_lt C hF; have h2 := hKW.out.size; omega
          have hd := (hP.out.pr.kept hWX).end' cx
          rw [hz.out] at hd
          have x3 := hBX.cell 3 (by simp)
          simp only [List.getElem_cons_zero, List.getElem_cons_succ] at x3
          replace hd := Lib.hid hd
          replace hBC := Lib.hid hBC
          replace hBX := Lib.hid hBX
          replace hWX := Lib.hid hWX
          replace hC := Lib.hid hC
          replace hCF := Lib.hid hCF
          clear b3
          go_wp2_with fail
          refine hd.out.mono ?_
          rintro e W5 ⟨rfl, hR5, hC5⟩
          have hBC5 := (hBC.out).chg hC5 hCF.out
          have hB5 := (hBX.out).chg hC5 hAF.out
          have hM5 := ((hP.out.bm.keeps hWX.out)).chg hC5 hP.out.nf
          have hP6 := hP.out.next hKW.out hp2.out hKX hR5 hC5
          have hB6 := hB5.otherRow hAM.out (pdC n vq ur).toArray
          have h1 := hp2.out.q.one
          have h2 := hp2.out.r.one
          replace hBC5 := Lib.hid hBC5
          replace hM5 := Lib.hid hM5
          replace hP6 := Lib.hid hP6
          replace hB6 := Lib.hid hB6
          replace h1 := Lib.hid h1
          replace h2 := Lib.hid h2
          clear hR5 hC5 hB5 hKX
          go_wp2_with (first | (refine loadP25 hBC5.out rfl _ rfl rfl ?_) | (refine storeP25 hM5.out h1.out h2.out rfl _ _ rfl rfl rfl rfl ?_))
          go_meet
          exact ⟨_, _, _, _, ⟨by omega, by have := hl2.out; omega⟩, hP6.out, hB6.out⟩
      case rest =>
        as_aux_lemma =>
        obtain ⟨uq, ur, Q2, R2, ⟨hQ2, hR2⟩, hP2, hB2⟩ := hcut
        obtain ⟨W0, hW0⟩ : ∃ W0, W0 = wc := ⟨_, rfl⟩
        rw [← hW0] at hP2 hB2 ⊢
        clear hW0 hP hB a0 a1 a2 a3
        have hq := fun (X : World) (hk : Keeps W0 X) => (hP2.kept hk).pd.q
        have hrr := fun (X : World) (hk : Keeps W0 X) => (hP2.kept hk).pd.r
        have f0 := fun (X : World) (hk : Keeps W0 X) => (hP2.kept hk).pr.where' id
        have f1 := fun (X : World) (hk : Keeps W0 X) => rwhere_any (n := n) (vr := ur) (hq X hk) id
        have f2 := fun (X : World) (hk : Keeps W0 X) => (hP2.kept hk).pr.runs id
        have f3 := fun (X : World) (hk : Keeps W0 X) => rin_any (n := n) (vq := uq) (hrr X hk) id
        have f4 := fun (X : World) (hk : Keeps W0 X) => (hP2.kept hk).pr.of cx
        have f5 := fun (X : World) (hk : Keeps W0 X) => rof_any (n := n) (vq := uq) (hrr X hk) cx
        have f6 := fun (X : World) (hk : Keeps W0 X) => (hP2.kept hk).pr.ready cp
        have f7 := fun (X : World) (hk : Keeps W0 X) => rready_any (n := n) (hq X hk) (hrr X hk) (by omega) cp
        unfold pd at f1 f3 f5 f7
        generalize lkI Q2 id = v0 at *
        generalize lkIB Q2 id = b0 at *
        generalize lkI R2 id = v1 at *
        generalize lkIB R2 id = b1 at *
        generalize lkO R2 cx = v2 at *
        generalize lkOB R2 cx = b2 at *
        generalize rdI Q2 cp = v3 at *
        generalize rdB Q2 R2 cp = b3 at *
        clear hq hrr
        replace f0 := Lib.hid f0
        replace f1 := Lib.hid f1
        replace f2 := Lib.hid f2
        replace f3 := Lib.hid f3
        replace f4 := Lib.hid f4
        replace f5 := Lib.hid f5
        replace f6 := Lib.hid f6
        replace f7 := Lib.hid f7
        have k0 : Keeps W0 W0 := Keeps.refl _
        replace k0 := Lib.hid k0
        replace hP2 := Lib.hid hP2
        replace hB2 := Lib.hid hB2
        have z0 := (hB2.out.keeps k0.out).cell 2 (by simp)
        simp only [List.getElem_cons_zero, List.getElem_cons_succ] at z0
        go_wp2_with fail
        refine (f0.out W0 k0.out).mono ?_
        rintro e W1 ⟨rfl, hh⟩
        have k1 := Keeps.trans k0.out hh
        clear hh
        replace k1 := Lib.hid k1
        clear z0 f0
        have z1 := (hB2.out.keeps k1.out).cell 2 (by simp)
        simp only [List.getElem_cons_zero, List.getElem_cons_succ] at z1
        have m1 := hP2.out.bm.keeps k1.out
        replace m1 := Lib.hid m1
        go_wp2_with (refine loadP25 m1.out rfl _ rfl rfl ?_)
        refine (f1.out W1 k1.out).mono ?_
        rintro e W2 ⟨rfl, hh⟩
        have k2 := Keeps.trans k1.out hh
        clear hh
        replace k2 := Lib.hid k2
        clear z1 f1 m1
        have z2 := (hB2.out.keeps k2.out).cell 2 (by simp)
        simp only [List.getElem_cons_zero, List.getElem_cons_succ] at z2
        go_wp2_with fail
        refine (f2.out W2 k2.out).mono ?_
        rintro e W3 ⟨rfl, hh⟩
        have k3 : Keeps W0 W3 := hh ▸ k2.out
        clear hh
        replace k3 := Lib.hid k3
        clear z2 f2
        have z3 := (hB2.out.keeps k3.out).cell 2 (by simp)
        simp only [List.getElem_cons_zero, List.getElem_cons_succ] at z3
        have m3 := hP2.out.bm.keeps k3.out
        replace m3 := Lib.hid m3
        go_wp2_with (refine loadP25 m3.out rfl _ rfl rfl ?_)
        refine (f3.out W3 k3.out).mono ?_
        rintro e W4 ⟨rfl, hh⟩
        have k4 := Keeps.trans k3.out hh
        clear hh
        replace k4 := Lib.hid k4
        clear z3 f3 m3
        have z4 := (hB2.out.keeps k4.out).cell 3 (by simp)
        simp only [List.getElem_cons_zero, List.getElem_cons_succ] at z4
        go_wp2_with fail
        refine (f4.out W4 k4.out).mono ?_
        rintro e W5 ⟨rfl, hh⟩
        have k5 : Keeps W0 W5 := hh ▸ k4.out
        clear hh
        replace k5 := Lib.hid k5
        clear z4 f4
        have z5 := (hB2.out.keeps k5.out).cell 3 (by simp)
        simp only [List.getElem_cons_zero, List.getElem_cons_succ] at z5
        have m5 := hP2.out.bm.keeps k5.out
        replace m5 := Lib.hid m5
        go_wp2_with (refine loadP25 m5.out rfl _ rfl rfl ?_)
        refine (f5.out W5 k5.out).mono ?_
        rintro e W6 ⟨rfl, hh⟩
        have k6 := Keeps.trans k5.out hh
        clear hh
        replace k6 := Lib.hid k6
        clear z5 f5 m5
        have z6 := (hB2.out.keeps k6.out).cell 1 (by simp)
        simp only [List.getElem_cons_zero, List.getElem_cons_succ] at z6
        go_wp2_with fail
        refine (f6.out W6 k6.out).mono ?_
        rintro e W7 ⟨rfl, hh⟩
        have k7 := Keeps.trans k6.out hh
        clear hh
        replace k7 := Lib.hid k7
        clear z6 f6
        have z7 := (hB2.out.keeps k7.out).cell 1 (by simp)
        simp only [List.getElem_cons_zero, List.getElem_cons_succ] at z7
        have m7 := hP2.out.bm.keeps k7.out
        replace m7 := Lib.hid m7
        go_wp2_with (refine loadP25 m7.out rfl _ rfl rfl ?_)
        refine (f7.out W7 k7.out).mono ?_
        rintro e W8 ⟨rfl, hh⟩
        have k8 := Keeps.trans k7.out hh
        clear hh
        replace k8 := Lib.hid k8
        clear z7 f7 m7
        have hP8 := hP2.out.kept k8.out
        clear k0 k1 k2 k3 k4 k5 k6 k7 k8 hB2 hP2
        have hln : ∀ x : After W8, Calls Try.prog 13 #[.pointer (some ⟨p, 0, none⟩)] x.now fun e w' => e = .returned (.int .i64 (Q2.length : Nat)) ∧ ∃ y : After W8, w' = y.now := fun x => After.same x (hP8.kept x.keeps).pr.len
        obtain ⟨q2, c2, hq2, _, _, _⟩ := hP8.pd.q.get
        have cc1 := hP8.bm.cell 1 (by simp [pdC])
        simp only [pdC, List.getElem_cons_zero, List.getElem_cons_succ] at cc1
        rw [hq2] at cc1
        have cx1 := After.cell cc1
        replace hln := Lib.hid hln
        replace hP8 := Lib.hid hP8
        replace hq2 := Lib.hid hq2
        go_wp2_with fail
        refine region_after (by kernel_rfl) (by kernel_rfl) ?_
        repeat (go_big_quiet_step (first | (with_reducible exact hln.out _)))
        refine wpQuiet_nil ?_
        rintro _ ⟨⟨W9, hK9⟩, rfl⟩
        have hP9 := hP8.out.kept hK9
        replace hP9 := Lib.hid hP9
        clear hP8 hK9 hln cx1 cc1 hq2
        go_wp2_with fail
        go_loopw [41] (fun ci wr => ∃ c : Nat, c ≤ n ∧ ci = .int .i64 (c : Int) ∧ PM w p rb cap2 n pp bb M uq ur Q2 R2 wr) (fun ci _ => n - (intOf ci).toNat)
        case atStart => exact ⟨0, Nat.zero_le _, rfl, hP9.out⟩
        case round =>
          clear hP9
          obtain ⟨c, hc, rfl, hP3⟩ := hrel
          obtain ⟨W4, hW4⟩ : ∃ W4 : World, W4 = wr := ⟨_, rfl⟩
          rw [← hW4] at hP3 ⊢
          clear hW4
          by_cases hcn : c < n
          · have hcnI := Int.ofNat_lt.2 hcn
            have hqu := fun (X : World) (hk : Keeps W4 X) => (hP3.kept hk).pr.queue (c : Int)
            have hqm := fun (X : World) (hk : Keeps W4 X) => rqueue_any (n := n) (vr := ur) (hP3.kept hk).pd.q (c : Int) (by omega)
            have hrow : ∀ w', (∃ x : After W4, w' = x.now) → Blk w' M 47 (pdC n uq ur) := by rintro _ ⟨x, rfl⟩; exact hP3.bm.keeps x.keeps
            unfold pd at hqm
            generalize quL Q2 (c : Int) = L at *
            replace hqu := Lib.hid hqu
            replace hqm := Lib.hid hqm
            replace hrow := Lib.hid hrow
            replace hP3 := Lib.hid hP3
            go_wp2_with fail
            refine region_seqA [2, 5, 6] (by kernel_rfl) (by kernel_rfl) ?_
            rintro ⟨X, hkX⟩
            refine wpSeq_reads 2 (by rfl) ?_
            simp only [List.take_succ_cons, List.take_zero, List.drop_succ_cons, List.drop_zero]
            iterate 2 go_big_quiet_step (fail)
            refine wpQuiet_nil ?_
            refine wpSeq_call (by rfl) ?_
            go_wp2_with fail
            refine (hqu.out X hkX).mono ?_
            rintro e X1 ⟨v1, rfl, hv1, hk1⟩
            have hv1 : Ints X1 v1 L := slc_of_row hv1
            have hkX1 := Keeps.trans hkX hk1
            replace hkX1 := Lib.hid hkX1
            replace hv1 := Lib.hid hv1
            clear hk1
            go_wp2_with fail
            refine seq_on hkX1.out ?_
            refine wpSeq_reads 2 (by rfl) ?_
            simp only [List.take_succ_cons, List.take_zero, List.drop_succ_cons, List.drop_zero]
            refine quietRow hrow.out rfl 47 _ rfl rfl _ Try.underlying47 rfl 3 sizeP25 rfl ?_
            go_frame
            iterate 1 go_big_quiet_step (fail)
            refine wpQuiet_nil ?_
            refine wpSeq_call (by rfl) ?_
            go_wp2_with fail
            refine (hqm.out X1 hkX1.out).mono ?_
            rintro e X2 ⟨v2, rfl, hv2, hk2⟩
            have hv2 : Ints X2 v2 L := slc_of_row hv2
            have hs := same_any L L v1 v2 X2 (Slc.below hv1.out hk2) hv2
            rw [sameL_self] at hs
            have hkX2 := Keeps.trans hkX1.out hk2
            replace hkX2 := Lib.hid hkX2
            replace hs := Lib.hid hs
            clear hk2 hv1 hv2 hkX1
            go_wp2_with fail
            refine seq_on hkX2.out ?_
            refine wpSeq_call (by rfl) ?_
            go_wp2_with fail
            refine hs.out.mono ?_
            rintro e X3 ⟨rfl, hk3⟩
            have hkX3 := Keeps.trans hkX2.out hk3
            have hP4 := hP3.out.kept hkX3
            replace hkX3 := Lib.hid hkX3
            replace hP4 := Lib.hid hP4
            clear hk3 hkX2 hs
            go_wp2_with fail
            refine seq_on hkX3.out ?_
            refine wpSeq_reads 1 (by rfl) ?_
            simp only [List.take_succ_cons, List.take_zero, List.drop_succ_cons, List.drop_zero]
            iterate 1 go_big_quiet_step (fail)
            refine wpQuiet_nil ?_
            refine wpSeq_nil ?_
            go_wp2_with fail
            go_roundw
            case rel => exact ⟨c + 1, by omega, by go_num, hP4.out⟩
            case measure => (simp [intOf]; try omega)
          · obtain rfl : c = n := by omega
            have h1 := hP3.pr.queue (c : Int)
            rw [hP3.pr.queue_out (c : Int) (.inr (Int.le_refl _))] at h1
            have h2 := fun (X : World) (hk : Keeps W4 X) => (hP3.kept hk).pr.queue (-1)
            rw [hP3.pr.queue_out (-1) (.inl (by omega))] at h2
            simp only [List.length_nil] at h1 h2
            replace hP3 := Lib.hid hP3
            replace h1 := Lib.hid h1
            replace h2 := Lib.hid h2
            go_wp2_with fail
            refine h1.out.mono ?_
            rintro e X1 ⟨v1, rfl, hv1, hk1⟩
            obtain ⟨p1, cap1, rfl, _, _, _⟩ := (show Ints X1 v1 [] from slc_of_row hv1).open
            simp only [List.length_nil]
            replace hk1 := Lib.hid hk1
            clear hv1
            go_wp2_with fail
            refine (h2.out X1 hk1.out).mono ?_
            rintro e X2 ⟨v2, rfl, hv2, hk2⟩
            obtain ⟨p2, cap3, rfl, _, _, _⟩ := (show Ints X2 v2 [] from slc_of_row hv2).open
            simp only [List.length_nil]
            have hP4 := hP3.out.kept (Keeps.trans hk1.out hk2)
            replace hP4 := Lib.hid hP4
            clear hv2 hk2
            go_wp2_with fail
            go_roundw
            case rel => exact ⟨k + 1, _, _, Q2, R2, by omega, by omega, hQ2, hR2, by go_num, hP4.out⟩
            case measure => (simp [intOf]; try omega)
    · have hend : (k : Int) = (acts.length : Int) ∨ (k : Int) = 60 := by omega
      replace hP := Lib.hid hP
      rcases hend with h1 | h1
      · have hx : ¬ (k : Int) < (acts.length : Int) := by omega
        replace h1 := Lib.hid h1
        go_wp2_with fail
        refine (hkn.out _).mono ?_
        rintro e w2 ⟨rfl, hK2⟩
        replace hK2 := Lib.hid hK2
        go_wp2_with fail
        go_ret
        exact ⟨rfl, Keeps.trans hP.out.pr.keeps hK2.out⟩
      · have hx : ¬ (k : Int) < 60 := by omega
        replace h1 := Lib.hid h1
        by_cases hy : (k : Int) < (acts.length : Int)
        all_goals
          go_wp2_with fail
          refine (hkn.out _).mono ?_
          rintro e w2 ⟨rfl, hK2⟩
          replace hK2 := Lib.hid hK2
          go_wp2_with fail
          go_ret
          exact ⟨rfl, Keeps.trans hP.out.pr.keeps hK2.out⟩
end Go.Proofs.Ytlihpmfponkmjaa
