/- The document's pend: Begin, End. -/
import Derived.Test.YtcggbfpangnllaaRef25b
import Derived.Deep.RegionWith
namespace Go.Proofs.Ytcggbfpangnllaa
open Go.RowKit

theorem find2_mem {R : List Th} {c : Int} (h : lkOB R c = true) : ∃ x ∈ R, x.1 = lkO R c ∧ x.2 = c := by
  unfold lkOB at h
  obtain ⟨x, hx⟩ := Option.isSome_iff_exists.1 h
  refine ⟨x, List.mem_of_find?_eq_some hx, by unfold lkO; rw [hx]; rfl, ?_⟩
  have := List.find?_some hx
  simpa using this
theorem fnd_mem {R : List Th} {id : Int} (h : ∃ x ∈ R, x.1 = id) : ∃ j, ∃ hj : j < R.length, fnd R id = (j : Int) ∧ R.find? (·.1 == id) = some R[j] ∧ R.take j ++ R.drop (j + 1) = R.eraseP (·.1 == id) := by
  rcases fnd_cases R id with ⟨_, h2⟩ | h2
  · obtain ⟨x, hx, e⟩ := h
    have := List.find?_eq_none.1 h2 x hx
    simp [e] at this
  · exact h2
/-- What ending makes. -/
def endM (R : List Th) (c : Int) : List Th × Int × Int := if lkOB R c then (R.eraseP (·.1 == lkO R c), lkO R c, 0) else (R, 0, 4)
section
variable {w W W' : World} {B R n n2 : Nat} {vq vr uq ur : Value} {Q Rn Q2 R2 : List Th} {Z : Nat → Prop}
set_option maxRecDepth 100000 in
set_option maxHeartbeats 1000000 in
theorem rend_any (h : PD Z w vq vr Q Rn) (hZ : ∀ b, Z b → b < w.heap.size) (hR : Rn.length ≤ 100000) (c : Int) :
    Calls Try.prog 72 #[pd n vq vr, .int .i64 c] w fun e w' => ∃ ur, e = .returned (.tuple #[pd n vq ur, .int .i64 (endM Rn c).2.1, .int .i64 (endM Rn c).2.2]) ∧ PD Z w' vq ur Q (endM Rn c).1 ∧ Keeps w w' := by
  obtain ⟨p, cap, rfl, hl, hc, _⟩ := h.r.get
  have hlI : (0 : Int) ≤ (Rn.length : Int) := by omega
  have hq1 := h.q.one
  obtain ⟨z, hz⟩ : ∃ z, endM Rn c = z := ⟨_, rfl⟩
  rw [hz]
  have hof := fun (W : World) (h : Ths W (.slice p Rn.length cap) Rn) => rof_any (n := n) (vq := vq) h c
  replace hz := Lib.hid hz
  replace h := Lib.hid h
  replace hZ := Lib.hid hZ
  replace hq1 := Lib.hid hq1
  replace hof := Lib.hid hof
  unfold pd at *
  go_enter Try.func72, Try.ntmps72
  go_upto_region 1 with (fail)
  obtain ⟨B, hB⟩ : ∃ B, B = w.heap.size := ⟨_, rfl⟩
  obtain ⟨R, hR⟩ : ∃ R, R = w.heap.size + 1 := ⟨_, rfl⟩
  refine wp_gen (fun W => Bx25 w B R n vq (.slice p Rn.length cap) W) (Bx25.start hB hR) ?_
  rw [← hR, ← hB]
  clear hB hR
  rintro W hX
  have hP := hX.pd h.out
  have hof1 := hof.out W hP.r
  replace hX := Lib.hid hX
  replace hP := Lib.hid hP
  replace hof1 := Lib.hid hof1
  clear hof
  go_wp2_with (refine loadP25 hX.out.b rfl _ rfl rfl ?_)
  refine hof1.out.mono ?_
  rintro e W2 ⟨rfl, hK2⟩
  have hX2 := hX.out.kept hK2
  have hP2 := hP.out.kept hK2
  clear hX hP hof1 hK2
  cases hb : lkOB Rn c with
  | false =>
    have e1 : z = (Rn, 0, 4) := by rw [← hz.out]; unfold endM; rw [hb]; rfl
    have hfin := hX2.fin (n2 := n) (uq := vq) (ur := .slice p Rn.length cap)
    have hPf := (hP2.rowR (pdC n vq (.slice p Rn.length cap)).toArray).unbox
    replace e1 := Lib.hid e1
    replace hX2 := Lib.hid hX2
    replace hfin := Lib.hid hfin
    replace hPf := Lib.hid hPf
    clear hP2 hb
    go_wp2_with (first | (refine loadP25 hX2.out.b rfl _ rfl rfl ?_) | (refine storeP25 hX2.out.r hq1.out rfl rfl _ _ rfl rfl rfl rfl ?_))
    refine bodyPost_ret (results_row_slots rfl _ hfin.out.1 rfl _ Try.underlying54 rfl 3 sizeP25 rfl) rfl ⟨_, by rw [e1.out]; rfl, by rw [e1.out]; exact hPf.out, hfin.out.2⟩
  | true =>
    obtain ⟨x, hx, hx1, hx2⟩ := find2_mem hb
    obtain ⟨j, hj, hf1, _, hf3⟩ := fnd_mem ⟨x, hx, hx1⟩
    have e1 : z = (Rn.eraseP (·.1 == lkO Rn c), lkO Rn c, 0) := by rw [← hz.out]; unfold endM; rw [hb]; rfl
    generalize lkO Rn c = id at *
    have z2 := hX2.b.cell 2 (by simp [pdC])
    have f2 := hX2.b.frozen 2
    simp only [pdC, List.getElem_cons_zero, List.getElem_cons_succ] at z2
    have hfd := fun (X : World) (hX : Keeps W2 X) => rfind_any (hP2.r.keeps hX) id
    simp only [hf1] at hfd
    have hwo := fun (X : World) (hX : Keeps W2 X) => rwithout_any (hP2.r.keeps hX) j hj hR
    simp only [hf3] at hwo
    have hend : ∀ (X X' : World) (u : Value), Keeps W2 X → RowT X.heap.size X' u (Rn.eraseP (·.1 == id)) → Keeps X X' → Bx25 w B R n vq u (X'.setCell ⟨B, 2, none⟩ u) ∧ PD (ZB Z B R) (X'.setCell ⟨B, 2, none⟩ u) vq u Q (Rn.eraseP (·.1 == id)) ∧ (∃ q cp, u = .slice q (Rn.eraseP (·.1 == id)).length cp) ∧ X'.cell? ⟨B, 2, none⟩ = some (.slice p Rn.length cap) ∧ X'.frozen? ⟨B, 2, none⟩ = false := fun X X' u hX hu hX' => by
      have hk := Keeps.trans hX hX'
      have hlow := hX2.low hZ.out
      have hsz := hX.size
      refine ⟨(hX2.kept hk).set2 u, ((hP2.kept hk).setr hu (fun b hb => by have := hlow b hb; omega)).cellB 2 u, hu.any, ?_, (hX2.b.keeps hk).frozen 2⟩
      have := (hX2.b.keeps hk).cell 2 (by simp [pdC])
      simpa [pdC] using this
    have hpost := fun (X : World) (u : Value) (hx : Bx25 w B R n vq u X) => hx.fin (n2 := n) (uq := vq) (ur := u)
    replace hpost := Lib.hid hpost
    replace e1 := Lib.hid e1
    replace hX2 := Lib.hid hX2
    replace hP2 := Lib.hid hP2
    replace hfd := Lib.hid hfd
    replace hwo := Lib.hid hwo
    replace hend := Lib.hid hend
    have hjj : (0 : Int) ≤ (j : Int) := by omega
    clear hb hx hx1 hx2 hf1 hf3
    go_upto_region 4 with (fail)
    go_region_with (first | (go_at_call 53; with_reducible refine (hfd.out _ (Keeps.drew _)).mono ?_; rintro e w2 ⟨rfl, rfl⟩) | (go_at_call 77; with_reducible refine (hwo.out _ (Keeps.drew _)).mono ?_; rintro e w2 ⟨u, rfl, hrow, hK5⟩; obtain ⟨hX5, hP5, ⟨q5, cp5, rfl⟩, z5, f5⟩ := hend.out _ _ u (Keeps.drew _) hrow hK5))
    all_goals
      have hfin := hX5.fin (n2 := n) (uq := vq) (ur := .slice q5 (Rn.eraseP (·.1 == id)).length cp5)
      have hPf := (hP5.rowR (pdC n vq (.slice q5 (Rn.eraseP (·.1 == id)).length cp5)).toArray).unbox
      replace hX5 := Lib.hid hX5
      replace hfin := Lib.hid hfin
      replace hPf := Lib.hid hPf
      clear hP5 hK5 hrow hend hwo hfd hP2 hX2 hpost z2 f2 z5 f5
      go_wp2_with (first | (refine loadP25 hX5.out.b rfl _ rfl rfl ?_) | (refine storeP25 hX5.out.r hq1.out rfl rfl _ _ rfl rfl rfl rfl ?_))
      refine bodyPost_ret (results_row_slots rfl _ hfin.out.1 rfl _ Try.underlying54 rfl 3 sizeP25 rfl) rfl ⟨_, by rw [e1.out]; rfl, by rw [e1.out]; exact hPf.out, hfin.out.2⟩
/-- What beginning makes. -/
def begM (n : Nat) (Q R : List Th) (c x : Int) : (List Th × List Th) × Int × Int :=
  if c < 0 ∨ (n : Int) ≤ c ∨ x < 0 ∨ 31 < x then ((Q, R), 0, 2) else if lkOB R x then ((Q, R), 0, 5) else match quL Q c with
    | [] => ((Q, R), 0, 4)
    | id :: _ => if lkIB R id then ((Q, R), 0, 21) else ((Q.eraseP (·.1 == id), R ++ [(id, x)]), id, 0)
set_option maxRecDepth 100000 in
set_option maxHeartbeats 2000000 in
theorem rbegin_any (h : PD Z w vq vr Q Rn) (hZ : ∀ b, Z b → b < w.heap.size) (hQ : Q.length ≤ 10000) (hR : Rn.length ≤ 10000) (c x : Int) :
    Calls Try.prog 71 #[pd n vq vr, .int .i64 c, .int .i64 x] w fun e w' => ∃ uq ur, e = .returned (.tuple #[pd n uq ur, .int .i64 (begM n Q Rn c x).2.1, .int .i64 (begM n Q Rn c x).2.2]) ∧ PD Z w' uq ur (begM n Q Rn c x).1.1 (begM n Q Rn c x).1.2 ∧ Keeps w w' := by
  obtain ⟨p, cap, rfl, hl, hc, _⟩ := h.q.get
  obtain ⟨pr, capr, rfl, hlr, hcr, _⟩ := h.r.get
  have hlI : (0 : Int) ≤ (Q.length : Int) := by omega
  have hlrI : (0 : Int) ≤ (Rn.length : Int) := by omega
  obtain ⟨z, hz⟩ : ∃ z, begM n Q Rn c x = z := ⟨_, rfl⟩
  rw [hz]
  have hof := fun (W : World) (h : Ths W (.slice pr Rn.length capr) Rn) => rof_any (n := n) (vq := .slice p Q.length cap) h x
  have hqu := fun (W : World) (h : Ths W (.slice p Q.length cap) Q) => rqueue_any (n := n) (vr := .slice pr Rn.length capr) h c (by omega)
  have hrd := fun (W : World) (h : Ths W (.slice p Q.length cap) Q) (h2 : Ths W (.slice pr Rn.length capr) Rn) => rready_any (n := n) h h2 (by omega) c
  replace hof := Lib.hid hof
  replace hqu := Lib.hid hqu
  replace hrd := Lib.hid hrd
  replace hz := Lib.hid hz
  replace h := Lib.hid h
  replace hZ := Lib.hid hZ
  unfold pd at *
  go_enter Try.func71, Try.ntmps71
  go_upto_region 1 with (fail)
  obtain ⟨B, hB⟩ : ∃ B, B = w.heap.size := ⟨_, rfl⟩
  obtain ⟨R, hR1⟩ : ∃ R, R = w.heap.size + 1 := ⟨_, rfl⟩
  refine wp_gen (fun W => Bx25 w B R n (.slice p Q.length cap) (.slice pr Rn.length capr) W) (Bx25.start hB hR1) ?_
  rw [← hR1, ← hB]
  clear hB hR1
  rintro W hX
  have hP := hX.pd h.out
  have z0 := hX.b.cell 0 (by simp [pdC])
  simp only [pdC, List.getElem_cons_zero] at z0
  have hout : ∀ (W : World), Bx25 w B R n (.slice p Q.length cap) (.slice pr Rn.length capr) W → PD (ZB Z B R) W (.slice p Q.length cap) (.slice pr Rn.length capr) Q Rn →
      (Blk (W.setRow R (pdC n (.slice p Q.length cap) (.slice pr Rn.length capr)).toArray) R 54 (pdC n (.slice p Q.length cap) (.slice pr Rn.length capr)) ∧ Keeps w (W.setRow R (pdC n (.slice p Q.length cap) (.slice pr Rn.length capr)).toArray)) ∧ PD Z (W.setRow R (pdC n (.slice p Q.length cap) (.slice pr Rn.length capr)).toArray) (.slice p Q.length cap) (.slice pr Rn.length capr) Q Rn := by
    intro W hX hP
    exact ⟨hX.fin, (hP.rowR _).unbox⟩
  replace hout := Lib.hid hout
  by_cases hg : c < 0 ∨ (n : Int) ≤ c ∨ x < 0 ∨ 31 < x
  · as_aux_lemma =>
    have e1 : z = ((Q, Rn), 0, 2) := by rw [← hz.out]; unfold begM; rw [if_pos hg]
    have hfin := hout.out W hX hP
    replace e1 := Lib.hid e1
    have hcase : c < 0 ∨ (¬ c < 0 ∧ (n : Int) ≤ c) ∨ (¬ c < 0 ∧ ¬ (n : Int) ≤ c ∧ x < 0) ∨ (¬ c < 0 ∧ ¬ (n : Int) ≤ c ∧ ¬ x < 0 ∧ 31 < x) := by omega
    replace hX := Lib.hid hX
    replace hfin := Lib.hid hfin
    clear hg hP hout hof hqu hrd
    rcases hcase with h1 | ⟨h1, h2⟩ | ⟨h1, h2, h3⟩ | ⟨h1, h2, h3, h4⟩
    all_goals
      go_wp2_with (first | (refine loadP25 hX.out.b rfl _ rfl rfl ?_) | (refine storeP25 hX.out.r rfl rfl rfl _ _ rfl rfl rfl rfl ?_))
      refine bodyPost_ret (results_row_slots rfl _ hfin.out.1.1 rfl _ Try.underlying54 rfl 3 sizeP25 rfl) rfl ⟨_, _, by rw [e1.out]; rfl, by rw [e1.out]; exact hfin.out.2, hfin.out.1.2⟩
  · have hz1 := hz.out
    unfold begM at hz1
    rw [if_neg hg] at hz1
    replace hz := Lib.hid hz1
    have h1 : ¬ c < 0 := by omega
    have h2 : ¬ (n : Int) ≤ c := by omega
    have h3 : ¬ x < 0 := by omega
    have h4 : ¬ 31 < x := by omega
    have hof1 := hof.out W hP.r
    replace hX := Lib.hid hX
    replace hP := Lib.hid hP
    replace hof1 := Lib.hid hof1
    clear hz1 hg hof
    go_wp2_with (refine loadP25 hX.out.b rfl _ rfl rfl ?_)
    refine hof1.out.mono ?_
    rintro e W2 ⟨rfl, hK2⟩
    have hX2 := hX.out.kept hK2
    have hP2 := hP.out.kept hK2
    clear hX hP hof1 hK2
    cases hb : lkOB Rn x with
    | true =>
      as_aux_lemma =>
      have hfin := hout.out W2 hX2 hP2
      have e1 : z = ((Q, Rn), 0, 5) := by rw [← hz.out, if_pos hb]
      replace e1 := Lib.hid e1
      replace hX2 := Lib.hid hX2
      replace hfin := Lib.hid hfin
      clear hP2 hout hqu hrd
      go_wp2_with (first | (refine loadP25 hX2.out.b rfl _ rfl rfl ?_) | (refine storeP25 hX2.out.r rfl rfl rfl _ _ rfl rfl rfl rfl ?_))
      refine bodyPost_ret (results_row_slots rfl _ hfin.out.1.1 rfl _ Try.underlying54 rfl 3 sizeP25 rfl) rfl ⟨_, _, by rw [e1.out]; rfl, by rw [e1.out]; exact hfin.out.2, hfin.out.1.2⟩
    | false =>
      have hz1 := hz.out
      rw [if_neg (by rw [hb]; decide)] at hz1
      have hq2 := hqu.out W2 hP2.q
      replace hq2 := Lib.hid hq2
      replace hX2 := Lib.hid hX2
      replace hP2 := Lib.hid hP2
      replace hz := Lib.hid hz1
      clear hz1 hb hqu
      go_wp2_with (refine loadP25 hX2.out.b rfl _ rfl rfl ?_)
      refine hq2.out.mono ?_
      rintro e W3 ⟨v, rfl, hrow, hK3⟩
      obtain ⟨q5, cap5, hv5, _⟩ := slc_of_row hrow
      rw [List.length_map] at hv5
      subst hv5
      have hX3 := hX2.out.kept hK3
      have hP3 := hP2.out.kept hK3
      clear hX2 hP2 hq2 hK3 hrow
      cases hL : quL Q c with
      | nil =>
        as_aux_lemma =>
        have hfin := hout.out W3 hX3 hP3
        have e1 : z = ((Q, Rn), 0, 4) := by have := hz.out; rw [hL] at this; exact this.symm
        replace e1 := Lib.hid e1
        replace hX3 := Lib.hid hX3
        replace hfin := Lib.hid hfin
        clear hP3 hout hrd hL
        go_wp2_with (first | (refine loadP25 hX3.out.b rfl _ rfl rfl ?_) | (refine storeP25 hX3.out.r rfl rfl rfl _ _ rfl rfl rfl rfl ?_))
        refine bodyPost_ret (results_row_slots rfl _ hfin.out.1.1 rfl _ Try.underlying54 rfl 3 sizeP25 rfl) rfl ⟨_, _, by rw [e1.out]; rfl, by rw [e1.out]; exact hfin.out.2, hfin.out.1.2⟩
      | cons id xs =>
        have hz1 := hz.out
        rw [hL] at hz1
        dsimp only at hz1
        have hr3 := hrd.out W3 hP3.q hP3.r
        have hi1 : rdI Q c = id := by unfold rdI; rw [hL]
        have hi2 : rdB Q Rn c = !lkIB Rn id := by unfold rdB; rw [hL]
        rw [hi1, hi2] at hr3
        have hxl : (0 : Int) ≤ (xs.length : Int) := by omega
        have hxl1 : ¬ ((xs.length + 1 : Nat) : Int) = 0 := by omega
        have hmem : ∃ y ∈ Q, y.1 = id := by
          have : id ∈ quL Q c := by rw [hL]; simp
          obtain ⟨y, hy, e⟩ := List.mem_map.1 this
          exact ⟨y, (List.mem_filter.1 hy).1, e⟩
        replace hr3 := Lib.hid hr3
        replace hX3 := Lib.hid hX3
        replace hP3 := Lib.hid hP3
        replace hz := Lib.hid hz1
        replace hmem := Lib.hid hmem
        clear hz1 hL hrd hi1 hi2
        go_wp2_with (refine loadP25 hX3.out.b rfl _ rfl rfl ?_)
        refine hr3.out.mono ?_
        rintro e W4 ⟨rfl, hK4⟩
        have hX4 := hX3.out.kept hK4
        have hP4 := hP3.out.kept hK4
        clear hX3 hP3 hr3 hK4
        cases hb2 : lkIB Rn id with
        | true =>
          as_aux_lemma =>
          have hfin := hout.out W4 hX4 hP4
          have e1 : z = ((Q, Rn), 0, 21) := by have := hz.out; rw [if_pos hb2] at this; exact this.symm
          replace e1 := Lib.hid e1
          replace hX4 := Lib.hid hX4
          replace hfin := Lib.hid hfin
          clear hP4 hout
          go_wp2_with (first | (refine loadP25 hX4.out.b rfl _ rfl rfl ?_) | (refine storeP25 hX4.out.r rfl rfl rfl _ _ rfl rfl rfl rfl ?_))
          refine bodyPost_ret (results_row_slots rfl _ hfin.out.1.1 rfl _ Try.underlying54 rfl 3 sizeP25 rfl) rfl ⟨_, _, by rw [e1.out]; rfl, by rw [e1.out]; exact hfin.out.2, hfin.out.1.2⟩
        | false =>
          have hz1 := hz.out
          rw [if_neg (by rw [hb2]; decide)] at hz1
          have hdel := rdel_any (n := n) hP4 (hX4.low hZ.out) (by omega) id
          unfold pd at hdel
          replace hdel := Lib.hid hdel
          replace hX4 := Lib.hid hX4
          replace hP4 := Lib.hid hP4
          replace hz := Lib.hid hz1
          clear hz1 hb2 hout
          go_wp2_with (refine loadP25 hX4.out.b rfl _ rfl rfl ?_)
          refine hdel.out.mono ?_
          rintro e W5 ⟨uq, rfl, hP5, hK5⟩
          have hX5 := hX4.out.kept hK5
          have hu1 := hP5.q.one
          have hX6 := hX5.row uq (.slice pr Rn.length capr)
          have hP6 := hP5.rowB (pdC n uq (.slice pr Rn.length capr)).toArray
          replace hX5 := Lib.hid hX5
          replace hX6 := Lib.hid hX6
          replace hP6 := Lib.hid hP6
          replace hu1 := Lib.hid hu1
          clear hP5 hK5 hdel hX4 hP4 z0
          go_upto_region 12 with (refine storeP25 hX5.out.b hu1.out rfl rfl _ _ rfl rfl rfl rfl ?_)
          refine wp_gen (fun W => Bx25 w B R n uq (.slice pr Rn.length capr) W ∧ PD (ZB Z B R) W uq (.slice pr Rn.length capr) (Q.eraseP (·.1 == id)) Rn) ⟨hX6.out, hP6.out⟩ ?_
          clear hX5 hX6 hP6
          rintro W7 ⟨hX7, hP7⟩
          have z2 := hX7.b.cell 2 (by simp [pdC])
          have f2 := hX7.b.frozen 2
          simp only [pdC, List.getElem_cons_zero, List.getElem_cons_succ] at z2
          have hBl := cell_lt z2
          dsimp only at hBl
          have hB0 := Keeps.alloc W7 (.cells #[] 91)
          have hsrc : Ths (W7.alloc (.cells #[] 91)) (.slice pr Rn.length capr) Rn := hP7.r.keeps hB0
          have hlow7 := hX7.low hZ.out
          replace hX7 := Lib.hid hX7
          replace hP7 := Lib.hid hP7
          replace hsrc := Lib.hid hsrc
          replace hB0 := Lib.hid hB0
          replace hlow7 := Lib.hid hlow7
          go_wp2_with (at_builtin; refine appN rfl _ _ 52 91 _ 2 16 rfl Try.underlying52 infoTh rfl (by decide) W7.heap.size _ [] rfl (RowS.empty 2 _ _ W7 (Nat.le_refl _)) _ _ rfl hsrc.out (th_one Rn) ?c1 ?c2 ?c3 ?_)
          case c1 => simp; unfold maxLen; omega
          case c2 => simp; omega
          case c3 => exact hB0.out.size
          intro v1 W8 hrow _ hbel
          replace hrow : RowS 2 W7.heap.size 91 W8 v1 (Rn.map thE) := by simpa using hrow
          have hK8 : Keeps W7 W8 := Below.trans hB0.out hbel
          have hsz8 := hK8.size
          have hrow2 := hrow.alloc (.cells #[.int .i64 id, .int .i64 x] 91)
          have hsrc2 : SlcS 2 (W8.alloc (.cells #[.int .i64 id, .int .i64 x] 91)) (.slice (some ⟨W8.heap.size, 0, none⟩) 1 1) ([((id, x) : Th)].map thE) := slcs_one (Blk.new W8 91 (thE (id, x))) rfl
          replace hK8 := Lib.hid hK8
          replace hrow2 := Lib.hid hrow2
          replace hsrc2 := Lib.hid hsrc2
          clear hrow hbel hsrc
          go_wp2_with (at_builtin; refine appN rfl _ _ 52 91 _ 2 16 rfl Try.underlying52 infoTh rfl (by decide) W7.heap.size _ _ rfl hrow2.out _ _ rfl hsrc2.out (th_one [((id, x) : Th)]) ?d1 ?d2 ?d3 ?_)
          case d1 => simp; unfold maxLen; omega
          case d2 => simp; omega
          case d3 => (simp only [World.size_alloc]; omega)
          intro v2 W9 hrow9 _ hbel9
          have hK9 : Keeps W7 W9 := Below.trans hK8.out (Below.trans (Below.mono (Keeps.alloc W8 _) hsz8) hbel9)
          have hrT : RowT W7.heap.size W9 v2 (Rn ++ [((id, x) : Th)]) := by
            unfold RowT
            rw [List.map_append]
            exact hrow9
          obtain ⟨q9, cap9, hv9⟩ := hrT.any
          generalize (Rn ++ [((id, x) : Th)]).length = N9 at hv9
          subst hv9
          have hX9 := hX7.out.kept hK9
          have f9 := hX9.b.frozen 2
          have z9 := hX9.b.cell 2 (by simp [pdC])
          simp only [pdC, List.getElem_cons_zero, List.getElem_cons_succ] at z9
          have hP9 := ((hP7.out.kept hK9).setr hrT hlow7.out).cellB 2 (.slice q9 N9 cap9)
          have hX10 := hX9.set2 (.slice q9 N9 cap9)
          have hfin := hX10.fin (n2 := n) (uq := uq) (ur := .slice q9 N9 cap9)
          have hPf := (hP9.rowR (pdC n uq (.slice q9 N9 cap9)).toArray).unbox
          replace hX10 := Lib.hid hX10
          replace hfin := Lib.hid hfin
          replace hPf := Lib.hid hPf
          clear hP9 hX9 hrT hK9 hrow9 hbel9 hsrc2 hrow2 hK8 hlow7 hB0 hX7 hP7 z2 f2
          go_wp2_with (first | (refine loadP25 hX10.out.b rfl _ rfl rfl ?_) | (refine storeP25 hX10.out.r hu1.out rfl rfl _ _ rfl rfl rfl rfl ?_))
          refine bodyPost_ret (results_row_slots rfl _ hfin.out.1 rfl _ Try.underlying54 rfl 3 sizeP25 rfl) rfl ⟨_, _, by rw [← hz.out]; rfl, by rw [← hz.out]; exact hPf.out, hfin.out.2⟩
end
end Go.Proofs.Ytcggbfpangnllaa
