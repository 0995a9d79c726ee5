/- The works: New, Ready, Begin, End: the walks; nil works. -/
import Derived.Test.YtcggbfpangnllaaWorkD
namespace Go.Proofs.Ytcggbfpangnllaa
open Go.RowKit Go.Shelf i64
attribute [local go_sem] Oper.semAt_some
theorem lkOB_snoc (L : List Th) (x : Th) (c : Int) : lkOB (L ++ [x]) c = (lkOB L c || (x.2 == c)) := by
  unfold lkOB
  rw [List.find?_append]
  cases h : L.find? (·.2 == c) with
  | some y => simp
  | none =>
    rw [List.find?_cons]
    cases h2 : (x.2 == c) <;> simp
section
variable {w W W' : World} {k p rb cap n : Nat} {pp bb : Nat → Nat} {s : WS} {Q Rn : List Th}
theorem PR.ctx (h : PR w p rb cap n pp bb Q Rn W) {x : Int} (hb : lkOB Rn x = true) : 0 ≤ x ∧ x < 32 := by
  obtain ⟨fr, fo, R, h1, h2, h3⟩ := h
  refine Classical.byContradiction fun hc => ?_
  rw [(h3.of_no x hc).2] at hb; cases hb
theorem PR.endB (h : PR w p rb cap n pp bb Q Rn W) {t : Nat} (hb : lkOB Rn t = true) : (∀ c : Nat, c < 32 → lkOB (endM Rn t).1 c = if c = t then false else lkOB Rn c) ∧ (0 ≤ lkO Rn t ∧ lkO Rn t < 256) := by
  have hc := h.ctx hb
  have ht : t < 32 := by omega
  obtain ⟨fr, fo, R, h1, h2, h3⟩ := h
  have hof := h3.of t ht
  rw [hb] at hof
  rcases h3.d t ht with h4 | ⟨i, hi, h4, hm⟩
  · rw [h4] at hof; exact absurd hof.2 (by decide)
  · have e1 : lkO Rn t = (i : Int) := by
      rw [← hof.1, h4, if_neg (by omega), show (i : Int) + 1 - 1 = i by omega, wrap_small _ (by omega)]
    refine ⟨fun c hc => ?_, by omega⟩
    have h5 := h3.end' hm
    unfold endM
    rw [if_pos hb, e1]
    rw [← (h5.of c hc).2, ← (h3.of c hc).2]
    unfold updI
    by_cases e : c = t
    · rw [if_pos e, if_pos e]; rfl
    · rw [if_neg e, if_neg e]
theorem PR.begY (h : PR w p rb cap n pp bb Q Rn W) {c x : Int} (hb : (begM n Q Rn c x).2.2 = 0) : (0 ≤ c ∧ c < (n : Int)) ∧ (0 ≤ x ∧ x < 32) ∧ (0 ≤ (begM n Q Rn c x).2.1 ∧ (begM n Q Rn c x).2.1 < 256) ∧ ((begM n Q Rn c x).2.1, c) ∈ Q ∧ (begM n Q Rn c x).1 = (Q.eraseP (·.1 == (begM n Q Rn c x).2.1), Rn ++ [((begM n Q Rn c x).2.1, x)]) := by
  obtain ⟨fr, fo, R, h1, h2, h3⟩ := h
  unfold begM at hb ⊢
  by_cases h4 : c < 0 ∨ (n : Int) ≤ c ∨ x < 0 ∨ 31 < x
  · rw [if_pos h4] at hb; cases hb
  · rw [if_neg h4] at hb ⊢
    cases hl : lkOB Rn x with
    | true => rw [hl] at hb; cases hb
    | false =>
      rw [hl] at hb
      simp only [Bool.false_eq_true, if_false] at hb ⊢
      cases hq : quL Q c with
      | nil => rw [hq] at hb; cases hb
      | cons y ys =>
        rw [hq] at hb
        have hm : (y, c) ∈ Q := quL_mem.1 (by rw [hq]; simp)
        have hr := h2.rng h1.ok hm
        simp only at hb ⊢
        cases hi : lkIB Rn y with
        | true => rw [hi] at hb; cases hb
        | false =>
          simp only [Bool.false_eq_true, if_false]
          exact ⟨by omega, by omega, hr, hm, trivial⟩
theorem WI.busyP (h : WI w k p rb cap n pp bb s W) (c : Int) : Calls Try.prog 13 #[.pointer (some ⟨k, 0, none⟩), .int .i64 c] W fun e w' => e = .returned (.int .i64 (busyW n s.on c : Nat)) ∧ W = w' := busyP_any h.blk c h.n64
theorem WI.busy_le (h : WI w k p rb cap n pp bb s W) (c : Int) : busyW n s.on c ≤ 2 := by
  unfold busyW
  split
  · omega
  · exact h.busy c (by omega)
set_option maxRecDepth 100000 in
set_option maxHeartbeats 1000000 in
theorem WI.ready (h : WI w k p rb cap n pp bb s W) (c : Int) : Calls Try.prog 22 #[.pointer (some ⟨k, 0, none⟩), .int .i64 c] W fun e W' =>
    e = .returned (.tuple #[.int .i64 (rdI s.Q c), .bool (rdB s.Q s.Rn c && decide (busyW n s.on c < 2))]) ∧ Keeps W W' := by
  have hi := inner_any h
  have hr := h.pr.ready c
  have hb := fun W2 (hK : Keeps W W2) => (h.kept hK).busyP c
  have hb0 : (0 : Int) ≤ (busyW n s.on c : Nat) := by omega
  have hle := h.busy_le c
  generalize rdI s.Q c = z at *
  generalize busyW n s.on c = b at *
  replace hi := Lib.hid hi
  clear h hb0
  have hcase : ((b : Int) = 0 ∧ decide (b < 2) = true) ∨ ((b : Int) = 1 ∧ decide (b < 2) = true) ∨ ((b : Int) = 2 ∧ decide (b < 2) = false) := by
    have hb3 : b = 0 ∨ b = 1 ∨ b = 2 := by omega
    rcases hb3 with rfl | rfl | rfl
    · exact .inl ⟨rfl, rfl⟩
    · exact .inr (.inl ⟨rfl, rfl⟩)
    · exact .inr (.inr ⟨rfl, rfl⟩)
  rcases hcase with ⟨hlt, hd⟩ | ⟨hlt, hd⟩ | ⟨hlt, hd⟩
  all_goals
    rw [hd]
    rw [hlt] at hb
    replace hb := Lib.hid hb
    clear hd hlt hle
    generalize rdB s.Q s.Rn c = r at *
    cases r
    all_goals
      replace hr := Lib.hid hr
      go_enter Try.func22, Try.ntmps22
      go_wp2_with fail
      refine hi.out.mono ?_
      rintro e w' ⟨rfl, rfl⟩
      go_wp2_with fail
      refine hr.out.mono ?_
      rintro e w2 ⟨rfl, hK⟩
      have hb2 := hb.out w2 hK
      replace hb2 := Lib.hid hb2
      replace hK := Lib.hid hK
      go_wp2_with (first | (with_reducible refine hb2.out.mono ?_; rintro e w3 ⟨rfl, rfl⟩) | fail)
      go_ret2
      exact ⟨rfl, hK.out⟩
set_option maxRecDepth 100000 in
set_option maxHeartbeats 1000000 in
theorem WI.end' (h : WI w k p rb cap n pp bb s W) (x : Int) : Calls Try.prog 14 #[.pointer (some ⟨k, 0, none⟩), .int .i64 x] W fun e W' =>
    e = .returned (.tuple #[.int .i64 (endW s x).2.1, .int .i64 (endW s x).2.2]) ∧ WI w k p rb cap n pp bb (endW s x).1 W' ∧ Chg (FW k p rb n pp bb) W W' := by
  have hi := inner_any h
  have he := h.pr.end' x
  unfold endW
  cases hb : lkOB s.Rn x with
  | false =>
    have hend : endM s.Rn x = (s.Rn, 0, 4) := by unfold endM; rw [hb]; rfl
    rw [hend] at he
    rw [if_neg (by decide)]
    replace hi := Lib.hid hi
    replace he := Lib.hid he
    replace h := Lib.hid h
    go_enter Try.func14, Try.ntmps14
    go_wp2_with fail
    refine hi.out.mono ?_
    rintro e w' ⟨rfl, rfl⟩
    go_wp2_with fail
    refine he.out.mono ?_
    rintro e w2 ⟨rfl, hP, hC⟩
    have hI : WI w k p rb cap n pp bb s w2 := ⟨h.out.blk.chg hC h.out.nf, hP, h.out.new, h.out.nf, h.out.n64, h.out.rng, h.out.busy, h.out.onp, h.out.onr⟩
    replace hI := Lib.hid hI
    replace hC := Lib.hid hC
    clear hP
    go_wp2_with fail
    go_ret2
    exact ⟨rfl, hI.out, hC.out.fw⟩
  | true =>
    have hx := h.pr.ctx hb
    obtain ⟨t, rfl⟩ : ∃ t : Nat, x = t := ⟨x.toNat, by omega⟩
    have hB := (h.pr.endB hb).1
    have hend : endM s.Rn t = ((endM s.Rn t).1, lkO s.Rn t, 0) := by unfold endM; rw [hb]; rfl
    rw [hend] at he
    rw [if_pos rfl, show ((t : Int)).toNat = t from rfl]
    have ht0 : (0 : Int) ≤ (t : Int) := hx.1
    have ht1 : (t : Int) < 32 := hx.2
    have hon : ∀ w2, PR w p rb cap n pp bb s.Q (endM s.Rn t).1 w2 → Chg (Foot p rb n pp bb) W w2 → w2.cell? ⟨k, 514 + t, none⟩ = some (.int .i64 (s.on t)) ∧ w2.frozen? ⟨k, 514 + t, none⟩ = false ∧
        WI w k p rb cap n pp bb { s with on := updI s.on t 0, Rn := (endM s.Rn t).1 } (w2.setCell ⟨k, 514 + t, none⟩ (.int .i64 0)) := fun w2 hP hC => by
      have hbk := h.blk.chg hC h.nf
      refine ⟨hbk.cellK (workC_on t (by omega)), hbk.frozen _, by rw [← workC_setOn t 0]; exact hbk.set _ _, hP.setK h.new h.nf _ _, h.new, h.nf, h.n64, h.rng, fun c hc => ?_, fun c => ?_, fun c hc => ?_⟩
      · have h1 := cntTo_upd s.on (c + 1) t 0 32 (by omega)
        have h2 := h.busy c hc
        rw [if_neg (show ¬ (0 : Int) = c + 1 by omega)] at h1
        show cntTo (updI s.on t 0) (c + 1) 32 ≤ 2
        omega
      · show 0 ≤ updI s.on t 0 c
        unfold updI; split
        · omega
        · exact h.onp c
      · show lkOB (endM s.Rn t).1 c = (updI s.on t 0 c != 0)
        rw [hB c hc]
        unfold updI
        by_cases e : c = t
        · rw [if_pos e, if_pos e]; rfl
        · rw [if_neg e, if_neg e]; exact h.onr c hc
    generalize lkO s.Rn t = z at *
    generalize (endM s.Rn t).1 = Rn' at *
    replace hi := Lib.hid hi
    replace he := Lib.hid he
    replace hon := Lib.hid hon
    replace hb := Lib.hid hb
    clear h hx hB hend
    go_enter Try.func14, Try.ntmps14
    go_wp2_with fail
    refine hi.out.mono ?_
    rintro e w' ⟨rfl, rfl⟩
    go_wp2_with fail
    refine he.out.mono ?_
    rintro e w2 ⟨rfl, hP, hC⟩
    obtain ⟨c2, f2, hI⟩ := hon.out w2 hP hC
    replace hI := Lib.hid hI
    replace hC := Lib.hid hC
    clear hP hon
    go_wp2_with fail
    go_ret2
    exact ⟨rfl, hI.out, hC.out.fw.trans (Chg.fwK _ _)⟩
theorem WI.begC (h : WI w k p rb cap n pp bb s W) {c x : Int} (hb : (begM n s.Q s.Rn c x).2.2 = 0) (hbusy : busyW n s.on c ≠ 2) {w2 : World} (hP : PR w p rb cap n pp bb (begM n s.Q s.Rn c x).1.1 (begM n s.Q s.Rn c x).1.2 w2) (hC : Chg (Foot p rb n pp bb) W w2) :
    ∃ t i : Nat, x = t ∧ t < 32 ∧ (begM n s.Q s.Rn c x).2.1 = (i : Int) ∧ i < 256 ∧ w2.cell? ⟨k, 514 + t, none⟩ = some (.int .i64 (s.on t)) ∧ w2.frozen? ⟨k, 514 + t, none⟩ = false ∧
      WI w k p rb cap n pp bb { s with on := updI s.on x.toNat (c + 1), Q := (begM n s.Q s.Rn c x).1.1, Rn := (begM n s.Q s.Rn c x).1.2 } (w2.setCell ⟨k, 514 + t, none⟩ (.int .i64 (c + 1))) ∧
      (w2.setCell ⟨k, 514 + t, none⟩ (.int .i64 (c + 1))).cell? ⟨k, 2 + i * 2 + 1, none⟩ = some (.int .i64 (s.pr i)) := by
  obtain ⟨hc, hx, hi, _, hL⟩ := h.pr.begY hb
  obtain ⟨t, rfl⟩ : ∃ t : Nat, x = t := ⟨x.toNat, by omega⟩
  obtain ⟨i, hi2⟩ : ∃ i : Nat, (begM n s.Q s.Rn c t).2.1 = (i : Int) := ⟨(begM n s.Q s.Rn c t).2.1.toNat, by omega⟩
  have hbk := h.blk.chg hC h.nf
  have hI : WI w k p rb cap n pp bb { s with on := updI s.on ((t : Int)).toNat (c + 1), Q := (begM n s.Q s.Rn c t).1.1, Rn := (begM n s.Q s.Rn c t).1.2 } (w2.setCell ⟨k, 514 + t, none⟩ (.int .i64 (c + 1))) := by
    rw [show ((t : Int)).toNat = t from rfl]
    refine ⟨by rw [← workC_setOn t (c + 1)]; exact hbk.set _ _, hP.setK h.new h.nf _ _, h.new, h.nf, h.n64, h.rng, fun d hd => ?_, fun d => ?_, fun d hd => ?_⟩
    · have h1 := cntTo_upd s.on (d + 1) t (c + 1) 32 (by omega)
      have h2 := h.busy d hd
      show cntTo (updI s.on t (c + 1)) (d + 1) 32 ≤ 2
      by_cases e : c + 1 = d + 1
      · rw [if_pos e] at h1
        have e' : c = d := by omega
        subst e'
        have h3 := h.busy_le c
        unfold busyW at h3 hbusy
        rw [if_neg (by omega)] at h3 hbusy
        omega
      · rw [if_neg e] at h1
        omega
    · show 0 ≤ updI s.on t (c + 1) d
      unfold updI; split
      · omega
      · exact h.onp d
    · show lkOB (begM n s.Q s.Rn c t).1.2 d = (updI s.on t (c + 1) d != 0)
      rw [hL]
      show lkOB (s.Rn ++ _) d = _
      rw [lkOB_snoc, h.onr d hd]
      unfold updI
      by_cases e : d = t
      · subst e
        rw [if_pos rfl]
        have : (c + 1 != 0) = true := by simp; omega
        rw [this]; simp
      · rw [if_neg e]
        have : ((t : Int) == (d : Int)) = false := by simp; omega
        show ((s.on d != 0) || ((t : Int) == (d : Int))) = _
        rw [this, Bool.or_false]
  exact ⟨t, i, rfl, by omega, hi2, by omega, hbk.cellK (workC_on t (by omega)), hbk.frozen _, hI, hI.blk.cellK (workC_pr i (by omega))⟩
theorem begM_no {n : Nat} {Q Rn : List Th} {c x : Int} (hb : (begM n Q Rn c x).2.2 ≠ 0) : (begM n Q Rn c x).1 = (Q, Rn) ∧ (begM n Q Rn c x).2.1 = 0 := by
  unfold begM at hb ⊢
  split
  · exact ⟨rfl, rfl⟩
  · split
    · exact ⟨rfl, rfl⟩
    · rename_i h1 h2
      rw [if_neg h1, if_neg h2] at hb
      split
      · exact ⟨rfl, rfl⟩
      · rename_i h3
        rw [h3] at hb
        simp only at hb ⊢
        split
        · exact ⟨rfl, rfl⟩
        · rename_i h4
          rw [if_neg h4] at hb
          exact absurd rfl hb
theorem begM_run {n : Nat} {Q Rn : List Th} {c x : Int} (hl : lkOB Rn x = true) : (begM n Q Rn c x).2.2 ≠ 0 := by
  unfold begM
  by_cases h : c < 0 ∨ (n : Int) ≤ c ∨ x < 0 ∨ 31 < x
  · rw [if_pos h]; show (2 : Int) ≠ 0; decide
  · rw [if_neg h, if_pos hl]; show (5 : Int) ≠ 0; decide
theorem begM_out {n : Nat} {Q Rn : List Th} {c x : Int} (hx : ¬ (0 ≤ x ∧ x < 32)) : (begM n Q Rn c x).2.2 ≠ 0 := by
  unfold begM
  rw [if_pos (by omega)]; show (2 : Int) ≠ 0; decide
/-- Begin, where the CPU isn't full. -/
theorem beginW_not {n : Nat} {s : WS} {c x : Int} (hf : ¬ ((0 ≤ x ∧ x < 32) ∧ lkOB s.Rn x = false ∧ busyW n s.on c = 2)) : beginW n s c x =
    if (begM n s.Q s.Rn c x).2.2 = 0 then ({ s with on := updI s.on x.toNat (c + 1), Q := (begM n s.Q s.Rn c x).1.1, Rn := (begM n s.Q s.Rn c x).1.2 }, (begM n s.Q s.Rn c x).2.1, s.pr (begM n s.Q s.Rn c x).2.1.toNat - 1, 0)
    else (s, 0, 0, (begM n s.Q s.Rn c x).2.2) := by
  unfold beginW
  by_cases h1 : c < 0 ∨ (n : Int) ≤ c ∨ x < 0 ∨ 31 < x
  · rw [if_pos h1]
    have : (begM n s.Q s.Rn c x) = ((s.Q, s.Rn), 0, 2) := by unfold begM; rw [if_pos h1]
    rw [this]; rfl
  · rw [if_neg h1]
    cases hl : lkOB s.Rn x with
    | true =>
      rw [if_pos rfl]
      have : (begM n s.Q s.Rn c x) = ((s.Q, s.Rn), 0, 5) := by unfold begM; rw [if_neg h1, if_pos hl]
      rw [this]; rfl
    | false =>
      rw [if_neg (by decide), if_neg (fun e => hf ⟨by omega, hl, e⟩)]
theorem beginW_full {n : Nat} {s : WS} {c x : Int} (hf : (0 ≤ x ∧ x < 32) ∧ lkOB s.Rn x = false ∧ busyW n s.on c = 2) : beginW n s c x = (s, 0, 0, 3) := by
  obtain ⟨h1, h2, h3⟩ := hf
  have hc : ¬ (c < 0 ∨ (n : Int) ≤ c) := fun hc => by unfold busyW at h3; rw [if_pos hc] at h3; cases h3
  unfold beginW
  rw [if_neg (by omega), h2, if_neg (by decide), if_pos h3]
set_option maxRecDepth 100000 in
set_option maxHeartbeats 2000000 in
theorem begin_full (h : WI w k p rb cap n pp bb s W) (c x : Int) (hx : 0 ≤ x ∧ x < 32) (hl : lkOB s.Rn x = false) (hb : busyW n s.on c = 2) : Calls Try.prog 11 #[.pointer (some ⟨k, 0, none⟩), .int .i64 c, .int .i64 x] W fun e W' =>
    e = .returned (.tuple #[.int .i64 0, .int .i64 0, .int .i64 3]) ∧ W = W' := by
  have hof := h.pr.of x
  have hbz := h.busyP c
  have c0 := h.c0
  rw [hl] at hof
  rw [hb, show ((2 : Nat) : Int) = 2 from rfl] at hbz
  generalize lkO s.Rn x = z at *
  obtain ⟨h1, h2⟩ := hx
  replace hof := Lib.hid hof
  replace hbz := Lib.hid hbz
  clear h hl hb
  go_enter Try.func11, Try.ntmps11
  go_wp2_with (first | (with_reducible refine hof.out.mono ?_; rintro e w3 ⟨rfl, rfl⟩) | (with_reducible refine hbz.out.mono ?_; rintro e w3 ⟨rfl, rfl⟩) | fail)
  go_ret3
  exact ⟨rfl, rfl⟩
set_option maxRecDepth 100000 in
set_option maxHeartbeats 4000000 in
theorem begin_err (h : WI w k p rb cap n pp bb s W) (c x : Int) (hf : ¬ ((0 ≤ x ∧ x < 32) ∧ lkOB s.Rn x = false ∧ busyW n s.on c = 2)) (he : (begM n s.Q s.Rn c x).2.2 ≠ 0) : Calls Try.prog 11 #[.pointer (some ⟨k, 0, none⟩), .int .i64 c, .int .i64 x] W fun e W' =>
    e = .returned (.tuple #[.int .i64 0, .int .i64 0, .int .i64 (begM n s.Q s.Rn c x).2.2]) ∧ WI w k p rb cap n pp bb s W' ∧ Chg (FW k p rb n pp bb) W W' := by
  have hof := h.pr.of x
  have hbz := h.busyP c
  have hbe := h.pr.begin c x
  have c0 := h.c0
  have hle := h.busy_le c
  rw [(begM_no he).1, (begM_no he).2] at hbe
  have hfin := fun w2 (hP : PR w p rb cap n pp bb s.Q s.Rn w2) (hC : Chg (Foot p rb n pp bb) W w2) => (show WI w k p rb cap n pp bb s w2 from ⟨h.blk.chg hC h.nf, hP, h.new, h.nf, h.n64, h.rng, h.busy, h.onp, h.onr⟩)
  generalize busyW n s.on c = b at *
  generalize (begM n s.Q s.Rn c x).2.2 = er at *
  generalize lkO s.Rn x = z at *
  generalize lkOB s.Rn x = r at *
  have hq : (er != 0) = true := by simpa using he
  replace he := Lib.hid he
  replace hbe := Lib.hid hbe
  replace hof := Lib.hid hof
  replace hfin := Lib.hid hfin
  clear h
  have hcase : (x < 0 ∧ ¬ 0 ≤ x) ∨ (0 ≤ x ∧ ¬ x < 32) ∨ (0 ≤ x ∧ x < 32 ∧ r = true) ∨ (0 ≤ x ∧ x < 32 ∧ r = false ∧ (b = 0 ∨ b = 1)) := by
    by_cases h1 : 0 ≤ x
    · by_cases h2 : x < 32
      · cases r with
        | true => exact .inr (.inr (.inl ⟨h1, h2, rfl⟩))
        | false =>
          have : b ≠ 2 := fun e => hf ⟨⟨h1, h2⟩, rfl, e⟩
          exact .inr (.inr (.inr ⟨h1, h2, rfl, by omega⟩))
      · exact .inr (.inl ⟨h1, h2⟩)
    · exact .inl ⟨by omega, h1⟩
  clear hf hle
  rcases hcase with ⟨h1, h2⟩ | ⟨h1, h2⟩ | ⟨h1, h2, rfl⟩ | ⟨h1, h2, rfl, rfl | rfl⟩
  all_goals
    replace hbz := Lib.hid hbz
    go_enter Try.func11, Try.ntmps11
    go_wp2_with (first | (with_reducible refine hof.out.mono ?_; rintro e w3 ⟨rfl, rfl⟩) | (with_reducible refine hbz.out.mono ?_; rintro e w3 ⟨rfl, rfl⟩) | fail)
    refine hbe.out.mono ?_
    rintro e w2 ⟨rfl, hP, hC⟩
    have hI := hfin.out w2 hP hC
    replace hI := Lib.hid hI
    replace hC := Lib.hid hC
    clear hP
    go_wp2_with fail
    go_ret3
    exact ⟨rfl, hI.out, hC.out.fw⟩
set_option maxRecDepth 100000 in
set_option maxHeartbeats 4000000 in
theorem begin_ok (h : WI w k p rb cap n pp bb s W) (c x : Int) (hf : ¬ ((0 ≤ x ∧ x < 32) ∧ lkOB s.Rn x = false ∧ busyW n s.on c = 2)) (he : (begM n s.Q s.Rn c x).2.2 = 0) : Calls Try.prog 11 #[.pointer (some ⟨k, 0, none⟩), .int .i64 c, .int .i64 x] W fun e W' =>
    e = .returned (.tuple #[.int .i64 (begM n s.Q s.Rn c x).2.1, .int .i64 (s.pr (begM n s.Q s.Rn c x).2.1.toNat - 1), .int .i64 0]) ∧ WI w k p rb cap n pp bb { s with on := updI s.on x.toNat (c + 1), Q := (begM n s.Q s.Rn c x).1.1, Rn := (begM n s.Q s.Rn c x).1.2 } W' ∧ Chg (FW k p rb n pp bb) W W' := by
  have hof := h.pr.of x
  have hbz := h.busyP c
  have hbe := h.pr.begin c x
  have c0 := h.c0
  have hle := h.busy_le c
  have hl : lkOB s.Rn x = false := by
    cases hl : lkOB s.Rn x with
    | false => rfl
    | true => exact absurd he (begM_run hl)
  obtain ⟨hc, hx, hi, _, _⟩ := h.pr.begY he
  have hb2 : busyW n s.on c ≠ 2 := fun e => hf ⟨hx, hl, e⟩
  have hfin := fun w2 (hP : PR w p rb cap n pp bb (begM n s.Q s.Rn c x).1.1 (begM n s.Q s.Rn c x).1.2 w2) (hC : Chg (Foot p rb n pp bb) W w2) => h.begC he hb2 hP hC
  have h64 := h.n64
  have hpr := fun i => h.rng i
  rw [hl] at hof
  rw [he] at hbe
  have hb01 : busyW n s.on c = 0 ∨ busyW n s.on c = 1 := by omega
  generalize busyW n s.on c = b at *
  generalize lkO s.Rn x = z at *
  generalize (begM n s.Q s.Rn c x).2.1 = q at *
  generalize (begM n s.Q s.Rn c x).1.1 = Q' at *
  generalize (begM n s.Q s.Rn c x).1.2 = Rn' at *
  obtain ⟨t, rfl⟩ : ∃ t : Nat, x = t := ⟨x.toNat, by omega⟩
  obtain ⟨i, rfl⟩ : ∃ i : Nat, q = i := ⟨q.toNat, by omega⟩
  have hfin2 : ∀ w2, PR w p rb cap n pp bb Q' Rn' w2 → Chg (Foot p rb n pp bb) W w2 → w2.cell? ⟨k, 514 + t, none⟩ = some (.int .i64 (s.on t)) ∧ w2.frozen? ⟨k, 514 + t, none⟩ = false ∧
      WI w k p rb cap n pp bb { s with on := updI s.on ((t : Int)).toNat (c + 1), Q := Q', Rn := Rn' } (w2.setCell ⟨k, 514 + t, none⟩ (.int .i64 (c + 1))) ∧ (w2.setCell ⟨k, 514 + t, none⟩ (.int .i64 (c + 1))).cell? ⟨k, 2 + i * 2 + 1, none⟩ = some (.int .i64 (s.pr i)) := fun w2 hP hC => by
    obtain ⟨t', i', e1, _, e2, _, r1, r2, r3, r4⟩ := hfin w2 hP hC
    obtain rfl : t = t' := by omega
    obtain rfl : i = i' := by omega
    exact ⟨r1, r2, r3, r4⟩
  have hpi := hpr i
  rw [show ((i : Int)).toNat = i from rfl]
  generalize s.pr i = pv at *
  have h1 : (0 : Int) ≤ (t : Int) := hx.1
  have h2 : (t : Int) < 32 := hx.2
  have h3 : (0 : Int) ≤ (i : Int) := hi.1
  have h4 : (i : Int) < 256 := hi.2
  have h5 : c + 1 ≤ 9223372036854775807 := by omega
  have h6 : -9223372036854775808 ≤ c + 1 := by omega
  have h7 : IntKind.i64.wrap (pv - 1) = pv - 1 := IntWalk.i64_in _ (by omega)
  have h8 : pv - 1 ≤ 9223372036854775807 := by omega
  have h9 : -9223372036854775808 ≤ pv - 1 := by omega
  replace hbe := Lib.hid hbe
  replace hof := Lib.hid hof
  replace hfin2 := Lib.hid hfin2
  clear h hf hle he hx hi hc hfin hpr hb2 h64 hl hpi
  rcases hb01 with rfl | rfl
  all_goals
    replace hbz := Lib.hid hbz
    go_enter Try.func11, Try.ntmps11
    go_wp2_with (first | (with_reducible refine hof.out.mono ?_; rintro e w3 ⟨rfl, rfl⟩) | (with_reducible refine hbz.out.mono ?_; rintro e w3 ⟨rfl, rfl⟩) | fail)
    refine hbe.out.mono ?_
    rintro e w2 ⟨rfl, hP, hC⟩
    obtain ⟨d1, d2, hI, d3⟩ := hfin2.out w2 hP hC
    replace hI := Lib.hid hI
    replace hC := Lib.hid hC
    clear hP
    go_wp2_with fail
    go_quiet (fail)
    go_wp2_with fail
    go_ret3
    exact ⟨rfl, hI.out.kept (Keeps.drewN _ _), (hC.out.fw.trans (Chg.fwK _ _)).trans (Chg.of_keeps (Keeps.drewN _ _))⟩
theorem WI.begin (h : WI w k p rb cap n pp bb s W) (c x : Int) : Calls Try.prog 11 #[.pointer (some ⟨k, 0, none⟩), .int .i64 c, .int .i64 x] W fun e W' =>
    e = .returned (.tuple #[.int .i64 (beginW n s c x).2.1, .int .i64 (beginW n s c x).2.2.1, .int .i64 (beginW n s c x).2.2.2]) ∧ WI w k p rb cap n pp bb (beginW n s c x).1 W' ∧ Chg (FW k p rb n pp bb) W W' := by
  by_cases hf : (0 ≤ x ∧ x < 32) ∧ lkOB s.Rn x = false ∧ busyW n s.on c = 2
  · rw [beginW_full hf]
    refine (begin_full h c x hf.1 hf.2.1 hf.2.2).mono ?_
    rintro e W' ⟨rfl, rfl⟩
    exact ⟨rfl, h, Chg.refl _ _⟩
  · rw [beginW_not hf]
    by_cases he : (begM n s.Q s.Rn c x).2.2 = 0
    · rw [if_pos he]; exact begin_ok h c x hf he
    · rw [if_neg he]; exact begin_err h c x hf he
end
/-! ### New -/
theorem cntTo_zero (v : Int) (hv : v ≠ 0) : ∀ k, cntTo (fun _ => 0) v k = 0
  | 0 => rfl
  | k + 1 => by unfold cntTo; rw [cntTo_zero v hv k, if_neg (fun e => hv e.symm)]
theorem zeroW (p n : Nat) : (Try.zeroCells71.setIfInBounds 0 (.pointer (some ⟨p, 0, none⟩))).setIfInBounds 1 (.int .i64 (n : Int)) = (workC p n (fun _ => false) (fun _ => 0) (fun _ => 0)).toArray := by kernel_rfl
set_option maxRecDepth 100000 in
set_option maxHeartbeats 1000000 in
theorem WI.start {n : Nat} (h1 : 1 ≤ n) (h2 : n ≤ 64) (w : World) : Calls Try.prog 8 #[.int .i64 n] w fun e W' => ∃ k p rb cap pp bb, e = .returned (.tuple #[.pointer (some ⟨k, 0, none⟩), .int .i64 0]) ∧ WI w k p rb cap n pp bb WS.zero W' := by
  have hst := PR.start h1 h2 w
  replace hst := Lib.hid hst
  go_enter Try.func8, Try.ntmps8
  go_wp2_with fail
  refine hst.out.mono ?_
  rintro e W1 ⟨p, rb, cap, pp, bb, rfl, hP⟩
  have hfin : WI w W1.heap.size p rb cap n pp bb WS.zero (W1.alloc (.cells ((Try.zeroCells71.setIfInBounds 0 (.pointer (some ⟨p, 0, none⟩))).setIfInBounds 1 (.int .i64 (n : Int))) 71)) := by
    rw [zeroW]
    have hk := hP.kept (Keeps.alloc W1 (.cells (workC p n (fun _ => false) (fun _ => 0) (fun _ => 0)).toArray 71))
    refine ⟨Blk.new W1 _ _, hk, hP.keeps.size, fun hf => by have := hP.foot_lt _ hf; omega, h2, fun _ => ⟨by show (0 : Int) ≤ 0; omega, by show (0 : Int) ≤ 16; omega⟩, fun c hc => ?_, fun _ => by show (0 : Int) ≤ 0; omega, fun _ _ => rfl⟩
    show cntTo (fun _ => 0) (c + 1) 32 ≤ 2
    rw [cntTo_zero _ (by omega)]; omega
  replace hfin := Lib.hid hfin
  clear hP hst
  go_wp2_with fail
  go_ret2
  exact ⟨_, p, rb, cap, pp, bb, rfl, hfin.out⟩
/-! ### Nil works -/
section
variable (w : World)
set_option maxHeartbeats 400000 in
theorem wset_nil (id pr : Int) : Calls Try.prog 9 #[.pointer none, .int .i64 id, .int .i64 pr] w fun e w' => e = .returned (.int .i64 6) ∧ Keeps w w' := by
  have hw := fun g lb W => with_nil id g lb W
  replace hw := Lib.hid hw
  go_enter Try.func9, Try.ntmps9
  go_wp2_with fail
  refine (hw.out _ _ _).mono ?_
  rintro e w' ⟨rfl, rfl⟩
  go_wp2_with fail
  go_ret
  exact ⟨rfl, Keeps.alloc _ _⟩
set_option maxHeartbeats 400000 in
theorem wpost_nil (id c : Int) : Calls Try.prog 10 #[.pointer none, .int .i64 id, .int .i64 c] w fun e w' => e = .returned (.int .i64 6) ∧ Keeps w w' := by
  have hw := fun g lb W => with_nil id g lb W
  replace hw := Lib.hid hw
  go_enter Try.func10, Try.ntmps10
  go_wp2_with fail
  refine (hw.out _ _ _).mono ?_
  rintro e w' ⟨rfl, rfl⟩
  go_wp2_with fail
  go_ret
  exact ⟨rfl, ((Keeps.alloc _ _).trans (Keeps.alloc _ _)).trans (Keeps.alloc _ _)⟩
set_option maxHeartbeats 400000 in
theorem wstop_nil (id : Int) : Calls Try.prog 16 #[.pointer none, .int .i64 id] w fun e w' => e = .returned (.tuple #[.bool false, .int .i64 6]) ∧ Keeps w w' := by
  have hw := fun g lb W => with_nil id g lb W
  replace hw := Lib.hid hw
  go_enter Try.func16, Try.ntmps16
  go_wp2_with fail
  refine (hw.out _ _ _).mono ?_
  rintro e w' ⟨rfl, rfl⟩
  go_wp2_with fail
  go_ret2
  exact ⟨rfl, ((Keeps.alloc _ _).trans (Keeps.alloc _ _)).trans (Keeps.alloc _ _)⟩
set_option maxHeartbeats 400000 in
theorem wclear_nil (id : Int) : Calls Try.prog 19 #[.pointer none, .int .i64 id] w fun e w' => e = .returned (.int .i64 6) ∧ Keeps w w' := by
  have hw := fun g lb W => with_nil id g lb W
  replace hw := Lib.hid hw
  go_enter Try.func19, Try.ntmps19
  go_wp2_with fail
  refine (hw.out _ _ _).mono ?_
  rintro e w' ⟨rfl, rfl⟩
  go_wp2_with fail
  go_ret
  exact ⟨rfl, (Keeps.alloc _ _).trans (Keeps.alloc _ _)⟩
set_option maxHeartbeats 400000 in
theorem wbegin_nil (c x : Int) : Calls Try.prog 11 #[.pointer none, .int .i64 c, .int .i64 x] w fun e w' => e = .returned (.tuple #[.int .i64 0, .int .i64 0, .int .i64 6]) ∧ w = w' := by
  go_enter Try.func11, Try.ntmps11
  go_wp2_with fail
  go_ret3
  exact ⟨rfl, rfl⟩
set_option maxHeartbeats 400000 in
theorem wend_nil (x : Int) : Calls Try.prog 14 #[.pointer none, .int .i64 x] w fun e w' => e = .returned (.tuple #[.int .i64 0, .int .i64 6]) ∧ w = w' := by
  have hi := inner_nil w
  have he := pend_nil x w
  replace hi := Lib.hid hi
  replace he := Lib.hid he
  go_enter Try.func14, Try.ntmps14
  go_wp2_with fail
  refine hi.out.mono ?_
  rintro e w' ⟨rfl, rfl⟩
  go_wp2_with fail
  refine he.out.mono ?_
  rintro e w' ⟨rfl, rfl⟩
  go_wp2_with fail
  go_ret2
  exact ⟨rfl, rfl⟩
set_option maxHeartbeats 400000 in
theorem wready_nil (c : Int) : Calls Try.prog 22 #[.pointer none, .int .i64 c] w fun e w' => e = .returned (.tuple #[.int .i64 0, .bool false]) ∧ w = w' := by
  have hi := inner_nil w
  have he := ready_nil c w
  replace hi := Lib.hid hi
  replace he := Lib.hid he
  go_enter Try.func22, Try.ntmps22
  go_wp2_with fail
  refine hi.out.mono ?_
  rintro e w' ⟨rfl, rfl⟩
  go_wp2_with fail
  refine he.out.mono ?_
  rintro e w' ⟨rfl, rfl⟩
  go_wp2_with fail
  go_ret2
  exact ⟨rfl, rfl⟩
set_option maxHeartbeats 400000 in
theorem wruns_nil (id : Int) : Calls Try.prog 12 #[.pointer none, .int .i64 id] w fun e w' => e = .returned (.tuple #[.int .i64 0, .bool false]) ∧ w = w' := by
  have hi := inner_nil w
  have he := runs_nil id w
  replace hi := Lib.hid hi
  replace he := Lib.hid he
  go_enter Try.func12, Try.ntmps12
  go_wp2_with fail
  refine hi.out.mono ?_
  rintro e w' ⟨rfl, rfl⟩
  go_wp2_with fail
  refine he.out.mono ?_
  rintro e w' ⟨rfl, rfl⟩
  go_wp2_with fail
  go_ret2
  exact ⟨rfl, rfl⟩
set_option maxHeartbeats 400000 in
theorem wof_nil (id : Int) : Calls Try.prog 41 #[.pointer none, .int .i64 id] w fun e w' => e = .returned (.agg #[.bool false, .int .i64 0]) ∧ Keeps w w' := by
  have hz := zeroOne
  have hw := fun g lb W => with_nil id g lb W
  obtain ⟨W2, hW2⟩ : ∃ W2, W2 = (w.alloc (.cells #[.bool false, .int .i64 0] 68)).alloc (.cells #[.bool false, .int .i64 0] 68) := ⟨_, rfl⟩
  have hA : Blk W2 w.heap.size 68 (oneC false 0) := by rw [hW2]; exact (Blk.new w _ (oneC false 0)).alloc _
  have hB : Blk W2 (w.heap.size + 1) 68 (oneC false 0) := by
    have := Blk.new (w.alloc (.cells #[.bool false, .int .i64 0] 68)) 68 (oneC false 0)
    rw [World.size_alloc] at this; rw [hW2]; exact this
  have hK : Keeps w W2 := by rw [hW2]; exact (Keeps.alloc _ _).trans (Keeps.alloc _ _)
  replace hw := Lib.hid hw
  replace hW2 := Lib.hid hW2
  go_enter Try.func41, Try.ntmps41
  go_wp2_with fail
  refine (hw.out _ _ _).mono ?_
  rintro e w' ⟨rfl, hw'⟩
  rw [← hW2.out] at hw'
  subst hw'
  have c1 : W2.cell? ⟨w.heap.size + 1, 0, none⟩ = some (.bool false) := hB.cell 0 (by simp [oneC])
  have c2 : W2.cell? ⟨w.heap.size + 1, 1, none⟩ = some (.int .i64 0) := hB.cell 1 (by simp [oneC])
  have d1 : W2.cell? ⟨w.heap.size, 0, none⟩ = some (.bool false) := hA.cell 0 (by simp [oneC])
  have d2 : W2.cell? ⟨w.heap.size, 1, none⟩ = some (.int .i64 0) := hA.cell 1 (by simp [oneC])
  have f1 := hA.frozen 0
  have f2 := hA.frozen 1
  have hS : Blk ((W2.setCell ⟨w.heap.size, 0, none⟩ (.bool false)).setCell ⟨w.heap.size, 1, none⟩ (.int .i64 0)) w.heap.size 68 [.bool false, .int .i64 0] := (hA.set 0 _).set 1 _
  have hKS : Keeps w ((W2.setCell ⟨w.heap.size, 0, none⟩ (.bool false)).setCell ⟨w.heap.size, 1, none⟩ (.int .i64 0)) := Chg.keeps ((Chg.setCell (S := (· = w.heap.size)) 0 _ rfl).trans (Chg.setCell 1 _ rfl)) hK (fun x hx e => by omega)
  replace hS := Lib.hid hS
  replace hKS := Lib.hid hKS
  clear hB hA hK hw hW2
  go_wp2_with fail
  refine bodyPost_ret (results_row rfl _ hS.out rfl _ Try.underlying68 rfl 2 one_size rfl) rfl ⟨rfl, hKS.out⟩
set_option maxHeartbeats 400000 in
theorem wstate_nil (id : Int) : Calls Try.prog 18 #[.pointer none, .int .i64 id] w fun e w' => e = .returned (.int .i64 0) ∧ Keeps w w' := by
  have hof := wof_nil w id
  replace hof := Lib.hid hof
  go_enter Try.func18, Try.ntmps18
  go_wp2_with fail
  refine hof.out.mono ?_
  rintro e w' ⟨rfl, hK⟩
  replace hK := Lib.hid hK
  go_wp2_with fail
  go_ret
  exact ⟨rfl, hK.out.trans (Keeps.alloc _ _)⟩
set_option maxHeartbeats 400000 in
theorem wprog_nil (id : Int) : Calls Try.prog 27 #[.pointer none, .int .i64 id] w fun e w' => e = .returned (.tuple #[.int .i64 0, .bool false]) ∧ Keeps w w' := by
  have hof := wof_nil w id
  replace hof := Lib.hid hof
  go_enter Try.func27, Try.ntmps27
  go_wp2_with fail
  refine hof.out.mono ?_
  rintro e w' ⟨rfl, hK⟩
  replace hK := Lib.hid hK
  go_wp2_with fail
  go_region
  all_goals
    go_wp2
    go_ret2
    exact ⟨rfl, (hK.out.trans (Keeps.alloc _ _)).trans (Keeps.drew _)⟩
end
set_option maxRecDepth 100000 in
set_option maxHeartbeats 400000 in
theorem wshut_nil (W : World) (b0 : Nat) (x : Int) (t0 : TypeId) (hb0 : Blk W b0 t0 [.int .i64 x]) : Calls Try.prog 17 #[.pointer none, .slice (some ⟨b0, 0, none⟩) 1 1] W fun e w' => e = .returned (.int .i64 0) ∧ Keeps W w' := by
  have hw := fun g lb W => with_nil x g lb W
  have c0 := hb0.cell 0 (by simp)
  simp only [List.getElem_cons_zero] at c0
  have hbl := hb0.lt
  have hbl2 := cell_lt c0
  replace hw := Lib.hid hw
  clear hb0
  go_enter Try.func17, Try.ntmps17
  go_wp2_with fail
  go_loopw [10] (fun i wr => (i = .int .i64 0 ∨ i = .int .i64 1) ∧ Boxed wr W.heap.size 24 (.pointer none) ∧ Boxed wr (W.heap.size + 1) 3 (.int .i64 0) ∧ Keeps W wr) (fun i _ => 1 - (intOf i).toNat)
  case atStart =>
    have b1 := Boxed.new (W.alloc (.cells #[.pointer none] 24)) 3 (.int .i64 0)
    simp only [World.size_alloc] at b1
    exact ⟨.inl rfl, (Boxed.new W _ _).alloc _, b1, (Keeps.alloc _ _).trans (Keeps.alloc _ _)⟩
  case round =>
    obtain ⟨hi, hB, hN, hK⟩ := hrel
    have cw := hB.cell
    have cn := hN.cell
    have cx := (hK.cell (p := ⟨b0, 0, none⟩) hbl2).trans c0
    have hBl := hB.lt
    rcases hi with rfl | rfl
    · have hB2 : Boxed (wr.alloc (.cells #[.int .i64 x] 3)) W.heap.size 24 (.pointer none) := hB.alloc _
      have hN2 : Boxed (wr.alloc (.cells #[.int .i64 x] 3)) (W.heap.size + 1) 3 (.int .i64 0) := hN.alloc _
      have eB := World.new_ne wr _ cw
      replace hB2 := Lib.hid hB2
      replace hN2 := Lib.hid hN2
      replace hK := Lib.hid hK
      clear hB hN
      go_wp2_with fail
      refine (hw.out _ _ _).mono ?_
      rintro e w' ⟨rfl, rfl⟩
      go_wp2_with fail
      go_roundw
      case rel => exact ⟨.inr rfl, hB2.out, hN2.out, hK.out.trans (Keeps.alloc _ _)⟩
      case measure => (simp [intOf]; try omega)
    · replace hK := Lib.hid hK
      clear hB hN
      go_wp2_with fail
      go_ret
      exact ⟨rfl, hK.out⟩
theorem WI.shut1 {w W : World} {k p rb cap n : Nat} {pp bb : Nat → Nat} {s : WS} (h : WI w k p rb cap n pp bb s W) (x : Int) (b0 : Nat) (hb : b0 = W.heap.size) : Calls Try.prog 17 #[.pointer (some ⟨k, 0, none⟩), .slice (some ⟨b0, 0, none⟩) 1 1] (W.alloc (.cells #[.int .i64 x] 3)) fun e W' =>
    e = .returned (.int .i64 ((shutL s [x]).2 : Nat)) ∧ WI w k p rb cap n pp bb (shutL s [x]).1 W' ∧ Chg (FW k p rb n pp bb) (W.alloc (.cells #[.int .i64 x] 3)) W' := by
  subst hb
  have h1 := h.blk.lt
  exact (h.kept (Keeps.alloc _ _)).shut (ids := [x]) (by simp) (Blk.new W 3 [.int .i64 x]) (h.sep (Nat.le_refl _)) (by omega)
end Go.Proofs.Ytcggbfpangnllaa
