/- Begin, End. -/
import Derived.Test.YtcggbfpangnllaaPendE
import Derived.RegionTactic
import Derived.BigRegion
namespace Go.Proofs.Ytcggbfpangnllaa
open Go.RowKit Go.Shelf i64
attribute [local go_sem] Oper.semAt_some

theorem wrap_small (z : Int) (h : 0 ≤ z ∧ z < 1000000) : wrap64 z = z := by unfold wrap64; omega
section
variable {w : World} {p rb cap n : Nat} {pp bb : Nat → Nat} {rest : List Value} {fr fo : Nat → Int} {R : List (List Int)}
set_option maxHeartbeats 400000 in
theorem pend_nil (c : Int) (w : World) : Calls Try.prog 37 #[.pointer none, .int .i64 c] w fun e w' => e = .returned (.tuple #[.int .i64 0, .int .i64 6]) ∧ w = w' := by
  go_enter Try.func37, Try.ntmps37
  go_wp2
  go_ret2
  exact ⟨rfl, rfl⟩
set_option maxHeartbeats 400000 in
theorem pend_no (h : PendAt w p rb cap n pp bb (restL fr fo) R) (c : Int) (hc : ¬ (0 ≤ c ∧ c < 32) ∨ ∃ k : Nat, k < 32 ∧ c = k ∧ fo k = 0) : Calls Try.prog 37 #[.pointer (some ⟨p, 0, none⟩), .int .i64 c] w fun e w' => e = .returned (.tuple #[.int .i64 0, .int .i64 4]) ∧ w = w' := by
  have ho : ∃ z, Calls Try.prog 33 #[.pointer (some ⟨p, 0, none⟩), .int .i64 c] w fun e w' => e = .returned (.tuple #[.int .i64 z, .bool false]) ∧ w = w' := by
    rcases hc with hc | ⟨k, hk, rfl, h0⟩
    · exact ⟨_, of_no p w c hc⟩
    · have := of_any h k hk
      rw [h0] at this
      exact ⟨_, this⟩
  obtain ⟨z, ho⟩ := ho
  replace ho := Lib.hid ho
  clear h hc
  go_enter Try.func37, Try.ntmps37
  go_wp2_with fail
  refine ho.out.mono ?_
  rintro e w' ⟨rfl, rfl⟩
  go_wp2_with fail
  go_ret2
  exact ⟨rfl, rfl⟩
set_option maxHeartbeats 1000000 in
theorem pend_yes (h : PendAt w p rb cap n pp bb (restL fr fo) R) (c x : Nat) (hc : c < 32) (hx : x < 256) (h0 : fo c = (x : Int) + 1) : Calls Try.prog 37 #[.pointer (some ⟨p, 0, none⟩), .int .i64 c] w fun e w' => e = .returned (.tuple #[.int .i64 x, .int .i64 0]) ∧ PendAt w' p rb cap n pp bb (restL (updI fr x 0) (updI fo c 0)) R ∧ Chg (· = p) w w' := by
  have ho := of_any h c hc
  rw [h0, if_neg (by omega), show (x : Int) + 1 - 1 = x by omega, wrap_small _ (by omega), show (((x : Int) + 1) != 0) = true by simp; omega] at ho
  have c1 := h.cFr x hx
  have c2 := h.cFo c hc
  rw [h0] at c2
  have f1 := h.hdr.frozen (1 + x)
  have f2 := h.hdr.frozen (257 + c)
  have hA1 := h.setRest x (.int .i64 0)
  rw [restL_setR _ _ _ hx] at hA1
  have c3 := hA1.cFo c hc
  have f3 := hA1.hdr.frozen (257 + c)
  rw [Nat.add_comm x 1] at c3 f3
  have hA2 := h.setRest (256 + c) (.int .i64 0)
  rw [restL_setO] at hA2
  have c4 := hA2.cFr x hx
  have f4 := hA2.hdr.frozen (1 + x)
  rw [show 256 + c + 1 = 257 + c by omega] at c4 f4
  clear hA1 hA2
  have hA := (h.setRest x (.int .i64 0)).setRest (256 + c) (.int .i64 0)
  rw [restL_setR _ _ _ hx, restL_setO] at hA
  have hC : Chg (· = p) w ((w.setCell ⟨p, x + 1, none⟩ (.int .i64 0)).setCell ⟨p, 256 + c + 1, none⟩ (.int .i64 0)) := (Chg.setCell (S := (· = p)) _ _ rfl).trans (Chg.setCell (S := (· = p)) _ _ rfl)
  have hx0 : (0 : Int) ≤ (x : Int) := by omega
  have hx1 : (x : Int) < 256 := by omega
  have hc0 : (0 : Int) ≤ (c : Int) := by omega
  have hc1 : (c : Int) < 32 := by omega
  replace ho := Lib.hid ho
  replace hA := Lib.hid hA
  replace hC := Lib.hid hC
  clear h h0
  go_enter Try.func37, Try.ntmps37
  go_wp2_with fail
  refine ho.out.mono ?_
  rintro e w' ⟨rfl, rfl⟩
  go_wp2_with fail
  go_region
  all_goals
    go_wp2
    go_ret2
    refine ⟨rfl, ?_, ?_⟩
    · rw [Nat.add_comm 1 x, show 257 + c = 256 + c + 1 by omega]; exact hA.out.keeps (Keeps.drew _)
    · rw [Nat.add_comm 1 x, show 257 + c = 256 + c + 1 by omega]; exact hC.out.trans (Chg.of_keeps (Keeps.drew _))
set_option maxHeartbeats 400000 in
theorem begin_nil (a c : Int) (w : World) : Calls Try.prog 34 #[.pointer none, .int .i64 a, .int .i64 c] w fun e w' => e = .returned (.tuple #[.int .i64 0, .int .i64 6]) ∧ w = w' := by
  go_enter Try.func34, Try.ntmps34
  go_wp2
  go_ret2
  exact ⟨rfl, rfl⟩
set_option maxHeartbeats 1000000 in
theorem begin_cpu (h : PendAt w p rb cap n pp bb rest R) (a c : Int) (ha : a < 0 ∨ (n : Int) ≤ a) : Calls Try.prog 34 #[.pointer (some ⟨p, 0, none⟩), .int .i64 a, .int .i64 c] w fun e w' => e = .returned (.tuple #[.int .i64 0, .int .i64 2]) ∧ w = w' := by
  have hq := queue_out h a ha
  replace hq := Lib.hid hq
  clear h ha
  go_enter Try.func34, Try.ntmps34
  go_wp2_with fail
  refine hq.out.mono ?_
  rintro e w' ⟨rfl, rfl⟩
  go_wp2_with fail
  go_ret2
  exact ⟨rfl, rfl⟩
set_option maxHeartbeats 1000000 in
theorem begin_ctx (h : PendAt w p rb cap n pp bb rest R) (k : Nat) (hk : k < n) (c : Int) (hc : c < 0 ∨ 32 ≤ c) : Calls Try.prog 34 #[.pointer (some ⟨p, 0, none⟩), .int .i64 k, .int .i64 c] w fun e w' => e = .returned (.tuple #[.int .i64 0, .int .i64 2]) ∧ w = w' := by
  have hq := queue_in h k hk
  have hcase : c < 0 ∨ (¬ c < 0 ∧ 32 ≤ c) := by omega
  replace hq := Lib.hid hq
  clear h hc
  rcases hcase with h1 | ⟨h1, h2⟩
  all_goals
    go_enter Try.func34, Try.ntmps34
    go_wp2_with fail
    refine hq.out.mono ?_
    rintro e w' ⟨rfl, rfl⟩
    go_wp2_with fail
    go_ret2
    exact ⟨rfl, rfl⟩
set_option maxHeartbeats 1000000 in
theorem begin_twice (h : PendAt w p rb cap n pp bb (restL fr fo) R) (k c : Nat) (hk : k < n) (hc : c < 32) (h0 : 0 < fo c) : Calls Try.prog 34 #[.pointer (some ⟨p, 0, none⟩), .int .i64 k, .int .i64 c] w fun e w' => e = .returned (.tuple #[.int .i64 0, .int .i64 5]) ∧ w = w' := by
  have hq := queue_in h k hk
  have c2 := h.cFo c hc
  have g0 : (0 : Int) ≤ (c : Int) := by omega
  have g00 : ¬ (c : Int) < 0 := by omega
  have g1 : (c : Int) < 32 := by omega
  have g2 : ¬ (32 : Int) ≤ (c : Int) := by omega
  replace hq := Lib.hid hq
  clear h
  go_enter Try.func34, Try.ntmps34
  go_wp2_with fail
  refine hq.out.mono ?_
  rintro e w' ⟨rfl, rfl⟩
  go_wp2_with fail
  go_ret2
  exact ⟨rfl, rfl⟩
set_option maxHeartbeats 1000000 in
theorem begin_none (h : PendAt w p rb cap n pp bb (restL fr fo) R) (k c : Nat) (hk : k < n) (hc : c < 32) (h0 : fo c = 0) (hq0 : R.getD k [] = []) : Calls Try.prog 34 #[.pointer (some ⟨p, 0, none⟩), .int .i64 k, .int .i64 c] w fun e w' => e = .returned (.tuple #[.int .i64 0, .int .i64 4]) ∧ w = w' := by
  have hq := queue_in h k hk
  obtain ⟨hd, hR⟩ := h.ring k hk
  have hl := len_any hR
  rw [hq0] at hl
  have c2 := h.cFo c hc
  rw [h0] at c2
  have g0 : (0 : Int) ≤ (c : Int) := by omega
  have g00 : ¬ (c : Int) < 0 := by omega
  have g1 : (c : Int) < 32 := by omega
  have g2 : ¬ (32 : Int) ≤ (c : Int) := by omega
  replace hq := Lib.hid hq
  replace hl := Lib.hid hl
  clear h hR
  go_enter Try.func34, Try.ntmps34
  go_wp2_with fail
  refine hq.out.mono ?_
  rintro e w' ⟨rfl, rfl⟩
  go_wp2_with fail
  refine hq.out.mono ?_
  rintro e w' ⟨rfl, rfl⟩
  go_wp2_with fail
  refine hl.out.mono ?_
  rintro e w' ⟨rfl, rfl⟩
  go_wp2_with fail
  go_ret2
  exact ⟨rfl, rfl⟩
set_option maxHeartbeats 1000000 in
theorem begin_busy (h : PendAt w p rb cap n pp bb (restL fr fo) R) (k c x : Nat) (xs : List Int) (hk : k < n) (hc : c < 32) (h0 : fo c = 0) (hx : x < 256) (hq0 : R.getD k [] = (x : Int) :: xs) (hfr : fr x ≠ 0) : Calls Try.prog 34 #[.pointer (some ⟨p, 0, none⟩), .int .i64 k, .int .i64 c] w fun e w' => e = .returned (.tuple #[.int .i64 0, .int .i64 21]) ∧ Keeps w w' := by
  have hq := queue_in h k hk
  obtain ⟨hd, hR⟩ := h.ring k hk
  have hl := len_any hR
  rw [hq0] at hl
  have hlen := hR.len
  rw [hq0] at hlen
  have hrd := ready_any h k hk x xs hq0 hx
  rw [show (fr x != 0) = true by simpa using hfr] at hrd
  have c2 := h.cFo c hc
  rw [h0] at c2
  have g0 : (0 : Int) ≤ (c : Int) := by omega
  have g00 : ¬ (c : Int) < 0 := by omega
  have g1 : (c : Int) < 32 := by omega
  have g2 : ¬ (32 : Int) ≤ (c : Int) := by omega
  have g3 : ((((x : Int) :: xs).length : Nat) : Int) ≠ 0 := by rw [List.length_cons]; omega
  replace hq := Lib.hid hq
  replace hl := Lib.hid hl
  replace hrd := Lib.hid hrd
  generalize ((x : Int) :: xs).length = ln at *
  clear h hR
  go_enter Try.func34, Try.ntmps34
  go_wp2_with fail
  refine hq.out.mono ?_
  rintro e w' ⟨rfl, rfl⟩
  go_wp2_with fail
  refine hq.out.mono ?_
  rintro e w' ⟨rfl, rfl⟩
  go_wp2_with fail
  refine hl.out.mono ?_
  rintro e w' ⟨rfl, rfl⟩
  go_wp2_with fail
  refine hrd.out.mono ?_
  rintro e w' ⟨rfl, hK⟩
  replace hK := Lib.hid hK
  go_wp2_with fail
  go_ret2
  exact ⟨rfl, hK.out⟩
set_option maxRecDepth 100000 in
set_option maxHeartbeats 2000000 in
theorem begin_yes (h : PendAt w p rb cap n pp bb (restL fr fo) R) (k c x : Nat) (xs : List Int) (hk : k < n) (hc : c < 32) (h0 : fo c = 0) (hx : x < 256) (hq0 : R.getD k [] = (x : Int) :: xs) (hfr : fr x = 0) : Calls Try.prog 34 #[.pointer (some ⟨p, 0, none⟩), .int .i64 k, .int .i64 c] w fun e w' => e = .returned (.tuple #[.int .i64 x, .int .i64 0]) ∧
    PendAt w' p rb cap n pp bb (restL (updI fr x ((c : Int) + 1)) (updI fo c ((x : Int) + 1))) (R.set k xs) ∧ Chg (Foot p rb n pp bb) w w' := by
  have hq := queue_in h k hk
  obtain ⟨hd, hR⟩ := h.ring k hk
  have hl := len_any hR
  rw [hq0] at hl
  have hlen := hR.len
  rw [hq0] at hlen
  have hrd := ready_any h k hk x xs hq0 hx
  rw [hfr] at hrd
  have c2 := h.cFo c hc
  rw [h0] at c2
  have g0 : (0 : Int) ≤ (c : Int) := by omega
  have g00 : ¬ (c : Int) < 0 := by omega
  have g1 : (c : Int) < 32 := by omega
  have g2 : ¬ (32 : Int) ≤ (c : Int) := by omega
  have g3 : ((((x : Int) :: xs).length : Nat) : Int) ≠ 0 := by rw [List.length_cons]; omega
  have g4 : (0 : Int) ≤ (x : Int) := by omega
  have g5 : (x : Int) < 256 := by omega
  have hq2 := fun w' (hK : Keeps w w') => queue_in (h.keeps hK) k hk
  have hpop := fun w' (hK : Keeps w w') => pop_yes (hd := hd) (x := (x : Int)) (xs := xs) (by rw [← hq0]; exact hR.keeps hK : RingAt w' (pp k) (bb k) 256 hd _)
  replace hq := Lib.hid hq
  replace hl := Lib.hid hl
  replace hrd := Lib.hid hrd
  replace hq2 := Lib.hid hq2
  replace hpop := Lib.hid hpop
  replace h := Lib.hid h
  replace hq0 := Lib.hid hq0
  generalize ((x : Int) :: xs).length = ln at *
  clear hR
  go_enter Try.func34, Try.ntmps34
  go_wp2_with fail
  refine hq.out.mono ?_
  rintro e w' ⟨rfl, rfl⟩
  go_wp2_with fail
  refine hq.out.mono ?_
  rintro e w' ⟨rfl, rfl⟩
  go_wp2_with fail
  refine hl.out.mono ?_
  rintro e w' ⟨rfl, rfl⟩
  go_wp2_with fail
  refine hrd.out.mono ?_
  rintro e w1 ⟨rfl, hK⟩
  replace hK := Lib.hid hK
  go_wp2_with fail
  refine (hq2.out w1 hK.out).mono ?_
  rintro e w2 ⟨rfl, rfl⟩
  go_wp2_with fail
  refine (hpop.out w1 hK.out).mono ?_
  rintro e w2 ⟨rfl, hR2, hM⟩
  have hA2 := (h.out.keeps hK.out).set hk hR2 hM.toChg
  have d1 := hA2.cFr x hx
  have d2 := hA2.cFo c hc
  have f1 := hA2.hdr.frozen (1 + x)
  have f2 := hA2.hdr.frozen (257 + c)
  have hA3 := hA2.setRest x (.int .i64 ((c : Int) + 1))
  have hA5 := hA3.setRest (256 + c) (.int .i64 ((x : Int) + 1))
  rw [restL_setR _ _ _ hx] at hA3 hA5
  rw [restL_setO] at hA5
  have d3 := hA3.cFo c hc
  have f3 := hA3.hdr.frozen (257 + c)
  rw [Nat.add_comm x 1] at d3 f3
  have hA4 := hA2.setRest (256 + c) (.int .i64 ((x : Int) + 1))
  rw [restL_setO] at hA4
  have d4 := hA4.cFr x hx
  have f4 := hA4.hdr.frozen (1 + x)
  rw [show 256 + c + 1 = 257 + c by omega] at d4 f4
  have hC : Chg (Foot p rb n pp bb) w ((w2.setCell ⟨p, x + 1, none⟩ (.int .i64 ((c : Int) + 1))).setCell ⟨p, 256 + c + 1, none⟩ (.int .i64 ((x : Int) + 1))) :=
    ((Chg.of_keeps hK.out).trans (Chg.toFoot hk hM.toChg)).trans ((Chg.setCell (S := Foot p rb n pp bb) _ _ (.inl rfl)).trans (Chg.setCell (S := Foot p rb n pp bb) _ _ (.inl rfl)))
  replace hA5 := Lib.hid hA5
  replace hC := Lib.hid hC
  clear hA2 hA3 hA4 hR2 hM c2 hlen g3
  go_wp2_with fail
  go_region
  all_goals
    go_wp2
    go_ret2
    refine ⟨rfl, ?_, ?_⟩
    · rw [Nat.add_comm 1 x, show 257 + c = 256 + c + 1 by omega]; exact hA5.out.keeps (Keeps.drew _)
    · rw [Nat.add_comm 1 x, show 257 + c = 256 + c + 1 by omega]; exact hC.out.trans (Chg.of_keeps (Keeps.drew _))
end
end Go.Proofs.Ytcggbfpangnllaa
