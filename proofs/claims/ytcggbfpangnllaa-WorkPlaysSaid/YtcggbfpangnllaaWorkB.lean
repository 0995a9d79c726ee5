/- The works: what is done with one: the walks. -/
import Derived.Test.YtcggbfpangnllaaWorkA
import Derived.Deep.RegionHeld3
namespace Go.Proofs.Ytcggbfpangnllaa
open Go.RowKit Go.Shelf i64
attribute [local go_sem] Oper.semAt_some
section
variable {w W W' : World} {k p rb cap n : Nat} {pp bb : Nat → Nat} {s : WS}
set_option maxRecDepth 100000 in
set_option maxHeartbeats 1000000 in
theorem postDo_any (h : WI w k p rb cap n pp bb s W) {i bc bw bi : Nat} (hi : i < 256) (c : Int) (hbc : Boxed W bc 3 (.int .i64 c)) (hbw : Boxed W bw 24 (.pointer (some ⟨k, 0, none⟩))) (hbi : Boxed W bi 3 (.int .i64 i)) (hF : ∀ b, (b = bc ∨ b = bw ∨ b = bi) → ¬ Foot p rb n pp bb b) :
    Calls Try.prog 31 (#[.pointer (some ⟨k, 2 + i * 2, none⟩)] ++ #[.pointer (some ⟨bc, 0, none⟩), .pointer (some ⟨bw, 0, none⟩), .pointer (some ⟨bi, 0, none⟩)]) W fun e w' =>
      e = .returned (.int .i64 (postW n s i c).2) ∧ WI w k p rb cap n pp bb (postW n s i c).1 w' ∧ Chg (FW k p rb n pp bb) W w' := by
  show Calls Try.prog 31 #[.pointer (some ⟨k, 2 + i * 2, none⟩), .pointer (some ⟨bc, 0, none⟩), .pointer (some ⟨bw, 0, none⟩), .pointer (some ⟨bi, 0, none⟩)] W _
  have cc := hbc.cell
  have cw := hbw.cell
  have ci := hbi.cell
  have c0 := h.c0
  have c1 := h.c1
  have cs := h.cSh i hi
  have cp := h.cPr i hi
  clear hbc hbw hbi
  unfold postW
  rw [if_neg (not_not_intro (show inId (i : Int) by unfold inId; omega)), show ((i : Int)).toNat = i from rfl]
  by_cases h1 : c < 0
  · have hd : decide (c < 0) = true := decide_eq_true h1
    rw [if_pos (.inl h1)]
    replace h := Lib.hid h
    replace h1 := Lib.hid h1
    go_enter Try.func31, Try.ntmps31
    go_wp2_with fail
    go_quiet (fail)
    go_wp2_with fail
    go_ret
    exact ⟨rfl, h.out.kept (Keeps.drewN _ _), Chg.of_keeps (Keeps.drewN _ _)⟩
  · have hd1 : decide (c < 0) = false := decide_eq_false h1
    have hx1 : ¬ c < 0 := h1
    by_cases h2 : (n : Int) ≤ c
    · have hd : decide ((n : Int) ≤ c) = true := decide_eq_true h2
      rw [if_pos (.inr h2)]
      replace h := Lib.hid h
      go_enter Try.func31, Try.ntmps31
      go_wp2_with fail
      go_quiet (fail)
      go_wp2_with fail
      go_ret
      exact ⟨rfl, h.out.kept (Keeps.drewN _ _), Chg.of_keeps (Keeps.drewN _ _)⟩
    · have hd : decide ((n : Int) ≤ c) = false := decide_eq_false h2
      rw [if_neg (show ¬ (c < 0 ∨ (n : Int) ≤ c) by omega)]
      cases hs : s.sh i with
      | true =>
        rw [hs] at cs
        rw [if_pos rfl]
        replace h := Lib.hid h
        go_enter Try.func31, Try.ntmps31
        go_wp2_with fail
        go_quiet (fail)
        go_wp2_with fail
        go_ret
        exact ⟨rfl, h.out.kept (Keeps.drewN _ _), Chg.of_keeps (Keeps.drewN _ _)⟩
      | false =>
        rw [hs] at cs
        rw [if_neg (by decide)]
        by_cases hp : s.pr i = 0
        · have hq : (s.pr i == 0) = true := by simpa using hp
          rw [if_pos hp]
          replace h := Lib.hid h
          replace hp := Lib.hid hp
          go_enter Try.func31, Try.ntmps31
          go_wp2_with fail
          go_quiet (fail)
          go_wp2_with fail
          go_ret
          exact ⟨rfl, h.out.kept (Keeps.drewN _ _), Chg.of_keeps (Keeps.drewN _ _)⟩
        · have hq : (s.pr i == 0) = false := by simpa using hp
          rw [if_neg hp]
          replace hp := Lib.hid hp
          have hb := h.blk.lt
          go_enter Try.func31, Try.ntmps31
          go_wp2_with fail
          go_quiet (fail)
          have hadd : ∀ m, Calls Try.prog 32 #[.pointer (some ⟨p, 0, none⟩), .int .i64 c, .slice (some ⟨W.heap.size, 0, none⟩) 1 1] ((W.drewN m).alloc (.cells #[.int .i64 i] 3)) fun e W' => e = .returned (.int .i64 (addC n s.Q c [(i : Int)]).2) ∧ WI w k p rb cap n pp bb { s with Q := (addC n s.Q c [(i : Int)]).1 } W' ∧ Chg (Foot p rb n pp bb) ((W.drewN m).alloc (.cells #[.int .i64 i] 3)) W' := fun m => (h.kept (Keeps.drewN W m)).addS c i _ (Keeps.refl _)
          have hfar : ∀ b, (b = bc ∨ b = bw ∨ b = bi) → ∀ m W' v, W.cell? ⟨b, 0, none⟩ = some v → Chg (Foot p rb n pp bb) ((W.drewN m).alloc (.cells #[.int .i64 i] 3)) W' → W'.cell? ⟨b, 0, none⟩ = some v := fun b hb m W' v hc hC => by
            have hK : Keeps W ((W.drewN m).alloc (.cells #[.int .i64 i] 3)) := (Keeps.drewN W m).trans (Keeps.alloc _ _)
            have h1 := (hK.cell (p := ⟨b, 0, none⟩) (cell_lt hc)).trans hc
            exact (hC.cell'' (p := ⟨b, 0, none⟩) (cell_lt h1) (hF b hb)).trans h1
          replace hadd := Lib.hid hadd
          replace hfar := Lib.hid hfar
          clear h hF
          have e0 := World.new_ne W _ c0
          have e1 := World.new_ne W _ cc
          have e2 := World.new_ne W _ cw
          have e3 := World.new_ne W _ ci
          go_wp2_with fail
          go_region_held3 (fun w' => w'.cell? ⟨k, 0, none⟩ = some (.pointer (some ⟨p, 0, none⟩)) ∧ w'.cell? ⟨bc, 0, none⟩ = some (.int .i64 c) ∧ w'.cell? ⟨bw, 0, none⟩ = some (.pointer (some ⟨k, 0, none⟩)) ∧ w'.cell? ⟨bi, 0, none⟩ = some (.int .i64 i))
            (first
              | go_keep
              | (exact ⟨hI.out.c0, hfar.out _ (.inl rfl) _ _ _ cc hC.out, hfar.out _ (.inr (.inl rfl)) _ _ _ cw hC.out, hfar.out _ (.inr (.inr rfl)) _ _ _ ci hC.out⟩))
            (first | (go_at_call 32; with_reducible refine (hadd.out _).mono ?_; rintro e w2 ⟨rfl, hI, hC⟩; replace hI := Lib.hid hI; replace hC := Lib.hid hC))
          all_goals go_wp2_with fail
          all_goals go_ret
          all_goals exact ⟨rfl, hI.out, (Chg.of_keeps ((Keeps.drewN W _).trans (Keeps.alloc _ _))).trans hC.out.fw⟩
set_option maxRecDepth 100000 in
set_option maxHeartbeats 1000000 in
theorem WI.set (h : WI w k p rb cap n pp bb s W) (id prog : Int) : Calls Try.prog 9 #[.pointer (some ⟨k, 0, none⟩), .int .i64 id, .int .i64 prog] W fun e W' =>
    e = .returned (.int .i64 (setW s id prog).2) ∧ WI w k p rb cap n pp bb (setW s id prog).1 W' ∧ Chg (FW k p rb n pp bb) W W' := by
  have hw : Calls Try.prog 29 #[.pointer (some ⟨k, 0, none⟩), .int .i64 id, .func (.func 30) #[] #[.pointer (some ⟨W.heap.size, 0, none⟩)]] (W.alloc (.cells #[.int .i64 prog] 3)) fun e w' => ∃ x, e = .returned (.int .i64 x) ∧ (x = (setW s id prog).2 ∧ WI w k p rb cap n pp bb (setW s id prog).1 w' ∧ Chg (FW k p rb n pp bb) W w') := by
    have hk := h.kept (Keeps.alloc W (.cells #[.int .i64 prog] 3))
    have hC0 : Chg (FW k p rb n pp bb) W (W.alloc (.cells #[.int .i64 prog] 3)) := Chg.of_keeps (Keeps.alloc _ _)
    refine with_any (enters_of Try.func30 (by kernel_rfl) rfl) (fun ho => ?_) fun i hid hi => ?_
    · unfold setW; rw [if_pos ho]; exact ⟨rfl, hk, hC0⟩
    · subst hid
      refine (setDo_any hk.blk hi prog (Boxed.new W _ _)).mono ?_
      rintro e w' ⟨rfl, rfl⟩
      refine ⟨_, rfl, ?_⟩
      unfold setW
      rw [if_neg (not_not_intro (inId_nat hi)), show ((i : Int)).toNat = i from rfl]
      by_cases h1 : prog < 0 ∨ 15 < prog
      · rw [if_pos h1, if_pos h1, if_pos h1]; exact ⟨rfl, hk, hC0⟩
      · rw [if_neg h1, if_neg h1, if_neg h1]
        cases hs : s.sh i with
        | true => exact ⟨rfl, hk, hC0⟩
        | false => exact ⟨rfl, hk.setPr i hi (prog + 1) (by omega), hC0.trans (Chg.fwK _ _)⟩
  replace hw := Lib.hid hw
  clear h
  go_enter Try.func9, Try.ntmps9
  go_wp2_with fail
  refine hw.out.mono ?_
  rintro e w' ⟨x, rfl, rfl, hI, hC⟩
  replace hI := Lib.hid hI
  replace hC := Lib.hid hC
  go_wp2_with fail
  go_ret
  exact ⟨rfl, hI.out, hC.out⟩
set_option maxRecDepth 100000 in
set_option maxHeartbeats 1000000 in
theorem WI.post (h : WI w k p rb cap n pp bb s W) (id c : Int) : Calls Try.prog 10 #[.pointer (some ⟨k, 0, none⟩), .int .i64 id, .int .i64 c] W fun e W' =>
    e = .returned (.int .i64 (postW n s id c).2) ∧ WI w k p rb cap n pp bb (postW n s id c).1 W' ∧ Chg (FW k p rb n pp bb) W W' := by
  have hw : Calls Try.prog 29 #[.pointer (some ⟨k, 0, none⟩), .int .i64 id, .func (.func 31) #[] #[.pointer (some ⟨W.heap.size + 1 + 1, 0, none⟩), .pointer (some ⟨W.heap.size, 0, none⟩), .pointer (some ⟨W.heap.size + 1, 0, none⟩)]]
      (((W.alloc (.cells #[.pointer (some ⟨k, 0, none⟩)] 24)).alloc (.cells #[.int .i64 id] 3)).alloc (.cells #[.int .i64 c] 3)) fun e w' => ∃ x, e = .returned (.int .i64 x) ∧ (x = (postW n s id c).2 ∧ WI w k p rb cap n pp bb (postW n s id c).1 w' ∧ Chg (FW k p rb n pp bb) W w') := by
    have hK0 := (Keeps.alloc W (.cells #[.pointer (some ⟨k, 0, none⟩)] 24)).trans ((Keeps.alloc _ (.cells #[.int .i64 id] 3)).trans (Keeps.alloc _ (.cells #[.int .i64 c] 3)))
    have hk := h.kept hK0
    refine with_any (enters_of Try.func31 (by kernel_rfl) rfl) (fun ho => ?_) fun i hid hi => ?_
    · unfold postW; rw [if_pos ho]; exact ⟨rfl, hk, Chg.of_keeps hK0⟩
    · subst hid
      have b2 := Boxed.new ((W.alloc (.cells #[.pointer (some ⟨k, 0, none⟩)] 24)).alloc (.cells #[.int .i64 (i : Int)] 3)) 3 (.int .i64 c)
      have b1 := Boxed.new (W.alloc (.cells #[.pointer (some ⟨k, 0, none⟩)] 24)) 3 (.int .i64 (i : Int))
      have b0 := Boxed.new W 24 (.pointer (some ⟨k, 0, none⟩))
      simp only [World.size_alloc] at b1 b2
      refine (postDo_any hk hi c b2 ((b0.alloc _).alloc _) (b1.alloc _) ?_).mono ?_
      · intro b hb
        refine h.sep ?_
        omega
      · rintro e w' ⟨rfl, hI, hC⟩
        exact ⟨_, rfl, rfl, hI, (Chg.of_keeps hK0).trans hC⟩
  replace hw := Lib.hid hw
  clear h
  go_enter Try.func10, Try.ntmps10
  go_wp2_with fail
  refine hw.out.mono ?_
  rintro e w' ⟨x, rfl, rfl, hI, hC⟩
  replace hI := Lib.hid hI
  replace hC := Lib.hid hC
  go_wp2_with fail
  go_ret
  exact ⟨rfl, hI.out, hC.out⟩
end
end Go.Proofs.Ytcggbfpangnllaa
