/- The works: Runs, Clear, of, State, Prog, Ready, End: the walks. -/
import Derived.Test.YtcggbfpangnllaaWorkC
namespace Go.Proofs.Ytcggbfpangnllaa
open Go.RowKit Go.Shelf i64
attribute [local go_sem] Oper.semAt_some
theorem inner_nil (w : World) : Calls Try.prog 35 #[.pointer none] w fun e w' => e = .returned (.pointer none) ∧ w = w' := by
  go_enter Try.func35, Try.ntmps35
  go_wp2
  go_ret
  exact ⟨rfl, rfl⟩
theorem one_size : (Try.prog.info? 68).map (·.size) = some 2 := by kernel_rfl
section
variable {w W W' : World} {k p rb cap n : Nat} {pp bb : Nat → Nat} {s : WS}
theorem inner_any (h : WI w k p rb cap n pp bb s W) : Calls Try.prog 35 #[.pointer (some ⟨k, 0, none⟩)] W fun e w' => e = .returned (.pointer (some ⟨p, 0, none⟩)) ∧ W = w' := by
  have c0 := h.c0
  clear h
  go_enter Try.func35, Try.ntmps35
  go_wp2
  go_ret
  exact ⟨rfl, rfl⟩
theorem WI.runs (h : WI w k p rb cap n pp bb s W) (id : Int) : Calls Try.prog 12 #[.pointer (some ⟨k, 0, none⟩), .int .i64 id] W fun e w' => e = .returned (.tuple #[.int .i64 (lkI s.Rn id), .bool (lkIB s.Rn id)]) ∧ W = w' := by
  have hi := inner_any h
  have hr := h.pr.runs id
  replace hi := Lib.hid hi
  replace hr := Lib.hid hr
  clear h
  go_enter Try.func12, Try.ntmps12
  go_wp2_with fail
  refine hi.out.mono ?_
  rintro e w' ⟨rfl, rfl⟩
  go_wp2_with fail
  refine hr.out.mono ?_
  rintro e w' ⟨rfl, rfl⟩
  go_wp2_with fail
  go_ret2
  exact ⟨rfl, rfl⟩
set_option maxRecDepth 100000 in
set_option maxHeartbeats 1000000 in
theorem clearDo_any (h : WI w k p rb cap n pp bb s W) {i bw bi : Nat} (hi : i < 256) (hbw : Boxed W bw 24 (.pointer (some ⟨k, 0, none⟩))) (hbi : Boxed W bi 3 (.int .i64 i))
    (hF : ∀ b, (b = bw ∨ b = bi) → ¬ Foot p rb n pp bb b ∧ b ≠ k ∧ w.heap.size ≤ b) :
    Calls Try.prog 43 (#[.pointer (some ⟨k, 2 + i * 2, none⟩)] ++ #[.pointer (some ⟨bw, 0, none⟩), .pointer (some ⟨bi, 0, none⟩)]) W fun e w' =>
      e = .returned (.int .i64 (clearW s i).2) ∧ WI w k p rb cap n pp bb (clearW s i).1 w' ∧ Chg (FW k p rb n pp bb) W w' := by
  show Calls Try.prog 43 #[.pointer (some ⟨k, 2 + i * 2, none⟩), .pointer (some ⟨bw, 0, none⟩), .pointer (some ⟨bi, 0, none⟩)] W _
  have cw := hbw.cell
  have ci := hbi.cell
  have c0 := h.c0
  have hr := h.runs i
  unfold clearW
  rw [if_neg (not_not_intro (inId_nat hi)), show ((i : Int)).toNat = i from rfl]
  cases hl : lkIB s.Rn i with
  | true =>
    rw [hl] at hr
    rw [if_pos rfl]
    generalize lkI s.Rn i = z at hr
    replace hr := Lib.hid hr
    replace h := Lib.hid h
    clear hbw hbi hF
    go_enter Try.func43, Try.ntmps43
    go_wp2_with fail
    refine hr.out.mono ?_
    rintro e w' ⟨rfl, rfl⟩
    go_wp2_with fail
    go_ret
    exact ⟨rfl, h.out, Chg.refl _ _⟩
  | false =>
    rw [hl] at hr
    rw [if_neg (by decide)]
    generalize lkI s.Rn i = z at hr
    have hdel := h.delF i
    generalize (if lkIB s.Q i then (1 : Int) else 0) = z2 at hdel
    have hfin := fun W2 (hI : WI w k p rb cap n pp bb { s with Q := s.Q.eraseP (·.1 == (i : Int)) } W2) => (hI.setSh i hi false).setPr i hi 0 (by omega)
    have hth := fun W2 (hI : WI w k p rb cap n pp bb { s with Q := s.Q.eraseP (·.1 == (i : Int)) } W2) => And.intro (hI.cSh i hi) (And.intro (hI.cPr i hi) (And.intro (hI.blk.frozen (2 + i * 2)) (hI.blk.frozen (2 + i * 2 + 1))))
    have hb := h.blk.lt
    have hfw := (hF bw (.inl rfl)).1
    have hfi := (hF bi (.inr rfl)).1
    have hn4 := (hF bw (.inl rfl)).2.1
    have hn5 := (hF bi (.inr rfl)).2.1
    replace hr := Lib.hid hr
    replace hdel := Lib.hid hdel
    replace hfin := Lib.hid hfin
    replace hth := Lib.hid hth
    replace hbw := Lib.hid hbw
    replace hbi := Lib.hid hbi
    replace hfw := Lib.hid hfw
    replace hfi := Lib.hid hfi
    replace hl := Lib.hid hl
    clear h hF
    have e0 := World.new_ne W _ c0
    have e2 := World.new_ne W _ cw
    have e3 := World.new_ne W _ ci
    go_enter Try.func43, Try.ntmps43
    go_wp2_with fail
    refine hr.out.mono ?_
    rintro e w' ⟨rfl, rfl⟩
    go_wp2_with fail
    go_region_held3 (fun w' => w'.cell? ⟨k, 0, none⟩ = some (.pointer (some ⟨p, 0, none⟩)) ∧ w'.cell? ⟨bw, 0, none⟩ = some (.pointer (some ⟨k, 0, none⟩)) ∧ w'.cell? ⟨bi, 0, none⟩ = some (.int .i64 i))
      (first
        | go_keep
        | (exact ⟨hI.out.c0, Boxed.cell (Blk.boxed (Blk.chg (Boxed.blk hbw.out) hB.out hfw.out)), Boxed.cell (Blk.boxed (Blk.chg (Boxed.blk hbi.out) hB.out hfi.out))⟩))
      (first | (go_at_call 39; with_reducible refine (hdel.out _ (Keeps.drew _)).mono ?_; rintro e w2 ⟨rfl, hI, hB⟩; replace hI := Lib.hid hI; replace hB := Lib.hid hB))
    obtain ⟨t1, t2, t3, t4⟩ := hth.out _ hI.out
    go_wp2_with fail
    go_ret
    exact ⟨rfl, hfin.out _ hI.out, hB.out.fw.trans ((Chg.fwK _ _).trans (Chg.fwK _ _))⟩
set_option maxRecDepth 100000 in
set_option maxHeartbeats 1000000 in
theorem WI.clear (h : WI w k p rb cap n pp bb s W) (id : Int) : Calls Try.prog 19 #[.pointer (some ⟨k, 0, none⟩), .int .i64 id] W fun e W' =>
    e = .returned (.int .i64 (clearW s id).2) ∧ WI w k p rb cap n pp bb (clearW s id).1 W' ∧ Chg (FW k p rb n pp bb) W W' := by
  have hw : Calls Try.prog 29 #[.pointer (some ⟨k, 0, none⟩), .int .i64 id, .func (.func 43) #[] #[.pointer (some ⟨W.heap.size, 0, none⟩), .pointer (some ⟨W.heap.size + 1, 0, none⟩)]]
      ((W.alloc (.cells #[.pointer (some ⟨k, 0, none⟩)] 24)).alloc (.cells #[.int .i64 id] 3)) fun e w' => ∃ x, e = .returned (.int .i64 x) ∧ (x = (clearW s id).2 ∧ WI w k p rb cap n pp bb (clearW s id).1 w' ∧ Chg (FW k p rb n pp bb) W w') := by
    have hK0 := (Keeps.alloc W (.cells #[.pointer (some ⟨k, 0, none⟩)] 24)).trans (Keeps.alloc _ (.cells #[.int .i64 id] 3))
    have hk := h.kept hK0
    have b1 := Boxed.new (W.alloc (.cells #[.pointer (some ⟨k, 0, none⟩)] 24)) 3 (.int .i64 id)
    have b0 := Boxed.new W 24 (.pointer (some ⟨k, 0, none⟩))
    simp only [World.size_alloc] at b1
    refine with_any (enters_of Try.func43 (by kernel_rfl) rfl) (fun ho => ?_) fun i hid hi => ?_
    · unfold clearW; rw [if_pos ho]; exact ⟨rfl, hk, Chg.of_keeps hK0⟩
    · subst hid
      refine (clearDo_any hk hi (b0.alloc _) b1 ?_).mono ?_
      · intro b hb
        have h1 := h.blk.lt
        have h2 := h.keeps.size
        exact ⟨h.sep (by omega), by omega, by omega⟩
      · rintro e w' ⟨rfl, hI, hC⟩
        exact ⟨_, rfl, rfl, hI, (Chg.of_keeps hK0).trans hC⟩
  replace hw := Lib.hid hw
  clear h
  go_enter Try.func19, Try.ntmps19
  go_wp2_with fail
  refine hw.out.mono ?_
  rintro e w' ⟨x, rfl, rfl, hI, hC⟩
  replace hI := Lib.hid hI
  replace hC := Lib.hid hC
  go_wp2_with fail
  go_ret
  exact ⟨rfl, hI.out, hC.out⟩
def oneC (b : Bool) (z : Int) : List Value := [.bool b, .int .i64 z]
theorem zeroOne (w : World) : (zeroValue 68).run Try.prog w = .ok (.agg #[.bool false, .int .i64 0]) w := by kernel_rfl
set_option maxRecDepth 100000 in
set_option maxHeartbeats 400000 in
theorem ofDo_any (h : WI w k p rb cap n pp bb s W) {i bo : Nat} (hi : i < 256) (hbo : Blk W bo 68 (oneC false 0)) :
    Calls Try.prog 65 (#[.pointer (some ⟨k, 2 + i * 2, none⟩)] ++ #[.pointer (some ⟨bo, 0, none⟩)]) W fun e w' =>
      e = .returned (.int .i64 0) ∧ Blk w' bo 68 (oneC (s.sh i) (s.pr i)) ∧ Chg (· = bo) W w' := by
  show Calls Try.prog 65 #[.pointer (some ⟨k, 2 + i * 2, none⟩), .pointer (some ⟨bo, 0, none⟩)] W _
  have c1 := h.cSh i hi
  have c2 := h.cPr i hi
  have d1 : W.cell? ⟨bo, 0, none⟩ = some (.bool false) := hbo.cell 0 (by simp [oneC])
  have d2 : W.cell? ⟨bo, 1, none⟩ = some (.int .i64 0) := hbo.cell 1 (by simp [oneC])
  have f1 := hbo.frozen 0
  have f2 := hbo.frozen 1
  replace hbo := Lib.hid hbo
  clear h
  go_enter Try.func65, Try.ntmps65
  go_wp2_with fail
  go_ret
  exact ⟨rfl, (hbo.out.set 0 _).set 1 _, (Chg.setCell (S := (· = bo)) 0 _ rfl).trans (Chg.setCell 1 _ rfl)⟩
set_option maxRecDepth 100000 in
set_option maxHeartbeats 400000 in
theorem WI.of (h : WI w k p rb cap n pp bb s W) (id : Int) : Calls Try.prog 41 #[.pointer (some ⟨k, 0, none⟩), .int .i64 id] W fun e W' =>
    e = .returned (.agg #[.bool (ofS s id), .int .i64 (ofP s id)]) ∧ Keeps W W' := by
  have hz := zeroOne
  have hbA : Blk (W.alloc (.cells #[.bool false, .int .i64 0] 68)) W.heap.size 68 (oneC false 0) := Blk.new W _ _
  have hbB : Blk ((W.alloc (.cells #[.bool false, .int .i64 0] 68)).alloc (.cells #[.bool false, .int .i64 0] 68)) (W.heap.size + 1) 68 (oneC false 0) := by
    have := Blk.new (W.alloc (.cells #[.bool false, .int .i64 0] 68)) 68 (oneC false 0)
    rw [World.size_alloc] at this; exact this
  have hK : Keeps W ((W.alloc (.cells #[.bool false, .int .i64 0] 68)).alloc (.cells #[.bool false, .int .i64 0] 68)) := (Keeps.alloc _ _).trans (Keeps.alloc _ _)
  have hw : Calls Try.prog 29 #[.pointer (some ⟨k, 0, none⟩), .int .i64 id, .func (.func 65) #[] #[.pointer (some ⟨W.heap.size + 1, 0, none⟩)]]
      ((W.alloc (.cells #[.bool false, .int .i64 0] 68)).alloc (.cells #[.bool false, .int .i64 0] 68)) fun e w' => ∃ x, e = .returned (.int .i64 x) ∧ (Blk w' (W.heap.size + 1) 68 (oneC (ofS s id) (ofP s id)) ∧ Blk w' W.heap.size 68 (oneC false 0) ∧ Keeps W w') := by
    refine with_any (enters_of Try.func65 (by kernel_rfl) rfl) (fun ho => ?_) fun i hid hi => ?_
    · unfold ofS ofP; rw [if_neg ho, if_neg ho]; exact ⟨hbB, hbA.alloc _, hK⟩
    · subst hid
      refine (ofDo_any (h.kept hK) hi hbB).mono ?_
      rintro e w' ⟨rfl, hB, hC⟩
      refine ⟨_, rfl, ?_, (hbA.alloc _).chg hC (by omega), Chg.keeps hC hK (fun x hx e => by omega)⟩
      unfold ofS ofP; rw [if_pos (inId_nat hi), if_pos (inId_nat hi)]; exact hB
  replace hw := Lib.hid hw
  clear h hbA hbB hK
  generalize ofS s id = b at *
  generalize ofP s id = z at *
  go_enter Try.func41, Try.ntmps41
  go_wp2_with fail
  refine hw.out.mono ?_
  rintro e w' ⟨x, rfl, hB, hA, hK⟩
  have c1 : w'.cell? ⟨W.heap.size + 1, 0, none⟩ = some (.bool b) := hB.cell 0 (by simp [oneC])
  have c2 : w'.cell? ⟨W.heap.size + 1, 1, none⟩ = some (.int .i64 z) := hB.cell 1 (by simp [oneC])
  have d1 : w'.cell? ⟨W.heap.size, 0, none⟩ = some (.bool false) := hA.cell 0 (by simp [oneC])
  have d2 : w'.cell? ⟨W.heap.size, 1, none⟩ = some (.int .i64 0) := hA.cell 1 (by simp [oneC])
  have f1 := hA.frozen 0
  have f2 := hA.frozen 1
  have hS : Blk ((w'.setCell ⟨W.heap.size, 0, none⟩ (.bool b)).setCell ⟨W.heap.size, 1, none⟩ (.int .i64 z)) W.heap.size 68 [.bool b, .int .i64 z] := (hA.set 0 _).set 1 _
  have hKS : Keeps W ((w'.setCell ⟨W.heap.size, 0, none⟩ (.bool b)).setCell ⟨W.heap.size, 1, none⟩ (.int .i64 z)) := Chg.keeps ((Chg.setCell (S := (· = W.heap.size)) 0 _ rfl).trans (Chg.setCell 1 _ rfl)) hK (fun x hx e => by omega)
  replace hS := Lib.hid hS
  replace hKS := Lib.hid hKS
  clear hB hA hK hw
  go_wp2_with fail
  refine bodyPost_ret (results_row rfl _ hS.out rfl _ Try.underlying68 rfl 2 one_size rfl) rfl ⟨rfl, hKS.out⟩
set_option maxRecDepth 100000 in
set_option maxHeartbeats 1000000 in
theorem WI.state (h : WI w k p rb cap n pp bb s W) (id : Int) : Calls Try.prog 18 #[.pointer (some ⟨k, 0, none⟩), .int .i64 id] W fun e W' =>
    e = .returned (.int .i64 (stateW s id)) ∧ Keeps W W' := by
  have hof := h.of id
  have hwh := fun W2 (hK : Keeps W W2) => (h.kept hK).pr.where' id
  have hc0 := fun W2 (hK : Keeps W W2) => (h.kept hK).c0
  unfold stateW
  generalize ofS s id = b at *
  generalize ofP s id = z at *
  generalize lkI s.Q id = y at *
  replace hof := Lib.hid hof
  replace hwh := Lib.hid hwh
  replace hc0 := Lib.hid hc0
  clear h
  obtain ⟨r, hst⟩ : ∃ r : Int, r = if b = true then 3 else if z = 0 then 0 else if lkIB s.Q id = true then 2 else 1 := ⟨_, rfl⟩
  rw [← hst]
  replace hst := Lib.hid hst
  go_enter Try.func18, Try.ntmps18
  go_wp2_with fail
  refine hof.out.mono ?_
  rintro e w' ⟨rfl, hK⟩
  have hK2 : Keeps W (w'.alloc (.cells #[.bool b, .int .i64 z] 68)) := hK.trans (Keeps.alloc _ _)
  have hwh2 := hwh.out _ hK2
  have hc := hc0.out _ hK2
  replace hwh2 := Lib.hid hwh2
  replace hK2 := Lib.hid hK2
  clear hwh hof hc0
  replace hK := Lib.hid hK
  cases b with
  | true =>
    go_wp2_with fail
    go_ret
    exact ⟨by rw [hst.out]; rfl, hK2.out⟩
  | false =>
    by_cases hz : z = 0
    · subst hz
      go_wp2_with fail
      go_ret
      exact ⟨by rw [hst.out]; rfl, hK2.out⟩
    · have hq : (z == 0) = false := by simpa using hz
      replace hz := Lib.hid hz
      cases hl : lkIB s.Q id
      all_goals
        rw [hl] at hwh2
        replace hl := Lib.hid hl
        go_wp2_with fail
        refine hwh2.out.mono ?_
        rintro e w3 ⟨rfl, hK3⟩
        replace hK3 := Lib.hid hK3
        go_wp2_with fail
        go_ret
        exact ⟨by rw [hst.out, hl.out, if_neg (by decide), if_neg hz.out]; rfl, hK2.out.trans hK3.out⟩
set_option maxRecDepth 100000 in
set_option maxHeartbeats 1000000 in
theorem WI.prog (h : WI w k p rb cap n pp bb s W) (id : Int) : Calls Try.prog 27 #[.pointer (some ⟨k, 0, none⟩), .int .i64 id] W fun e W' =>
    e = .returned (.tuple #[.int .i64 (if ofP s id ≤ 0 then 0 else ofP s id - 1), .bool (decide (0 < ofP s id))]) ∧ Keeps W W' := by
  have hof := h.of id
  have hr : 0 ≤ ofP s id ∧ ofP s id ≤ 16 := by
    unfold ofP
    split
    · exact h.rng _
    · omega
  generalize ofS s id = b at *
  generalize ofP s id = z at *
  replace hof := Lib.hid hof
  clear h
  have hcase : z = 0 ∨ 0 < z := by omega
  rcases hcase with rfl | hz
  · go_enter Try.func27, Try.ntmps27
    go_wp2_with fail
    refine hof.out.mono ?_
    rintro e w' ⟨rfl, hK⟩
    replace hK := Lib.hid hK
    go_wp2_with fail
    go_region
    all_goals
      go_wp2
      go_ret2
      exact ⟨rfl, (hK.out.trans (Keeps.alloc _ _)).trans (Keeps.drew _)⟩
  · rw [if_neg (by omega), decide_eq_true hz]
    have hx : ¬ z - 1 < 0 := by omega
    have hx2 : (0 : Int) ≤ z - 1 := by omega
    have hx3 : z - 1 ≤ 9223372036854775807 := by omega
    have hx4 : IntKind.i64.wrap (z - 1) = z - 1 := IntWalk.i64_in _ (by omega)
    go_enter Try.func27, Try.ntmps27
    go_wp2_with fail
    refine hof.out.mono ?_
    rintro e w' ⟨rfl, hK⟩
    replace hK := Lib.hid hK
    go_wp2_with fail
    go_region
    all_goals
      go_wp2
      go_ret2
      exact ⟨rfl, (hK.out.trans (Keeps.alloc _ _)).trans (Keeps.drew _)⟩
end
end Go.Proofs.Ytcggbfpangnllaa
