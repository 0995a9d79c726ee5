/- The works: Stop, Shut, Clear: the walks. -/
import Derived.Test.YtcggbfpangnllaaWorkB
namespace Go.Proofs.Ytcggbfpangnllaa
open Go.RowKit Go.Shelf i64
attribute [local go_sem] Oper.semAt_some
section
variable {w W W' : World} {k p rb cap n : Nat} {pp bb : Nat → Nat} {s : WS}
/-- What deleting leaves of the cells that it reads. -/
theorem WI.delF (h : WI w k p rb cap n pp bb s W) (a : Int) : ∀ W2, Keeps (W.alloc (.cells #[.int .i64 a] 3)) W2 → Calls Try.prog 39 #[.pointer (some ⟨p, 0, none⟩), .slice (some ⟨W.heap.size, 0, none⟩) 1 1] W2 fun e W' =>
    e = .returned (.int .i64 (if lkIB s.Q a then 1 else 0)) ∧ WI w k p rb cap n pp bb { s with Q := s.Q.eraseP (·.1 == a) } W' ∧ Chg (Foot p rb n pp bb) W W' := fun W2 hK2 => by
  refine (h.delS a W2 hK2).mono ?_
  rintro e W' ⟨he, hI, hC⟩
  exact ⟨he, hI, (Chg.of_keeps ((Keeps.alloc _ _).trans hK2)).trans hC⟩
set_option maxRecDepth 100000 in
set_option maxHeartbeats 1000000 in
theorem stopDo_any (h : WI w k p rb cap n pp bb s W) {i bw bi bs : Nat} (hi : i < 256) (hbw : Boxed W bw 24 (.pointer (some ⟨k, 0, none⟩))) (hbi : Boxed W bi 3 (.int .i64 i)) (hbs : Boxed W bs 4 (.bool false))
    (hF : ∀ b, (b = bw ∨ b = bi ∨ b = bs) → ¬ Foot p rb n pp bb b ∧ b ≠ k ∧ w.heap.size ≤ b) (hne : bs ≠ bw ∧ bs ≠ bi) :
    Calls Try.prog 38 (#[.pointer (some ⟨k, 2 + i * 2, none⟩)] ++ #[.pointer (some ⟨bw, 0, none⟩), .pointer (some ⟨bi, 0, none⟩), .pointer (some ⟨bs, 0, none⟩)]) W fun e w' =>
      e = .returned (.int .i64 (stopW s i).2.2) ∧ WI w k p rb cap n pp bb (stopW s i).1 w' ∧ Boxed w' bs 4 (.bool (stopW s i).2.1) ∧ Chg (fun b => FW k p rb n pp bb b ∨ b = bs) W w' := by
  show Calls Try.prog 38 #[.pointer (some ⟨k, 2 + i * 2, none⟩), .pointer (some ⟨bw, 0, none⟩), .pointer (some ⟨bi, 0, none⟩), .pointer (some ⟨bs, 0, none⟩)] W _
  have cw := hbw.cell
  have ci := hbi.cell
  have c0 := h.c0
  have cp := h.cPr i hi
  unfold stopW
  rw [if_neg (not_not_intro (inId_nat hi)), show ((i : Int)).toNat = i from rfl]
  by_cases hp : s.pr i = 0
  · have hq : (s.pr i == 0) = true := by simpa using hp
    rw [if_pos hp]
    replace h := Lib.hid h
    replace hp := Lib.hid hp
    replace hbs := Lib.hid hbs
    clear hbw hbi
    go_enter Try.func38, Try.ntmps38
    go_wp2_with fail
    go_ret
    exact ⟨rfl, h.out, hbs.out, Chg.refl _ _⟩
  · have hq : (s.pr i == 0) = false := by simpa using hp
    rw [if_neg hp]
    replace hp := Lib.hid hp
    have hb := h.blk.lt
    have hdel := h.delF i
    have hfin := fun W2 (hI : WI w k p rb cap n pp bb { s with Q := s.Q.eraseP (·.1 == (i : Int)) } W2) v => hI.far (Chg.setCell (S := (· = bs)) (w := W2) 0 v rfl) (fun b hb => by subst hb; exact hF b (.inr (.inr rfl)))
    have hfw := (hF bw (.inl rfl)).1
    have hfi := (hF bi (.inr (.inl rfl))).1
    have hfs := (hF bs (.inr (.inr rfl))).1
    have hn1 := hne.1
    have hn2 := hne.2
    have hn3 := (hF bs (.inr (.inr rfl))).2.1
    have hgt : ∀ b : Bool, decide ((0 : Int) < if b then 1 else 0) = b := by intro b; cases b <;> rfl
    replace hdel := Lib.hid hdel
    replace hfin := Lib.hid hfin
    replace hbw := Lib.hid hbw
    replace hbi := Lib.hid hbi
    replace hbs := Lib.hid hbs
    replace hfw := Lib.hid hfw
    replace hfi := Lib.hid hfi
    replace hfs := Lib.hid hfs
    clear h hF hne
    have e0 := World.new_ne W _ c0
    have e2 := World.new_ne W _ cw
    have e3 := World.new_ne W _ ci
    go_enter Try.func38, Try.ntmps38
    go_wp2_with fail
    cases hl : lkIB s.Q i
    all_goals
      rw [hl] at hdel
      replace hl := Lib.hid hl
      simp only [Bool.false_eq_true, if_false, if_true] at hdel
    all_goals
      go_region_held3 (fun w' => w'.cell? ⟨k, 0, none⟩ = some (.pointer (some ⟨p, 0, none⟩)) ∧ w'.cell? ⟨bw, 0, none⟩ = some (.pointer (some ⟨k, 0, none⟩)) ∧ w'.cell? ⟨bi, 0, none⟩ = some (.int .i64 i))
        (first
          | go_keep
          | (exact ⟨hI.out.c0, Boxed.cell (Blk.boxed (Blk.chg (Boxed.blk hbw.out) hB.out hfw.out)), Boxed.cell (Blk.boxed (Blk.chg (Boxed.blk hbi.out) hB.out hfi.out))⟩))
        (first | (go_at_call 39; with_reducible refine (hdel.out _ (Keeps.drew _)).mono ?_; rintro e w2 ⟨rfl, hI, hB⟩; have bs2 : Boxed w2 bs 4 (.bool false) := Blk.boxed (Blk.chg (Boxed.blk hbs.out) hB hfs.out); have d2 := bs2.cell; have f2 := bs2.frozen; replace bs2 := Lib.hid bs2; replace hI := Lib.hid hI; replace hB := Lib.hid hB))
      all_goals go_wp2_with fail
      all_goals go_ret
      all_goals exact ⟨rfl, hfin.out _ hI.out _, by rw [hl.out]; exact Blk.set (cs := [_]) bs2.out 0 _, (hB.out.mono fun _ _ hs => .inl (.inl hs)).trans (Chg.setCell _ _ (.inr rfl))⟩
set_option maxRecDepth 100000 in
set_option maxHeartbeats 1000000 in
theorem WI.stop (h : WI w k p rb cap n pp bb s W) (id : Int) : Calls Try.prog 16 #[.pointer (some ⟨k, 0, none⟩), .int .i64 id] W fun e W' =>
    e = .returned (.tuple #[.bool (stopW s id).2.1, .int .i64 (stopW s id).2.2]) ∧ WI w k p rb cap n pp bb (stopW s id).1 W' ∧ Chg (FW k p rb n pp bb) W W' := by
  have hw : Calls Try.prog 29 #[.pointer (some ⟨k, 0, none⟩), .int .i64 id, .func (.func 38) #[] #[.pointer (some ⟨W.heap.size, 0, none⟩), .pointer (some ⟨W.heap.size + 1, 0, none⟩), .pointer (some ⟨W.heap.size + 1 + 1, 0, none⟩)]]
      (((W.alloc (.cells #[.pointer (some ⟨k, 0, none⟩)] 24)).alloc (.cells #[.int .i64 id] 3)).alloc (.cells #[.bool false] 4)) fun e w' => ∃ x, e = .returned (.int .i64 x) ∧ (x = (stopW s id).2.2 ∧ WI w k p rb cap n pp bb (stopW s id).1 w' ∧ Boxed w' (W.heap.size + 1 + 1) 4 (.bool (stopW s id).2.1) ∧ Chg (FW k p rb n pp bb) W w') := by
    have hK0 := (Keeps.alloc W (.cells #[.pointer (some ⟨k, 0, none⟩)] 24)).trans ((Keeps.alloc _ (.cells #[.int .i64 id] 3)).trans (Keeps.alloc _ (.cells #[.bool false] 4)))
    have hk := h.kept hK0
    have b2 := Boxed.new ((W.alloc (.cells #[.pointer (some ⟨k, 0, none⟩)] 24)).alloc (.cells #[.int .i64 id] 3)) 4 (.bool false)
    have b1 := Boxed.new (W.alloc (.cells #[.pointer (some ⟨k, 0, none⟩)] 24)) 3 (.int .i64 id)
    have b0 := Boxed.new W 24 (.pointer (some ⟨k, 0, none⟩))
    simp only [World.size_alloc] at b1 b2
    refine with_any (enters_of Try.func38 (by kernel_rfl) rfl) (fun ho => ?_) fun i hid hi => ?_
    · unfold stopW; rw [if_pos ho]; exact ⟨rfl, hk, b2, Chg.of_keeps hK0⟩
    · subst hid
      refine (stopDo_any hk hi ((b0.alloc _).alloc _) (b1.alloc _) b2 ?_ (by omega)).mono ?_
      · intro b hb
        have h1 := h.blk.lt
        have h2 := h.keeps.size
        exact ⟨h.sep (by omega), by omega, by omega⟩
      · rintro e w' ⟨rfl, hI, hB, hC⟩
        exact ⟨_, rfl, rfl, hI, hB, ((Chg.of_keeps hK0).trans hC).mono fun b hb hs => hs.elim id fun e => by omega⟩
  replace hw := Lib.hid hw
  clear h
  go_enter Try.func16, Try.ntmps16
  go_wp2_with fail
  refine hw.out.mono ?_
  rintro e w' ⟨x, rfl, rfl, hI, hB, hC⟩
  have cb := hB.cell
  replace hC := Lib.hid hC
  replace hI := Lib.hid hI
  clear hB
  go_wp2_with fail
  go_ret2
  exact ⟨rfl, hI.out, hC.out⟩
set_option maxRecDepth 100000 in
set_option maxHeartbeats 1000000 in
theorem shutDo_any (h : WI w k p rb cap n pp bb s W) {i bn bw bi : Nat} (hi : i < 256) {N : Nat} (hN : N < 1000000000) (hbn : Boxed W bn 3 (.int .i64 (N : Int))) (hbw : Boxed W bw 24 (.pointer (some ⟨k, 0, none⟩))) (hbi : Boxed W bi 3 (.int .i64 i))
    (hF : ∀ b, (b = bn ∨ b = bw ∨ b = bi) → ¬ Foot p rb n pp bb b ∧ b ≠ k ∧ w.heap.size ≤ b) (hne : bn ≠ bw ∧ bn ≠ bi) :
    Calls Try.prog 40 (#[.pointer (some ⟨k, 2 + i * 2, none⟩)] ++ #[.pointer (some ⟨bn, 0, none⟩), .pointer (some ⟨bw, 0, none⟩), .pointer (some ⟨bi, 0, none⟩)]) W fun e w' =>
      e = .returned (.int .i64 0) ∧ WI w k p rb cap n pp bb (shut1 s i) w' ∧ Boxed w' bn 3 (.int .i64 ((N + shutN s i : Nat) : Int)) ∧ Chg (fun b => FW k p rb n pp bb b ∨ b = bn) W w' := by
  show Calls Try.prog 40 #[.pointer (some ⟨k, 2 + i * 2, none⟩), .pointer (some ⟨bn, 0, none⟩), .pointer (some ⟨bw, 0, none⟩), .pointer (some ⟨bi, 0, none⟩)] W _
  have cn := hbn.cell
  have fn := hbn.frozen
  have cw := hbw.cell
  have ci := hbi.cell
  have c0 := h.c0
  have cs := h.cSh i hi
  have fs := h.blk.frozen (2 + i * 2)
  unfold shut1 shutN
  rw [if_neg (not_not_intro (inId_nat hi)), if_neg (not_not_intro (inId_nat hi)), show ((i : Int)).toNat = i from rfl]
  have hb := h.blk.lt
  have hfn := (hF bn (.inl rfl)).1
  have hfw := (hF bw (.inr (.inl rfl))).1
  have hfi := (hF bi (.inr (.inr rfl))).1
  have hn1 := hne.1
  have hn2 := hne.2
  have hn3 := (hF bn (.inl rfl)).2.1
  have hn4 := (hF bw (.inr (.inl rfl))).2.1
  have hn5 := (hF bi (.inr (.inr rfl))).2.1
  have hm : (N : Int) + 1 ≤ 9223372036854775807 := by omega
  have hm0 : (0 : Int) ≤ (N : Int) := by omega
  clear hN
  obtain ⟨s', hs'⟩ : ∃ s' : WS, s' = { s with Q := s.Q.eraseP (·.1 == (i : Int)) } := ⟨_, rfl⟩
  have hsh : s'.sh i = s.sh i := by rw [hs']
  have hfin := fun W2 (hI : WI w k p rb cap n pp bb s' W2) => hI.setSh i hi true
  rw [hs'] at hfin
  have hend : ∀ (W2 : World) (b : Nat) (t : TypeId) (cs : List Value), b ≠ k → Blk W2 b t cs → Blk (W2.setCell ⟨k, 2 + i * 2, none⟩ (.bool true)) b t cs := fun W2 b t cs hbk hb => hb.other hbk _ _
  cases hs : s.sh i with
  | true =>
    rw [hs] at cs
    rw [if_pos rfl, Nat.add_zero]
    have hdel := h.delF i
    generalize (if lkIB s.Q i then (1 : Int) else 0) = z at hdel
    have hcs := fun W2 (hI : WI w k p rb cap n pp bb { s with Q := s.Q.eraseP (·.1 == (i : Int)) } W2) => hI.cSh i hi
    have hfs := fun W2 (hI : WI w k p rb cap n pp bb { s with Q := s.Q.eraseP (·.1 == (i : Int)) } W2) => hI.blk.frozen (2 + i * 2)
    simp only [hs] at hcs
    replace hdel := Lib.hid hdel
    replace hfin := Lib.hid hfin
    replace hcs := Lib.hid hcs
    replace hfs := Lib.hid hfs
    replace hbn := Lib.hid hbn
    replace hbw := Lib.hid hbw
    replace hbi := Lib.hid hbi
    replace hfn := Lib.hid hfn
    replace hfw := Lib.hid hfw
    replace hfi := Lib.hid hfi
    replace hend := Lib.hid hend
    clear h hF hne hs' hsh hm hm0 fs fn cn
    clear s'
    replace hs := Lib.hid hs
    have e0 := World.new_ne W _ c0
    have e2 := World.new_ne W _ cw
    have e3 := World.new_ne W _ ci
    go_enter Try.func40, Try.ntmps40
    go_wp2_with fail
    go_region_held3 (fun w' => w'.cell? ⟨k, 0, none⟩ = some (.pointer (some ⟨p, 0, none⟩)) ∧ w'.cell? ⟨bw, 0, none⟩ = some (.pointer (some ⟨k, 0, none⟩)) ∧ w'.cell? ⟨bi, 0, none⟩ = some (.int .i64 i))
      (first
        | go_keep
        | (exact ⟨hI.out.c0, Boxed.cell (Blk.boxed (Blk.chg (Boxed.blk hbw.out) hB.out hfw.out)), Boxed.cell (Blk.boxed (Blk.chg (Boxed.blk hbi.out) hB.out hfi.out))⟩))
      (first | (go_at_call 39; with_reducible refine (hdel.out _ (Keeps.drew _)).mono ?_; rintro e w2 ⟨rfl, hI, hB⟩; have d2 := hcs.out _ hI; have f2 := hfs.out _ hI; replace hI := Lib.hid hI; replace hB := Lib.hid hB))
    all_goals go_wp2_with fail
    all_goals go_ret
    all_goals exact ⟨rfl, hfin.out _ hI.out, hend.out _ _ _ [_] hn3 (Blk.chg (Boxed.blk hbn.out) hB.out hfn.out), ((hB.out.mono fun _ _ hs => .inl (.inl hs)).trans (Chg.setCell _ _ (.inl (.inr rfl))))⟩
  | false =>
    rw [hs] at cs
    rw [if_neg (by decide)]
    obtain ⟨Wn, hWn⟩ : ∃ Wn, Wn = W.setCell ⟨bn, 0, none⟩ (.int .i64 ((N : Int) + 1)) := ⟨_, rfl⟩
    have hCn : Chg (· = bn) W Wn := by rw [hWn]; exact Chg.setCell _ _ rfl
    have hI1 : WI w k p rb cap n pp bb s Wn := h.far hCn (fun b hb => by subst hb; exact hF b (.inl rfl))
    have hbn1 : Boxed Wn bn 3 (.int .i64 ((N + 1 : Nat) : Int)) := by rw [hWn, Int.natCast_add]; exact Blk.set (cs := [_]) hbn 0 _
    have hbw1 : Boxed Wn bw 24 (.pointer (some ⟨k, 0, none⟩)) := Blk.chg (cs := [_]) hbw hCn (fun e => hn1 e.symm)
    have hbi1 : Boxed Wn bi 3 (.int .i64 i) := Blk.chg (cs := [_]) hbi hCn (fun e => hn2 e.symm)
    have hoth : Chg (fun b => FW k p rb n pp bb b ∨ b = bn) W Wn := hCn.mono fun _ _ hs => .inr hs
    replace hoth := Lib.hid hoth
    have hdel := hI1.delF i
    generalize (if lkIB s.Q i then (1 : Int) else 0) = z at hdel
    have hcs := fun W2 (hI : WI w k p rb cap n pp bb { s with Q := s.Q.eraseP (·.1 == (i : Int)) } W2) => hI.cSh i hi
    have hfs := fun W2 (hI : WI w k p rb cap n pp bb { s with Q := s.Q.eraseP (·.1 == (i : Int)) } W2) => hI.blk.frozen (2 + i * 2)
    simp only [hs] at hcs
    have hG : (fun W2 => Wn = W2) (W.setCell ⟨bn, 0, none⟩ (.int .i64 ((N : Int) + 1))) := hWn
    replace hdel := Lib.hid hdel
    replace hfin := Lib.hid hfin
    replace hcs := Lib.hid hcs
    replace hfs := Lib.hid hfs
    replace hbn1 := Lib.hid hbn1
    replace hbw1 := Lib.hid hbw1
    replace hbi1 := Lib.hid hbi1
    replace hfn := Lib.hid hfn
    replace hfw := Lib.hid hfw
    replace hfi := Lib.hid hfi
    replace hend := Lib.hid hend
    have hI1' := Lib.hid hI1
    clear h hF hne hs' hsh hbn hbw hbi hCn hI1 fs
    clear s'
    replace hs := Lib.hid hs
    replace hWn := Lib.hid hWn
    replace hG := Lib.hid hG
    go_enter Try.func40, Try.ntmps40
    go_upto_region 3 with (fail)
    refine wp_gen (fun W2 => Wn = W2) hG.out ?_
    rintro _ rfl
    clear hG hWn cw ci c0 cs cn fn
    have c0 := hI1'.out.c0
    have cw := hbw1.out.cell
    have ci := hbi1.out.cell
    have hb := hI1'.out.blk.lt
    have e0 := World.new_ne Wn _ c0
    have e2 := World.new_ne Wn _ cw
    have e3 := World.new_ne Wn _ ci
    clear hI1' hm hm0
    go_region_held3 (fun w' => w'.cell? ⟨k, 0, none⟩ = some (.pointer (some ⟨p, 0, none⟩)) ∧ w'.cell? ⟨bw, 0, none⟩ = some (.pointer (some ⟨k, 0, none⟩)) ∧ w'.cell? ⟨bi, 0, none⟩ = some (.int .i64 i))
      (first
        | go_keep
        | (exact ⟨hI.out.c0, Boxed.cell (Blk.boxed (Blk.chg (Boxed.blk hbw1.out) hB.out hfw.out)), Boxed.cell (Blk.boxed (Blk.chg (Boxed.blk hbi1.out) hB.out hfi.out))⟩))
      (first | (go_at_call 39; with_reducible refine (hdel.out _ (Keeps.drew _)).mono ?_; rintro e w2 ⟨rfl, hI, hB⟩; have d2 := hcs.out _ hI; have f2 := hfs.out _ hI; replace hI := Lib.hid hI; replace hB := Lib.hid hB))
    all_goals go_wp2_with fail
    all_goals go_ret
    all_goals exact ⟨rfl, hfin.out _ hI.out, hend.out _ _ _ [_] hn3 (Blk.chg (Boxed.blk hbn1.out) hB.out hfn.out), (hoth.out.trans ((hB.out.mono fun _ _ hs => .inl (.inl hs)).trans (Chg.setCell _ _ (.inl (.inr rfl)))))⟩
theorem shutL_snoc (x : Int) : ∀ (l : List Int) (s : WS), shutL s (l ++ [x]) = (shut1 (shutL s l).1 x, (shutL s l).2 + shutN (shutL s l).1 x)
  | [], s => by simp [shutL]
  | y :: l, s => by simp only [List.cons_append, shutL, shutL_snoc x l]; rw [Nat.add_assoc]
theorem shutL_le : ∀ (l : List Int) (s : WS), (shutL s l).2 ≤ l.length
  | [], s => Nat.le_refl _
  | y :: l, s => by
    have := shutL_le l (shut1 s y)
    have h1 : shutN s y ≤ 1 := by unfold shutN; split; omega; split <;> omega
    simp only [shutL, List.length_cons]; omega
set_option maxRecDepth 100000 in
set_option maxHeartbeats 2000000 in
theorem WI.shut (h : WI w k p rb cap n pp bb s W) {b0 : Nat} {ids : List Int} (hl : ids.length ≤ 1000) {t0 : TypeId} (hb0 : Blk W b0 t0 (ids.map (Value.int .i64))) (hf0 : ¬ Foot p rb n pp bb b0) (hk0 : b0 ≠ k) :
    Calls Try.prog 17 #[.pointer (some ⟨k, 0, none⟩), .slice (some ⟨b0, 0, none⟩) ids.length ids.length] W fun e W' =>
    e = .returned (.int .i64 ((shutL s ids).2 : Nat)) ∧ WI w k p rb cap n pp bb (shutL s ids).1 W' ∧ Chg (FW k p rb n pp bb) W W' := by
  have hz0 : (0 : Int) ≤ ids.length := by omega
  have hbl := hb0.lt
  have hkl := h.blk.lt
  have hws := h.keeps.size
  have hK1 : Keeps W ((W.alloc (.cells #[.pointer (some ⟨k, 0, none⟩)] 24)).alloc (.cells #[.int .i64 0] 3)) := (Keeps.alloc W _).trans (Keeps.alloc _ _)
  have b0x := Boxed.new W 24 (.pointer (some ⟨k, 0, none⟩))
  have b1x := Boxed.new (W.alloc (.cells #[.pointer (some ⟨k, 0, none⟩)] 24)) 3 (.int .i64 0)
  simp only [World.size_alloc] at b1x
  have hG : (fun W1 => Chg (FW k p rb n pp bb) W W1 ∧ WI w k p rb cap n pp bb s W1 ∧ Boxed W1 W.heap.size 24 (.pointer (some ⟨k, 0, none⟩)) ∧ Boxed W1 (W.heap.size + 1) 3 (.int .i64 0) ∧ Blk W1 b0 t0 (ids.map (Value.int .i64))) ((W.alloc (.cells #[.pointer (some ⟨k, 0, none⟩)] 24)).alloc (.cells #[.int .i64 0] 3)) := ⟨Chg.of_keeps hK1, h.kept hK1, b0x.alloc _, b1x, hb0.keeps hK1⟩
  have hfB : ¬ Foot p rb n pp bb W.heap.size := h.sep (Nat.le_refl _)
  have hfN : ¬ Foot p rb n pp bb (W.heap.size + 1) := h.sep (by omega)
  generalize hB : W.heap.size = B at hG hbl hkl hfB hfN hws
  replace hG := Lib.hid hG
  replace hfB := Lib.hid hfB
  replace hfN := Lib.hid hfN
  replace hf0 := Lib.hid hf0
  have hBl : b0 < B ∧ k < B ∧ w.heap.size ≤ B ∧ b0 ≠ k := ⟨hbl, hkl, hws, hk0⟩
  replace hBl := Lib.hid hBl
  replace hl := Lib.hid hl
  clear h hb0 hK1 b0x b1x hbl hkl hws hk0
  replace hB := Lib.hid hB
  go_enter Try.func17, Try.ntmps17
  go_upto_region 2 with (fail)
  rw [hB.out]
  refine wp_gen (fun W1 => Chg (FW k p rb n pp bb) W W1 ∧ WI w k p rb cap n pp bb s W1 ∧ Boxed W1 B 24 (.pointer (some ⟨k, 0, none⟩)) ∧ Boxed W1 (B + 1) 3 (.int .i64 0) ∧ Blk W1 b0 t0 (ids.map (Value.int .i64))) hG.out ?_
  rintro W1 ⟨hC1, hI, hw, hn, h0⟩
  clear hG
  replace hC1 := Lib.hid hC1
  replace hI := Lib.hid hI
  replace hw := Lib.hid hw
  replace hn := Lib.hid hn
  replace h0 := Lib.hid h0
  go_wp2_with fail
  go_loopw [10] (fun i wr => ∃ j : Nat, j ≤ ids.length ∧ i = .int .i64 j ∧ WI w k p rb cap n pp bb (shutL s (ids.take j)).1 wr ∧ Boxed wr (B + 1) 3 (.int .i64 ((shutL s (ids.take j)).2 : Nat)) ∧ Boxed wr B 24 (.pointer (some ⟨k, 0, none⟩)) ∧ Blk wr b0 t0 (ids.map (Value.int .i64)) ∧ Chg (FW k p rb n pp bb) W wr) (fun i _ => ids.length - (intOf i).toNat)
  case atStart => exact ⟨0, Nat.zero_le _, rfl, hI.out, hn.out, hw.out, h0.out, hC1.out⟩
  case round =>
    clear hI hw hn h0
    obtain ⟨j, hj, rfl, hI, hn, hw, h0, hCr⟩ := hrel
    have hBs := hB.out
    have hjl : j < ids.length ∨ j = ids.length := by omega
    rcases hjl with hlt | rfl
    · have hltI := Int.ofNat_lt.2 hlt
      have hj0 : (0 : Int) ≤ (j : Int) := by omega
      have cw := hw.cell
      have cj := h0.cell j (by simpa using hlt)
      simp only [List.getElem_map] at cj
      have htk : ids.take (j + 1) = ids.take j ++ [ids[j]] := List.take_succ_eq_append_getElem hlt
      have hsn := shutL_snoc ids[j] (ids.take j) s
      rw [← htk] at hsn
      have hle := shutL_le (ids.take j) s
      rw [List.length_take, Nat.min_eq_left hj] at hle
      have hll := hl.out
      have hj64 : (j : Int) + 1 ≤ 9223372036854775807 := by omega
      have hbl := hBl.out
      have h0l := h0.lt
      clear htk
      generalize ids[j] = x at *
      generalize (shutL s (ids.take j)).2 = N at *
      generalize (shutL s (ids.take j)).1 = s1 at *
      have hnl := hn.lt
      have hBw := hw.lt
      have eB := World.new_ne wr _ cw
      obtain ⟨W2, hW2⟩ : ∃ W2, W2 = wr.alloc (.cells #[.int .i64 x] 3) := ⟨_, rfl⟩
      have hK2 : Keeps wr W2 := by rw [hW2]; exact Keeps.alloc _ _
      have bI : Boxed W2 wr.heap.size 3 (.int .i64 x) := by rw [hW2]; exact Boxed.new _ _ _
      have hwith : Calls Try.prog 29 #[.pointer (some ⟨k, 0, none⟩), .int .i64 x, .func (.func 40) #[] #[.pointer (some ⟨B + 1, 0, none⟩), .pointer (some ⟨B, 0, none⟩), .pointer (some ⟨wr.heap.size, 0, none⟩)]] W2
          fun e w' => ∃ y, e = .returned (.int .i64 y) ∧ (WI w k p rb cap n pp bb (shut1 s1 x) w' ∧ Boxed w' (B + 1) 3 (.int .i64 ((N + shutN s1 x : Nat) : Int)) ∧ Boxed w' B 24 (.pointer (some ⟨k, 0, none⟩)) ∧ Blk w' b0 t0 (ids.map (Value.int .i64)) ∧ Chg (FW k p rb n pp bb) W w') := by
        refine with_any (enters_of Try.func40 (by kernel_rfl) rfl) (fun ho => ?_) fun i hid hi => ?_
        · unfold shut1 shutN
          rw [if_pos ho, if_pos ho]
          exact ⟨hI.kept hK2, Blk.keeps (cs := [_]) hn hK2, Blk.keeps (cs := [_]) hw hK2, h0.keeps hK2, hCr.trans (Chg.of_keeps hK2)⟩
        · subst hid
          refine (shutDo_any (hI.kept hK2) hi (N := N) (by omega) (Blk.keeps (cs := [_]) hn hK2) (Blk.keeps (cs := [_]) hw hK2) bI ?_ (by omega)).mono ?_
          · rintro b (rfl | rfl | rfl)
            · exact ⟨hfN.out, by omega, by omega⟩
            · exact ⟨hfB.out, by omega, by omega⟩
            · exact ⟨hI.sep (Nat.le_refl _), by omega, by omega⟩
          · rintro e w' ⟨rfl, hI', hN', hoth⟩
            exact ⟨_, rfl, hI', hN', Blk.chg (cs := [_]) (Blk.keeps (cs := [_]) hw hK2) hoth (by rintro ((hf | e) | e); exact hfB.out hf; omega; omega), (h0.keeps hK2).chg hoth (by rintro ((hf | e) | e); exact hf0.out hf; omega; omega), ((hCr.trans (Chg.of_keeps hK2)).mono (T := fun b => FW k p rb n pp bb b ∨ b = B + 1) fun _ _ hs => .inl hs).trans hoth |>.mono fun b hb hs => hs.elim id fun e => by omega⟩
      rw [hW2] at hwith
      replace hwith := Lib.hid hwith
      replace hsn := Lib.hid hsn
      clear hW2 hK2 bI hI hn hw h0 hle hll hbl h0l hnl hCr hBs
      clear W2
      go_wp2_with fail
      refine hwith.out.mono ?_
      rintro e w2 ⟨y, rfl, hI2, hn2, hw2, h02, hC2⟩
      replace hC2 := Lib.hid hC2
      replace hI2 := Lib.hid hI2
      replace hn2 := Lib.hid hn2
      replace hw2 := Lib.hid hw2
      replace h02 := Lib.hid h02
      go_wp2_with fail
      go_roundw
      case rel => exact ⟨j + 1, by omega, by go_num, by rw [hsn.out]; exact hI2.out, by rw [hsn.out]; exact hn2.out, hw2.out, h02.out, hC2.out⟩
      case measure => (simp [intOf]; try omega)
    · rw [List.take_of_length_le (Nat.le_refl _)] at hI hn
      have cn := hn.cell
      replace hI := Lib.hid hI
      replace hCr := Lib.hid hCr
      clear hn hw h0 hBs
      go_wp2_with fail
      go_ret
      exact ⟨rfl, hI.out, hCr.out⟩
end
end Go.Proofs.Ytcggbfpangnllaa
