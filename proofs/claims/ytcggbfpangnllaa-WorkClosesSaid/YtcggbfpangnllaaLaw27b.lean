/- The law WorkCloses. -/
import Derived.Test.YtcggbfpangnllaaLaw27
namespace Go.Proofs.Ytcggbfpangnllaa
open Go.RowKit i64

theorem updB_updB (f : Nat → Bool) (i : Nat) (u v : Bool) : updB (updB f i u) i v = updB f i v := by
  funext k; unfold updB; split <;> rfl
theorem updB_same (f : Nat → Bool) (i : Nat) (v : Bool) : updB f i v i = v := by simp [updB]
theorem updI_same' (f : Nat → Int) (i : Nat) (v : Int) : updI f i v i = v := by simp [updI]
theorem updI_updI (f : Nat → Int) (i : Nat) (u v : Int) : updI (updI f i u) i v = updI f i v := by
  funext k; unfold updI; split <;> rfl
theorem updB_zero (i : Nat) : updB (fun _ => false) i false = fun _ => false := by
  funext k; unfold updB; split <;> rfl
theorem updI_zero (i : Nat) : updI (fun _ => 0) i 0 = fun _ => 0 := by
  funext k; unfold updI; split <;> rfl
def c1 (i q : Nat) : WS := { WS.zero with pr := updI (fun _ => 0) i ((q : Int) + 1) }
def c2 (i q : Nat) : WS := { WS.zero with pr := updI (fun _ => 0) i ((q : Int) + 1), Q := [((i : Int), 0)] }
def c3 (i q : Nat) : WS := { WS.zero with sh := updB (fun _ => false) i true, pr := updI (fun _ => 0) i ((q : Int) + 1) }
def c5 (i q : Nat) : WS := { WS.zero with pr := updI (fun _ => 0) i ((q : Int) + 1), on := updI (fun _ => 0) 1 1, Rn := [((i : Int), 1)] }
theorem cl_post0 (i : Nat) (hi : i < 256) : postW 1 WS.zero i 0 = (WS.zero, 1) := by
  unfold postW; rw [if_neg (not_not_intro (inId_nat hi)), if_neg (by omega), if_neg (by exact Bool.false_ne_true), if_pos (show WS.zero.pr ((i : Int)).toNat = 0 from rfl)]
theorem cl_set (i q : Nat) (hi : i < 256) (hq : q < 16) : setW WS.zero i q = (c1 i q, 0) := by
  unfold setW; rw [if_neg (not_not_intro (inId_nat hi)), if_neg (by omega), if_neg (by exact Bool.false_ne_true)]; rfl
theorem cl_post1 (i q : Nat) (hi : i < 256) : postW 1 (c1 i q) i 0 = (c2 i q, 0) := by
  unfold postW; rw [if_neg (not_not_intro (inId_nat hi)), if_neg (by omega), if_neg (by exact Bool.false_ne_true), if_neg (by show ¬ updI (fun _ => 0) i ((q : Int) + 1) i = 0; rw [updI_same']; omega)]
  have : addC 1 (c1 i q).Q 0 [(i : Int)] = ([((i : Int), 0)], 0) := by
    unfold addC; rw [if_neg (by omega)]
    show addM [] 0 [(i : Int)] = _
    unfold addM; rw [if_pos (by omega)]; rfl
  rw [this]; rfl
theorem cl_state2 (i q : Nat) (hi : i < 256) : stateW (c2 i q) i = 2 := by
  unfold stateW ofS ofP
  rw [if_pos (inId_nat hi), if_pos (inId_nat hi), if_neg (by exact Bool.false_ne_true), if_neg (by show ¬ updI (fun _ => 0) i ((q : Int) + 1) i = 0; rw [updI_same']; omega)]
  have : lkIB (c2 i q).Q i = true := by show lkIB [((i : Int), 0)] i = true; simp [lkIB]
  rw [this]; rfl
theorem cl_shut1 (i q : Nat) (hi : i < 256) : shutL (c2 i q) [(i : Int)] = (c3 i q, 1) := by
  unfold shutL shutL shut1 shutN
  rw [if_neg (not_not_intro (inId_nat hi)), if_neg (not_not_intro (inId_nat hi)), if_neg (by exact Bool.false_ne_true)]
  have : (c2 i q).Q.eraseP (·.1 == (i : Int)) = [] := by show [((i : Int), (0 : Int))].eraseP _ = []; simp
  rw [this]; rfl
theorem cl_shut2 (i q : Nat) (hi : i < 256) : shutL (c3 i q) [(i : Int)] = (c3 i q, 0) := by
  unfold shutL shutL shut1 shutN
  rw [if_neg (not_not_intro (inId_nat hi)), if_neg (not_not_intro (inId_nat hi)), if_pos (by show updB (fun _ => false) i true i = true; rw [updB_same])]
  show ({ c3 i q with sh := updB (updB (fun _ => false) i true) i true, Q := [] }, 0) = _
  rw [updB_updB]; rfl
theorem cl_state3 (i q : Nat) (hi : i < 256) : stateW (c3 i q) i = 3 := by
  unfold stateW ofS
  rw [if_pos (inId_nat hi), if_pos (by show updB (fun _ => false) i true i = true; rw [updB_same])]
theorem cl_set2 (i q : Nat) (hi : i < 256) (hq : q < 16) : setW (c3 i q) i q = (c3 i q, 22) := by
  unfold setW; rw [if_neg (not_not_intro (inId_nat hi)), if_neg (by omega), if_pos (by show updB (fun _ => false) i true i = true; rw [updB_same])]
theorem cl_post2 (i q : Nat) (hi : i < 256) : postW 1 (c3 i q) i 0 = (c3 i q, 22) := by
  unfold postW; rw [if_neg (not_not_intro (inId_nat hi)), if_neg (by omega), if_pos (by show updB (fun _ => false) i true i = true; rw [updB_same])]
theorem cl_begin0 (i q : Nat) : beginW 1 (c3 i q) 0 1 = (c3 i q, 0, 0, 4) := by
  unfold beginW
  rw [if_neg (by omega)]; rfl
theorem cl_clear (i q : Nat) (hi : i < 256) : clearW (c3 i q) i = (WS.zero, 0) := by
  unfold clearW
  rw [if_neg (not_not_intro (inId_nat hi)), if_neg (by exact Bool.false_ne_true)]
  have e1 : updB (c3 i q).sh ((i : Int)).toNat false = fun _ => false := by
    show updB (updB (fun _ => false) i true) i false = _
    rw [updB_updB, updB_zero]
  have e2 : updI (c3 i q).pr ((i : Int)).toNat 0 = fun _ => 0 := by
    show updI (updI (fun _ => 0) i ((q : Int) + 1)) i 0 = _
    rw [updI_updI, updI_zero]
  rw [e1, e2]; rfl
theorem cl_state0 (i : Nat) (hi : i < 256) : stateW WS.zero i = 0 := by
  unfold stateW ofS ofP
  rw [if_pos (inId_nat hi), if_pos (inId_nat hi)]; rfl
theorem cl_begin1 (i q : Nat) : beginW 1 (c2 i q) 0 1 = (c5 i q, (i : Int), (q : Int), 0) := by
  have hb : begM 1 (c2 i q).Q (c2 i q).Rn 0 1 = (([], [((i : Int), (1 : Int))]), (i : Int), 0) := by
    have hql : quL (c2 i q).Q 0 = [(i : Int)] := by show quL [((i : Int), (0 : Int))] 0 = _; simp [quL]
    have he : (c2 i q).Q.eraseP (·.1 == (i : Int)) = [] := by show [((i : Int), (0 : Int))].eraseP _ = []; simp
    unfold begM
    rw [if_neg (by omega), if_neg (by exact Bool.false_ne_true), hql]
    simp only
    rw [if_neg (by exact Bool.false_ne_true), he]; rfl
  have h2 : busyW 1 (c2 i q).on 0 = 0 := by kernel_rfl
  unfold beginW
  rw [if_neg (by omega), if_neg (by exact Bool.false_ne_true), if_neg (by rw [h2]; decide), hb, if_pos rfl]
  show (_, (i : Int), updI (fun _ => 0) i ((q : Int) + 1) i - 1, (0 : Int)) = _
  rw [updI_same', show (q : Int) + 1 - 1 = q by omega]; rfl
theorem cl_busy (i q : Nat) (hi : i < 256) : (clearW (c5 i q) i).2 = 21 := by
  unfold clearW
  have : lkIB (c5 i q).Rn i = true := by show lkIB [((i : Int), (1 : Int))] i = true; simp [lkIB]
  rw [if_neg (not_not_intro (inId_nat hi)), if_pos this]
theorem cl_same (i q : Nat) (hi : i < 256) : (clearW (c5 i q) i).1 = c5 i q := by
  unfold clearW
  have : lkIB (c5 i q).Rn i = true := by show lkIB [((i : Int), (1 : Int))] i = true; simp [lkIB]
  rw [if_neg (not_not_intro (inId_nat hi)), if_pos this]
theorem cl_post3 (i q : Nat) (hi : i < 256) : (postW 1 (c5 i q) i 0).2 = 0 := by
  unfold postW; rw [if_neg (not_not_intro (inId_nat hi)), if_neg (by omega), if_neg (by exact Bool.false_ne_true), if_neg (by show ¬ updI (fun _ => 0) i ((q : Int) + 1) i = 0; rw [updI_same']; omega)]
  have : addC 1 (c5 i q).Q 0 [(i : Int)] = ([((i : Int), 0)], 0) := by
    unfold addC; rw [if_neg (by omega)]
    show addM [] 0 [(i : Int)] = _
    unfold addM; rw [if_pos (by omega)]; rfl
  rw [this]
theorem WI.shut1 {w W : World} {k p rb cap n : Nat} {pp bb : Nat → Nat} {s : WS} (h : WI w k p rb cap n pp bb s W) (x : Int) (b0 : Nat) (hb : b0 = W.heap.size) : Calls Try.prog 17 #[.pointer (some ⟨k, 0, none⟩), .slice (some ⟨b0, 0, none⟩) 1 1] (W.alloc (.cells #[.int .i64 x] 3)) fun e W' =>
    e = .returned (.int .i64 ((shutL s [x]).2 : Nat)) ∧ WI w k p rb cap n pp bb (shutL s [x]).1 W' := by
  subst hb
  have h1 := h.blk.lt
  exact (h.kept (Keeps.alloc _ _)).shut (ids := [x]) (by simp) (Blk.new W 3 [.int .i64 x]) (h.sep (Nat.le_refl _)) (by omega)
set_option maxRecDepth 100000 in
set_option maxHeartbeats 4000000 in
theorem lawCloses_any (id pr : Int) (w : World) : Calls Try.prog 5 #[.int .i64 id, .int .i64 pr] w fun e w' => e = .returned (.bool true) ∧ Keeps w w' := by
  obtain ⟨i, hi', ei⟩ := wrap_mod id 256 (by decide)
  obtain ⟨q, hq', eq⟩ := wrap_mod pr 16 (by decide)
  have hi : i < 256 := by omega
  have hq : q < 16 := by omega
  have hst := WI.start (n := 1) (by decide) (by decide) w
  rw [show ((1 : Nat) : Int) = 1 from rfl] at hst
  replace hst := Lib.hid hst
  have hi := Lib.hid hi
  have hq := Lib.hid hq
  go_enter Try.func5, Try.ntmps5
  go_wp2_with fail
  refine hst.out.mono ?_
  rintro e W0 ⟨k, p, rb, cap, pp, bb, rfl, hI⟩
  clear hst
  have hs := hI.post i 0
  rw [cl_post0 i hi.out] at hs
  replace hs := Lib.hid hs
  clear hI
  go_wp2_with fail
  with_reducible refine hs.out.mono ?_
  rintro e W1 ⟨rfl, hI⟩
  clear hs
  have hs := hI.set i q
  rw [cl_set i q hi.out hq.out] at hs
  replace hs := Lib.hid hs
  clear hI
  go_wp2_with fail
  with_reducible refine hs.out.mono ?_
  rintro e W2 ⟨rfl, hI⟩
  clear hs
  have hs := hI.post i 0
  rw [cl_post1 i q hi.out] at hs
  replace hs := Lib.hid hs
  clear hI
  go_wp2_with fail
  with_reducible refine hs.out.mono ?_
  rintro e W3 ⟨rfl, hI⟩
  clear hs
  have hs := hI.state i
  rw [cl_state2 i q hi.out] at hs
  replace hs := Lib.hid hs
  replace hI := Lib.hid hI
  go_wp2_with fail
  with_reducible refine hs.out.mono ?_
  rintro e W4 ⟨rfl, hK⟩
  replace hI := hI.out.kept hK
  clear hK hs
  have hs := hI.shut1 i _ rfl
  rw [cl_shut1 i q hi.out] at hs
  replace hs := Lib.hid hs
  clear hI
  go_wp2_with fail
  with_reducible refine hs.out.mono ?_
  rintro e W5 ⟨rfl, hI⟩
  clear hs
  have hs := hI.shut1 i _ rfl
  rw [cl_shut2 i q hi.out] at hs
  replace hs := Lib.hid hs
  clear hI
  go_wp2_with fail
  with_reducible refine hs.out.mono ?_
  rintro e W6 ⟨rfl, hI⟩
  clear hs
  have hs := hI.state i
  rw [cl_state3 i q hi.out] at hs
  replace hs := Lib.hid hs
  replace hI := Lib.hid hI
  go_wp2_with fail
  with_reducible refine hs.out.mono ?_
  rintro e W7 ⟨rfl, hK⟩
  replace hI := hI.out.kept hK
  clear hK hs
  have hs := hI.set i q
  rw [cl_set2 i q hi.out hq.out] at hs
  replace hs := Lib.hid hs
  clear hI
  go_wp2_with fail
  with_reducible refine hs.out.mono ?_
  rintro e W8 ⟨rfl, hI⟩
  clear hs
  have hs := hI.post i 0
  rw [cl_post2 i q hi.out] at hs
  replace hs := Lib.hid hs
  clear hI
  go_wp2_with fail
  with_reducible refine hs.out.mono ?_
  rintro e W9 ⟨rfl, hI⟩
  clear hs
  have hs := hI.begin 0 1
  rw [cl_begin0 i q] at hs
  replace hs := Lib.hid hs
  clear hI
  go_wp2_with fail
  with_reducible refine hs.out.mono ?_
  rintro e W10 ⟨rfl, hI⟩
  clear hs
  have hs := hI.clear i
  rw [cl_clear i q hi.out] at hs
  replace hs := Lib.hid hs
  clear hI
  go_wp2_with fail
  with_reducible refine hs.out.mono ?_
  rintro e W11 ⟨rfl, hI⟩
  clear hs
  have hs := hI.state i
  rw [cl_state0 i hi.out] at hs
  replace hs := Lib.hid hs
  replace hI := Lib.hid hI
  go_wp2_with fail
  with_reducible refine hs.out.mono ?_
  rintro e W12 ⟨rfl, hK⟩
  replace hI := hI.out.kept hK
  clear hK hs
  have hs := hI.post i 0
  rw [cl_post0 i hi.out] at hs
  replace hs := Lib.hid hs
  clear hI
  go_wp2_with fail
  with_reducible refine hs.out.mono ?_
  rintro e W13 ⟨rfl, hI⟩
  clear hs
  have hs := hI.set i q
  rw [cl_set i q hi.out hq.out] at hs
  replace hs := Lib.hid hs
  clear hI
  go_wp2_with fail
  with_reducible refine hs.out.mono ?_
  rintro e W14 ⟨rfl, hI⟩
  clear hs
  have hs := hI.post i 0
  rw [cl_post1 i q hi.out] at hs
  replace hs := Lib.hid hs
  clear hI
  go_wp2_with fail
  with_reducible refine hs.out.mono ?_
  rintro e W15 ⟨rfl, hI⟩
  clear hs
  have hs := hI.begin 0 1
  rw [cl_begin1 i q] at hs
  replace hs := Lib.hid hs
  clear hI
  go_wp2_with fail
  with_reducible refine hs.out.mono ?_
  rintro e W16 ⟨rfl, hI⟩
  clear hs
  have hk := known27_any W16
  replace hk := Lib.hid hk
  replace hI := Lib.hid hI
  go_wp2_with fail
  with_reducible refine hk.out.mono ?_
  rintro e W17 ⟨rfl, hK⟩
  replace hI := hI.out.kept hK
  clear hK hk
  have hs := hI.clear i
  rw [cl_busy i q hi.out] at hs
  replace hs := Lib.hid hs
  clear hI
  go_wp2_with fail
  with_reducible refine hs.out.mono ?_
  rintro e W18 ⟨rfl, hI⟩
  clear hs
  have hs := hI.post i 0
  rw [(by rw [cl_same i q hi.out]; exact cl_post3 i q hi.out : (postW 1 (clearW (c5 i q) i).1 i 0).2 = 0)] at hs
  replace hs := Lib.hid hs
  clear hI
  go_wp2_with fail
  with_reducible refine hs.out.mono ?_
  rintro e W19 ⟨rfl, hI⟩
  clear hs
  replace hI := Lib.hid hI
  go_wp2_with fail
  go_ret
  exact ⟨rfl, hI.out.keeps⟩
end Go.Proofs.Ytcggbfpangnllaa
