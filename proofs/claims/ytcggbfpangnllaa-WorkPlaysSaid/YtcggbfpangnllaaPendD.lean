/- Where, Runs, Of, Ready, Len. -/
import Derived.Test.YtcggbfpangnllaaPendC
namespace Go.Proofs.Ytcggbfpangnllaa
open Go.RowKit Go.Shelf i64
attribute [local go_sem] Oper.semAt_some

/-- Who runs where: the cells behind the queues. -/
def restL (fr fo : Nat → Int) : List Value := (List.range 256).map (fun i => .int .i64 (fr i)) ++ (List.range 32).map fun i => .int .i64 (fo i)
theorem restL_zero : restL (fun _ => 0) (fun _ => 0) = rest0 := by kernel_rfl
def updI (f : Nat → Int) (i : Nat) (v : Int) : Nat → Int := fun k => if k = i then v else f k
theorem restL_fr (fr fo : Nat → Int) (i : Nat) (h : i < 256) : (restL fr fo)[i]? = some (.int .i64 (fr i)) := by
  unfold restL
  rw [List.getElem?_append_left (by simpa using h)]
  simp [h]
theorem restL_fo (fr fo : Nat → Int) (i : Nat) (h : i < 32) : (restL fr fo)[256 + i]? = some (.int .i64 (fo i)) := by
  unfold restL
  rw [List.getElem?_append_right (by simp)]
  simp [h]
theorem map_range_set (n : Nat) (f : Nat → Int) (i : Nat) (v : Int) : ((List.range n).map fun k => Value.int .i64 (f k)).set i (.int .i64 v) = (List.range n).map fun k => .int .i64 (updI f i v k) := by
  apply List.ext_getElem?
  intro k
  rw [List.getElem?_set]
  by_cases e : i = k
  · subst e
    by_cases h : i < n
    · simp [h, updI]
    · simp [h]
  · rw [if_neg e]
    by_cases h : k < n
    · simp [h, updI, Ne.symm e]
    · simp [h]
theorem restL_setR (fr fo : Nat → Int) (i : Nat) (h : i < 256) (v : Int) : (restL fr fo).set i (.int .i64 v) = restL (updI fr i v) fo := by
  unfold restL
  rw [List.set_append_left _ _ (by simpa using h), map_range_set]
theorem restL_setO (fr fo : Nat → Int) (i : Nat) (v : Int) : (restL fr fo).set (256 + i) (.int .i64 v) = restL fr (updI fo i v) := by
  unfold restL
  rw [List.set_append_right _ _ (by simp)]
  simp only [List.length_map, List.length_range, Nat.add_sub_cancel_left]
  rw [map_range_set]
section
variable {w : World} {p rb cap n : Nat} {pp bb : Nat → Nat} {fr fo : Nat → Int} {R : List (List Int)}
theorem PendAt.cFr (h : PendAt w p rb cap n pp bb (restL fr fo) R) (i : Nat) (hi : i < 256) : w.cell? ⟨p, 1 + i, none⟩ = some (.int .i64 (fr i)) := by rw [Nat.add_comm]; exact h.cR i (restL_fr fr fo i hi)
theorem PendAt.cFo (h : PendAt w p rb cap n pp bb (restL fr fo) R) (i : Nat) (hi : i < 32) : w.cell? ⟨p, 257 + i, none⟩ = some (.int .i64 (fo i)) := by
  have := h.cR (256 + i) (restL_fo fr fo i hi)
  rwa [show 256 + i + 1 = 257 + i by omega] at this
end
set_option maxHeartbeats 400000 in
theorem eqId_any (b : Nat) (id x : Int) (w : World) (hb : Boxed w b 3 (.int .i64 id)) : Calls Try.prog 66 (#[.int .i64 x] ++ #[.pointer (some ⟨b, 0, none⟩)]) w fun e w' => e = .returned (.bool (x == id)) ∧ w = w' := by
  have hc := hb.cell
  show Calls Try.prog 66 #[.int .i64 x, .pointer (some ⟨b, 0, none⟩)] w _
  go_enter Try.func66, Try.ntmps66
  go_wp2
  go_ret
  exact ⟨rfl, rfl⟩
set_option maxHeartbeats 400000 in
theorem eqId2_any (b : Nat) (id x : Int) (w : World) (hb : Boxed w b 3 (.int .i64 id)) : Calls Try.prog 63 (#[.int .i64 x] ++ #[.pointer (some ⟨b, 0, none⟩)]) w fun e w' => e = .returned (.bool (x == id)) ∧ w = w' := by
  have hc := hb.cell
  show Calls Try.prog 63 #[.int .i64 x, .pointer (some ⟨b, 0, none⟩)] w _
  go_enter Try.func63, Try.ntmps63
  go_wp2
  go_ret
  exact ⟨rfl, rfl⟩
set_option maxHeartbeats 400000 in
theorem find_nil (g : Nat) (lb : Array Value) (w : World) : Calls Try.prog 62 #[.pointer none, .func (.func g) #[] lb] w fun e w' => e = .returned (.tuple #[.int .i64 0, .int .i64 0, .bool false]) ∧ Keeps w w' := by
  go_enter Try.func62, Try.ntmps62
  go_wp2
  have b4 : Boxed ((((w.alloc (.cells #[.func (.func g) #[] lb] 92)).alloc (.cells #[.int .i64 0] 3)).alloc (.cells #[.int .i64 0] 3)).alloc (.cells #[.bool false] 4)) (w.heap.size + 1) 3 (.int .i64 0) := by
    have := Boxed.new (w.alloc (.cells #[.func (.func g) #[] lb] 92)) 3 (.int .i64 0)
    rw [World.size_alloc] at this; exact (this.alloc _).alloc _
  have b5 : Boxed ((((w.alloc (.cells #[.func (.func g) #[] lb] 92)).alloc (.cells #[.int .i64 0] 3)).alloc (.cells #[.int .i64 0] 3)).alloc (.cells #[.bool false] 4)) (w.heap.size + 1 + 1) 3 (.int .i64 0) := by
    have := Boxed.new ((w.alloc (.cells #[.func (.func g) #[] lb] 92)).alloc (.cells #[.int .i64 0] 3)) 3 (.int .i64 0)
    rw [World.size_alloc, World.size_alloc] at this; exact this.alloc _
  have b6 : Boxed ((((w.alloc (.cells #[.func (.func g) #[] lb] 92)).alloc (.cells #[.int .i64 0] 3)).alloc (.cells #[.int .i64 0] 3)).alloc (.cells #[.bool false] 4)) (w.heap.size + 1 + 1 + 1) 4 (.bool false) := by
    have := Boxed.new (((w.alloc (.cells #[.func (.func g) #[] lb] 92)).alloc (.cells #[.int .i64 0] 3)).alloc (.cells #[.int .i64 0] 3)) 4 (.bool false)
    rw [World.size_alloc, World.size_alloc, World.size_alloc] at this; exact this
  refine bodyPost_ret (results_cells3 (fn := Try.f62) rfl _ rfl rfl rfl (load_scalar Try.underlying3 rfl b4.cell) (load_scalar Try.underlying3 rfl b5.cell) (load_scalar Try.underlying4 rfl b6.cell)) rfl ⟨rfl, (((Keeps.alloc _ _).trans (Keeps.alloc _ _)).trans (Keeps.alloc _ _)).trans (Keeps.alloc _ _)⟩
set_option maxHeartbeats 400000 in
theorem where_nil (id : Int) (w : World) : Calls Try.prog 42 #[.pointer none, .int .i64 id] w fun e w' => e = .returned (.tuple #[.int .i64 0, .bool false]) ∧ Keeps w w' := by
  have hf := find_nil 66 #[.pointer (some ⟨w.heap.size, 0, none⟩)] (w.alloc (.cells #[.int .i64 id] 3))
  have hK0 : Keeps w (w.alloc (.cells #[.int .i64 id] 3)) := Keeps.alloc _ _
  replace hf := Lib.hid hf
  replace hK0 := Lib.hid hK0
  go_enter Try.func42, Try.ntmps42
  go_wp2_with fail
  refine hf.out.mono ?_
  rintro e w' ⟨rfl, hK⟩
  replace hK := Lib.hid hK
  go_wp2_with fail
  go_ret2
  exact ⟨rfl, hK0.out.trans hK.out⟩
set_option maxHeartbeats 400000 in
theorem runs_nil (id : Int) (w : World) : Calls Try.prog 36 #[.pointer none, .int .i64 id] w fun e w' => e = .returned (.tuple #[.int .i64 0, .bool false]) ∧ w = w' := by
  go_enter Try.func36, Try.ntmps36
  go_wp2
  go_ret2
  exact ⟨rfl, rfl⟩
set_option maxHeartbeats 400000 in
theorem of_nil (c : Int) (w : World) : Calls Try.prog 33 #[.pointer none, .int .i64 c] w fun e w' => e = .returned (.tuple #[.int .i64 0, .bool false]) ∧ w = w' := by
  go_enter Try.func33, Try.ntmps33
  go_wp2
  go_ret2
  exact ⟨rfl, rfl⟩
/-- Where it is. -/
def whC (R : List (List Int)) (id : Int) : Int := findC R (· == id)
def whA (R : List (List Int)) (id : Int) : Int := findA R (· == id)
def whB (R : List (List Int)) (id : Int) : Bool := findB R (· == id)
section
variable {w : World} {p rb cap n : Nat} {pp bb : Nat → Nat} {rest : List Value} {fr fo : Nat → Int} {R : List (List Int)}
set_option maxHeartbeats 400000 in
theorem where_any (h : PendAt w p rb cap n pp bb rest R) (id : Int) : Calls Try.prog 42 #[.pointer (some ⟨p, 0, none⟩), .int .i64 id] w fun e w' => e = .returned (.tuple #[.int .i64 (whC R id), .bool (whB R id)]) ∧ Keeps w w' := by
  have hK0 : Keeps w (w.alloc (.cells #[.int .i64 id] 3)) := Keeps.alloc _ _
  have hb := Boxed.new w 3 (.int .i64 id)
  have hf := find_any (h.keeps hK0) (· == id) 66 #[.pointer (some ⟨w.heap.size, 0, none⟩)] (enters_of Try.func66 (by kernel_rfl) rfl) (fun x W hW => eqId_any _ id x W (Blk.keeps (cs := [_]) hb hW))
  replace hf := Lib.hid hf
  replace hK0 := Lib.hid hK0
  clear h hb
  go_enter Try.func42, Try.ntmps42
  go_wp2_with fail
  refine hf.out.mono ?_
  rintro e w' ⟨rfl, hK⟩
  replace hK := Lib.hid hK
  go_wp2_with fail
  go_ret2
  exact ⟨rfl, hK0.out.trans hK.out⟩
set_option maxHeartbeats 400000 in
theorem runs_no (p : Nat) (w : World) (id : Int) (hid : ¬ (0 ≤ id ∧ id < 256)) : Calls Try.prog 36 #[.pointer (some ⟨p, 0, none⟩), .int .i64 id] w fun e w' => e = .returned (.tuple #[.int .i64 0, .bool false]) ∧ w = w' := by
  have ht := thing_any id w
  rw [decide_eq_false hid] at ht
  replace ht := Lib.hid ht
  go_enter Try.func36, Try.ntmps36
  go_wp2_with (first | (with_reducible refine ht.out.mono ?_; rintro e w' ⟨rfl, rfl⟩) | fail)
  go_ret2
  exact ⟨rfl, rfl⟩
set_option maxRecDepth 100000 in
set_option maxHeartbeats 400000 in
theorem runs_any (h : PendAt w p rb cap n pp bb (restL fr fo) R) (id : Nat) (hid : id < 256) : Calls Try.prog 36 #[.pointer (some ⟨p, 0, none⟩), .int .i64 id] w fun e w' => e = .returned (.tuple #[.int .i64 (if fr id = 0 then 0 else wrap64 (fr id - 1)), .bool (fr id != 0)]) ∧ w = w' := by
  have ht := thing_any id w
  rw [decide_eq_true (by omega)] at ht
  have hc := h.cFr id hid
  have h0 : (0 : Int) ≤ (id : Int) := by omega
  have h1 : (id : Int) < 256 := by omega
  replace ht := Lib.hid ht
  clear h
  by_cases hz : fr id = 0
  · rw [hz] at hc ⊢
    go_enter Try.func36, Try.ntmps36
    go_wp2_with (first | (with_reducible refine ht.out.mono ?_; rintro e w' ⟨rfl, rfl⟩) | fail)
    go_ret2
    exact ⟨rfl, rfl⟩
  · rw [if_neg hz, show (fr id != 0) = true by simpa using hz]
    go_enter Try.func36, Try.ntmps36
    go_wp2_with (first | (with_reducible refine ht.out.mono ?_; rintro e w' ⟨rfl, rfl⟩) | fail)
    go_ret2
    exact ⟨rfl, rfl⟩
set_option maxHeartbeats 400000 in
theorem of_no (p : Nat) (w : World) (c : Int) (hc : ¬ (0 ≤ c ∧ c < 32)) : Calls Try.prog 33 #[.pointer (some ⟨p, 0, none⟩), .int .i64 c] w fun e w' => e = .returned (.tuple #[.int .i64 0, .bool false]) ∧ w = w' := by
  have hcase : c < 0 ∨ (¬ c < 0 ∧ 32 ≤ c) := by omega
  clear hc
  rcases hcase with h1 | ⟨h1, h2⟩
  all_goals
    go_enter Try.func33, Try.ntmps33
    go_wp2
    go_ret2
    exact ⟨rfl, rfl⟩
set_option maxRecDepth 100000 in
set_option maxHeartbeats 400000 in
theorem of_any (h : PendAt w p rb cap n pp bb (restL fr fo) R) (c : Nat) (hc : c < 32) : Calls Try.prog 33 #[.pointer (some ⟨p, 0, none⟩), .int .i64 c] w fun e w' => e = .returned (.tuple #[.int .i64 (if fo c = 0 then 0 else wrap64 (fo c - 1)), .bool (fo c != 0)]) ∧ w = w' := by
  have hc1 := h.cFo c hc
  have h0 : (0 : Int) ≤ (c : Int) := by omega
  have h00 : ¬ (c : Int) < 0 := by omega
  have h1 : (c : Int) < 32 := by omega
  have h2 : ¬ (32 : Int) ≤ (c : Int) := by omega
  clear h
  by_cases hz : fo c = 0
  · rw [hz] at hc1 ⊢
    go_enter Try.func33, Try.ntmps33
    go_wp2
    go_ret2
    exact ⟨rfl, rfl⟩
  · rw [if_neg hz, show (fo c != 0) = true by simpa using hz]
    go_enter Try.func33, Try.ntmps33
    go_wp2
    go_ret2
    exact ⟨rfl, rfl⟩
end
end Go.Proofs.Ytcggbfpangnllaa
