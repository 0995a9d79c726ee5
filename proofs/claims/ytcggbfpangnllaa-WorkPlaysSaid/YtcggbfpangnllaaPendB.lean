/- Queues: queue, Queue, all, find. -/
import Derived.Test.YtcggbfpangnllaaPendA
namespace Go.Proofs.Ytcggbfpangnllaa
open Go.RowKit Go.Shelf i64
attribute [local go_sem] Oper.semAt_some

section
variable {w : World} {p rb cap n : Nat} {pp bb : Nat → Nat} {rest : List Value} {R : List (List Int)}
set_option maxHeartbeats 400000 in
theorem queue_nil (c : Int) (w : World) : Calls Try.prog 57 #[.pointer none, .int .i64 c] w fun e w' => e = .returned (.pointer none) ∧ w = w' := by
  go_enter Try.func57, Try.ntmps57
  go_wp2
  go_ret
  exact ⟨rfl, rfl⟩
set_option maxHeartbeats 400000 in
theorem queue_out (h : PendAt w p rb cap n pp bb rest R) (c : Int) (hc : c < 0 ∨ (n : Int) ≤ c) : Calls Try.prog 57 #[.pointer (some ⟨p, 0, none⟩), .int .i64 c] w fun e w' => e = .returned (.pointer none) ∧ w = w' := by
  have c0 := h.c0
  have hcase : c < 0 ∨ (¬ c < 0 ∧ (n : Int) ≤ c) := by omega
  clear h hc
  rcases hcase with h1 | ⟨h1, h2⟩
  all_goals
    go_enter Try.func57, Try.ntmps57
    go_wp2
    go_ret
    exact ⟨rfl, rfl⟩
set_option maxHeartbeats 400000 in
theorem queue_in (h : PendAt w p rb cap n pp bb rest R) (c : Nat) (hc : c < n) : Calls Try.prog 57 #[.pointer (some ⟨p, 0, none⟩), .int .i64 c] w fun e w' => e = .returned (.pointer (some ⟨pp c, 0, none⟩)) ∧ w = w' := by
  have c0 := h.c0
  have cp := h.ptr c hc
  have hcI : (c : Int) < (n : Int) := by omega
  have hc0 : ¬ (c : Int) < 0 := by omega
  have hc00 : (0 : Int) ≤ (c : Int) := by omega
  have hnc := h.hn
  have hncap := h.hcap
  unfold maxLen at hncap
  clear h
  go_enter Try.func57, Try.ntmps57
  go_wp2
  go_ret
  exact ⟨rfl, rfl⟩
set_option maxHeartbeats 400000 in
theorem thing_any (a : Int) (w : World) : Calls Try.prog 58 #[.int .i64 a] w fun e w' => e = .returned (.bool (decide (0 ≤ a ∧ a < 256))) ∧ w = w' := by
  by_cases h0 : 0 ≤ a
  · by_cases h1 : a < 256
    · have e : decide (0 ≤ a ∧ a < 256) = true := decide_eq_true ⟨h0, h1⟩
      rw [e]
      go_enter Try.func58, Try.ntmps58
      go_wp2
      go_ret
      exact ⟨rfl, rfl⟩
    · have e : decide (0 ≤ a ∧ a < 256) = false := decide_eq_false (by omega)
      rw [e]
      go_enter Try.func58, Try.ntmps58
      go_wp2
      go_ret
      exact ⟨rfl, rfl⟩
  · have e : decide (0 ≤ a ∧ a < 256) = false := decide_eq_false (by omega)
    rw [e]
    go_enter Try.func58, Try.ntmps58
    go_wp2
    go_ret
    exact ⟨rfl, rfl⟩
/-- A CPU's queue. -/
def qL (R : List (List Int)) (c : Int) : List Int := if 0 ≤ c then R.getD c.toNat [] else []
theorem qL_nat (R : List (List Int)) (c : Nat) : qL R (c : Int) = R.getD c [] := by simp [qL]
theorem qL_out (h : PendAt w p rb cap n pp bb rest R) (c : Int) (hc : c < 0 ∨ (n : Int) ≤ c) : qL R c = [] := by
  unfold qL
  split
  · have : R.length ≤ c.toNat := by have := h.len; omega
    simp [List.getD, this]
  · rfl
end
/-- The things of a queue, with their places. -/
def placed (l : List Int) (k : Nat) : List (Nat × Int) := (List.range k).map fun j => (j, l.getD j 0)
theorem placed_succ (l : List Int) (k : Nat) : placed l (k + 1) = placed l k ++ [(k, l.getD k 0)] := by simp [placed, List.range_succ]
theorem placed_len (l : List Int) (k : Nat) : (placed l k).length = k := by simp [placed]
theorem placed_pre (l : List Int) (k m : Nat) (h : k ≤ m) : placed l k <+: placed l m := by
  obtain ⟨d, rfl⟩ := Nat.exists_eq_add_of_le h
  unfold placed
  rw [List.range_add, List.map_append]
  exact List.prefix_append _ _
set_option maxRecDepth 100000 in
set_option maxHeartbeats 2000000 in
/-- **all's function**, at a queue that there is. -/
theorem pall1_in (l B1 B2 n₀ O p rb cap n c : Nat) (pp bb : Nat → Nat) (rest : List Value) (R : List (List Int)) (J Jx : List (Nat × Int) → World → Prop) (W : World)
    (hY : ∀ pre x W1, J pre W1 → pre.length < (R.getD c []).length → YieldAt Fence.wide 7 Try.prog l #[.int .i64 (x.1 : Nat), .int .i64 x.2] W1 fun e W' =>
      (e = .returned (.bool true) ∧ J (pre ++ [x]) W' ∧ KeepC n₀ O W1 W') ∨ (e = .returned (.bool false) ∧ Jx (pre ++ [x]) W'))
    (hJk : ∀ pre W1 W2, W.heap.size ≤ W1.heap.size → J pre W1 → Keeps W1 W2 → J pre W2)
    (hB1 : Boxed W B1 64 (.pointer (some ⟨p, 0, none⟩))) (hB2 : Boxed W B2 3 (.int .i64 c))
    (hOl : O < W.heap.size) (_hn : n₀ ≤ W.heap.size) (hcn : c < n) (hA : PendAt W p rb cap n pp bb rest R) (h0 : J [] W) :
    CallsIn Fence.wide 8 Try.prog 78 #[.func (.yield l) #[] #[], .pointer (some ⟨B1, 0, none⟩), .pointer (some ⟨B2, 0, none⟩)] W fun e W' => (∃ v, e = .returned v) ∧
      ((∃ ys, ys = placed (R.getD c []) (R.getD c []).length ∧ J ys W') ∨ (∃ pre, pre <+: placed (R.getD c []) (R.getD c []).length ∧ Jx pre W')) := by
  have hc1 := hB1.cell
  have hc2 := hB2.cell
  obtain ⟨hd, hR⟩ := hA.ring c hcn
  have hql := hR.len
  have hq := queue_in hA c hcn
  have hli := list_any hR
  refine callsIn_of_wp Try.func78 rfl trivial ?_ rfl
  simp only [Try.ntmps78, List.size_toArray, List.length_cons, List.length_nil, Nat.reduceAdd, Nat.reduceSub, Array.replicate_succ, Array.replicate_zero, List.push_toArray, List.append_toArray, List.nil_append, List.cons_append]
  gi_wp2
  refine ⟨trivial, (callsIn_wide.2 hq).mono ?_⟩
  rintro e w' ⟨rfl, rfl⟩
  gi_wp2
  refine ⟨trivial, (callsIn_wide.2 hli).mono ?_⟩
  rintro e W1 ⟨v, rfl, hrow, hK⟩
  have hSl := slc_of_row hrow
  have hsep : ∀ b off l c, v = .slice (some ⟨b, off, none⟩) l c → b ≠ O := fun b off l c e => by have := slc_row_lt hrow b off l c e; omega
  obtain ⟨q, cap2, rfl, hl, hc, _, _⟩ := id hSl
  rw [List.length_map] at hl
  unfold maxLen at hc
  have hJ1 := hJk [] W W1 (Nat.le_refl _) h0 hK
  have hs1 := hK.size
  rw [List.length_map]
  obtain ⟨Q, hQ⟩ : ∃ Q, Q = R.getD c [] := ⟨_, rfl⟩
  rw [← hQ] at hSl hsep hl hql hY ⊢
  replace hsep := Lib.hid hsep
  replace hSl := Lib.hid hSl
  replace hY := Lib.hid hY
  replace hJk := Lib.hid hJk
  replace hQ := Lib.hid hQ
  clear hrow hc1 hc2 h0 hA hR hq hli
  gi_wp2
  gi_loopw [11] (fun i wr => ∃ k : Nat, k ≤ Q.length ∧ i = .int .i64 k ∧ KeepC n₀ O W1 wr ∧ J (placed Q k) wr) (fun i _ => Q.length - (intOf i).toNat)
  case atStart => exact ⟨0, Nat.zero_le _, rfl, KeepC.refl _ _ _, hJ1⟩
  case round =>
    clear hJ1
    obtain ⟨k, hk, rfl, hKC, hJs⟩ := hrel
    by_cases hlt : k < Q.length
    · obtain ⟨q', cap', hv', _, _, _, hcell⟩ := hKC.slc hSl.out hsep.out
      obtain ⟨b, off, hp, hcr⟩ := hcell k (by rw [List.length_map]; exact hlt)
      have hq : q = some ⟨b, off, none⟩ := by simp at hv'; rw [hv'.1]; exact hp
      subst hq
      replace hcr : wr.cell? ⟨b, off + k, none⟩ = some (.int .i64 (Q.getD k 0)) := by rw [hcr]; simp [List.getD, hlt]
      have hsc := placed_succ Q k
      have hpr := placed_pre Q (k + 1) Q.length hlt
      have hy0 := hY.out (placed Q k) (k, Q.getD k 0) wr hJs (by rw [placed_len]; exact hlt)
      rw [hsc] at hpr
      simp only at hy0
      have hk0 : (0 : Int) ≤ (k : Int) := by omega
      have hk1 : (k : Int) < (Q.length : Int) := by omega
      obtain ⟨x, hx⟩ : ∃ x, x = Q.getD k 0 := ⟨_, rfl⟩
      rw [← hx] at hsc hpr hy0 hcr
      replace hsc := Lib.hid hsc
      replace hpr := Lib.hid hpr
      replace hx := Lib.hid hx
      clear hcell hv' hp
      obtain ⟨fn, tmps, assign, body, hy, hRd⟩ := hy0
      gi_wp2
      refine hRd.mono ?_
      rintro e W3 (⟨rfl, hJ3, hk3⟩ | ⟨rfl, hJx3⟩)
      · gi_wp2
        go_roundw
        case rel => exact ⟨k + 1, by omega, by go_num, hKC.trans hk3, by rw [hsc.out]; exact hJ3⟩
        case measure => (simp [intOf]; try omega)
      · gi_wp2
        refine bodyPost_ret (results_none rfl _ _ _) rfl ?_
        exact ⟨⟨_, rfl⟩, .inr ⟨placed Q k ++ [(k, x)], by rw [← hQ.out]; exact hpr.out, hJx3⟩⟩
    · obtain rfl : k = Q.length := by omega
      gi_wp2
      go_end0
      exact ⟨⟨_, rfl⟩, .inl ⟨_, rfl, by rw [← hQ.out]; exact hJs⟩⟩
theorem pall_stops (B1 B2 n₀ O p rb cap n c : Nat) (pp bb : Nat → Nat) (rest : List Value) (R : List (List Int)) (w : World) (hB1 : Boxed w B1 64 (.pointer (some ⟨p, 0, none⟩))) (hB2 : Boxed w B2 3 (.int .i64 c))
    (hOl : O < w.heap.size) (hn : n₀ ≤ w.heap.size) (hcn : c < n) (hA : PendAt w p rb cap n pp bb rest R) :
    SeqStopsK Fence.wide 8 Try.prog 78 #[.pointer (some ⟨B1, 0, none⟩), .pointer (some ⟨B2, 0, none⟩)] (fun x : Nat × Int => #[Value.int .i64 (x.1 : Int), .int .i64 x.2]) (KeepC n₀ O) (fun ys => ys = placed (R.getD c []) (R.getD c []).length) (fun pre => pre <+: placed (R.getD c []) (R.getD c []).length) (R.getD c []).length w := fun l J Jx W hW hJ _ hY h0 =>
  pall1_in l B1 B2 n₀ O p rb cap n c pp bb rest R J Jx W hY (fun pre W1 W2 _ h hk => hJ pre W1 _ none h (keeps_grown hk) (fun r e => by cases e))
    ((hW.block B1 hB1.lt).trans hB1) ((hW.block B2 hB2.lt).trans hB2) (Nat.lt_of_lt_of_le hOl hW.size) (Nat.le_trans hn hW.size) hcn (hA.keeps hW) h0
set_option maxHeartbeats 400000 in
theorem pall_any (q a : Value) (hq : ∃ x, q = .pointer x) (ha : ∃ x, a = .int .i64 x) (w : World) :
    Calls Try.prog 76 #[q, a] w fun e w' => e = .returned (.func (.func 78) #[] #[.pointer (some ⟨w.heap.size, 0, none⟩), .pointer (some ⟨w.heap.size + 1, 0, none⟩)]) ∧ (w.alloc (.cells #[q] 64)).alloc (.cells #[a] 3) = w' := by
  obtain ⟨x, rfl⟩ := hq
  obtain ⟨y, rfl⟩ := ha
  go_enter Try.func76, Try.ntmps76
  go_wp2
  go_ret
  exact ⟨rfl, rfl⟩
end Go.Proofs.Ytcggbfpangnllaa
