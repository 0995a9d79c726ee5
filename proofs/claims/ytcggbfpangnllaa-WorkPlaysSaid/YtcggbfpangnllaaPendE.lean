/- Len, Ready, Begin, End. -/
import Derived.Test.YtcggbfpangnllaaPendD
namespace Go.Proofs.Ytcggbfpangnllaa
open Go.RowKit Go.Shelf i64
attribute [local go_sem] Oper.semAt_some

/-- How many are queued in the first k queues. -/
def lenTo (R : List (List Int)) (k : Nat) : Nat := ((R.take k).map List.length).sum
theorem lenTo_zero (R : List (List Int)) : lenTo R 0 = 0 := rfl
theorem lenTo_succ (R : List (List Int)) (k : Nat) (hk : k < R.length) : lenTo R (k + 1) = lenTo R k + (R.getD k []).length := by
  unfold lenTo
  rw [List.take_succ_eq_append_getElem hk, List.map_append, List.sum_append]
  simp [List.getD, hk]
theorem lenTo_le (R : List (List Int)) (h : ∀ i, i < R.length → (R.getD i []).length ≤ 256) (k : Nat) (hk : k ≤ R.length) : lenTo R k ≤ 256 * k := by
  induction k with
  | zero => simp [lenTo]
  | succ k ih =>
    have h1 := ih (by omega)
    have h2 := h k (by omega)
    rw [lenTo_succ R k (by omega)]; omega
section
variable {w : World} {p rb cap n : Nat} {pp bb : Nat → Nat} {rest : List Value} {fr fo : Nat → Int} {R : List (List Int)}
set_option maxHeartbeats 400000 in
theorem ready_nil (c : Int) (w : World) : Calls Try.prog 51 #[.pointer none, .int .i64 c] w fun e w' => e = .returned (.tuple #[.int .i64 0, .bool false]) ∧ w = w' := by
  have hq := queue_nil c w
  have ha := at_no (.pointer none) 0 w (.inl rfl)
  have hr := runs_nil 0 w
  replace hq := Lib.hid hq
  replace ha := Lib.hid ha
  replace hr := Lib.hid hr
  go_enter Try.func51, Try.ntmps51
  go_wp2_with fail
  refine hq.out.mono ?_
  rintro e w' ⟨rfl, rfl⟩
  go_wp2_with fail
  refine ha.out.mono ?_
  rintro e w' ⟨rfl, rfl⟩
  go_wp2_with fail
  refine hr.out.mono ?_
  rintro e w' ⟨rfl, rfl⟩
  go_wp2_with fail
  go_ret2
  exact ⟨rfl, rfl⟩
/-- A queue without a first thing. -/
theorem queue_cases (h : PendAt w p rb cap n pp bb rest R) (c : Int) : (∃ q, Calls Try.prog 57 #[.pointer (some ⟨p, 0, none⟩), .int .i64 c] w fun e w' => e = .returned (.pointer q) ∧ w = w') := by
  by_cases hc : c < 0 ∨ (n : Int) ≤ c
  · exact ⟨_, queue_out h c hc⟩
  · obtain ⟨k, rfl⟩ : ∃ k : Nat, c = k := ⟨c.toNat, by omega⟩
    exact ⟨_, queue_in h k (by omega)⟩
set_option maxHeartbeats 400000 in
theorem ready_no (h : PendAt w p rb cap n pp bb (restL fr fo) R) (c : Int) (hq0 : qL R c = []) : Calls Try.prog 51 #[.pointer (some ⟨p, 0, none⟩), .int .i64 c] w fun e w' => e = .returned (.tuple #[.int .i64 0, .bool false]) ∧ w = w' := by
  obtain ⟨q, hq, ha⟩ : ∃ q, (Calls Try.prog 57 #[.pointer (some ⟨p, 0, none⟩), .int .i64 c] w fun e w' => e = .returned (.pointer q) ∧ w = w') ∧ Calls Try.prog 73 #[.pointer q, .int .i64 0] w fun e w' => e = .returned (.tuple #[.int .i64 0, .bool false]) ∧ w = w' := by
    by_cases hc : c < 0 ∨ (n : Int) ≤ c
    · exact ⟨_, queue_out h c hc, at_no _ 0 w (.inl rfl)⟩
    · obtain ⟨k, rfl⟩ : ∃ k : Nat, c = k := ⟨c.toNat, by omega⟩
      obtain ⟨hd, hR⟩ := h.ring k (by omega)
      rw [qL_nat] at hq0
      rw [hq0] at hR
      exact ⟨_, queue_in h k (by omega), at_no _ 0 w (.inr ⟨_, _, _, _, _, rfl, hR, .inr (by simp)⟩)⟩
  have hr := runs_any h 0 (by decide)
  rw [show ((0 : Nat) : Int) = 0 from rfl] at hr
  replace hq := Lib.hid hq
  replace ha := Lib.hid ha
  replace hr := Lib.hid hr
  clear h
  generalize (if fr 0 = 0 then (0 : Int) else wrap64 (fr 0 - 1)) = z at *
  generalize (fr 0 != 0) = zb at *
  go_enter Try.func51, Try.ntmps51
  go_wp2_with fail
  refine hq.out.mono ?_
  rintro e w' ⟨rfl, rfl⟩
  go_wp2_with fail
  refine ha.out.mono ?_
  rintro e w' ⟨rfl, rfl⟩
  go_wp2_with fail
  refine hr.out.mono ?_
  rintro e w' ⟨rfl, rfl⟩
  go_wp2_with fail
  go_ret2
  exact ⟨rfl, rfl⟩
set_option maxHeartbeats 400000 in
theorem ready_any (h : PendAt w p rb cap n pp bb (restL fr fo) R) (k : Nat) (hk : k < n) (x : Nat) (xs : List Int) (hq0 : R.getD k [] = (x : Int) :: xs) (hx : x < 256) : Calls Try.prog 51 #[.pointer (some ⟨p, 0, none⟩), .int .i64 k] w fun e w' => e = .returned (.tuple #[.int .i64 x, .bool (!(fr x != 0))]) ∧ Keeps w w' := by
  have hq := queue_in h k hk
  obtain ⟨hd, hR⟩ := h.ring k hk
  rw [hq0] at hR
  have ha := at_yes 0 hR (by simp)
  simp only [List.getElem_cons_zero] at ha
  rw [show ((0 : Nat) : Int) = 0 from rfl] at ha
  have hr := fun nq => runs_any (h.keeps (Keeps.drewN w nq)) x hx
  replace hq := Lib.hid hq
  replace ha := Lib.hid ha
  replace hr := Lib.hid hr
  clear h hR hq0
  generalize (if fr x = 0 then (0 : Int) else wrap64 (fr x - 1)) = z at *
  cases hz : (fr x != 0) with
  | _ =>
    rw [hz] at hr
    go_enter Try.func51, Try.ntmps51
    go_wp2_with fail
    refine hq.out.mono ?_
    rintro e w' ⟨rfl, rfl⟩
    go_wp2_with fail
    refine ha.out.mono ?_
    rintro e w' ⟨rfl, nq, rfl⟩
    go_wp2_with fail
    refine (hr.out nq).mono ?_
    rintro e w' ⟨rfl, rfl⟩
    go_wp2_with fail
    go_ret2
    exact ⟨rfl, Keeps.drewN _ _⟩
end
end Go.Proofs.Ytcggbfpangnllaa
