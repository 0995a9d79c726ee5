/- The walks of package calls: Of, all, Open, Newest, Len. -/
import Derived.Test.YtefippjakkgjkaaDoorKCallsA
namespace Go.Proofs.YtefippjakkgjkaaDoor.K
open Go.RowKit

set_option maxHeartbeats 400000 in
theorem lof_nil (c : Int) (w : World) : Calls Tryd.prog 84 #[.pointer none, .int .i64 c] w fun e w' => e = .returned (.slice none 0 0) ∧ w = w' := by
  go_enter Tryd.func84, Tryd.ntmps84
  go_wp2
  go_ret
  exact ⟨rfl, rfl⟩
section
variable {w : World} {p rb cap n : Nat} {pp bb : Nat → Nat} {last : Int} {R : List (List Cl)}
set_option maxHeartbeats 1000000 in
theorem lof_no (h : ListsAt w p rb cap n pp bb last R) (c : Int) (hc : c < 0 ∨ (n : Int) ≤ c) : Calls Tryd.prog 84 #[.pointer (some ⟨p, 0, none⟩), .int .i64 c] w fun e w' => e = .returned (.slice none 0 0) ∧ w = w' := by
  have c0 := h.c0
  have hcase : c < 0 ∨ (¬ c < 0 ∧ (n : Int) ≤ c) := by omega
  clear h hc
  rcases hcase with h1 | ⟨h1, h2⟩
  all_goals
    go_enter Tryd.func84, Tryd.ntmps84
    go_wp2
    go_ret
    exact ⟨rfl, rfl⟩
set_option maxHeartbeats 1000000 in
theorem lof_any (h : ListsAt w p rb cap n pp bb last R) (c : Nat) (hc : c < n) :
    Calls Tryd.prog 84 #[.pointer (some ⟨p, 0, none⟩), .int .i64 c] w fun e w' => ∃ v, e = .returned v ∧ RowS 2 w.heap.size 114 w' v ((R.getD c []).map xc) ∧ Keeps w w' := by
  have hcI : (c : Int) < (n : Int) := by omega
  have hc0 : ¬ (c : Int) < 0 := by omega
  have hc00 : (0 : Int) ≤ (c : Int) := by omega
  have hnc := h.hn
  have hncap := h.hcap
  unfold maxLen at hncap
  have c0 := h.c0
  have cp := h.ptr c hc
  obtain ⟨hd, hR⟩ := h.ring c hc
  have hl := list_any hR
  replace hl := Lib.hid hl
  clear h hR
  go_enter Tryd.func84, Tryd.ntmps84
  go_wp2_with fail
  refine hl.out.mono ?_
  rintro e w2 ⟨v, rfl, hrow, hK⟩
  replace hrow := Lib.hid hrow
  replace hK := Lib.hid hK
  go_wp2_with fail
  go_ret
  exact ⟨v, rfl, hrow.out, hK.out⟩
theorem slcs_nilRow {sz base : Nat} {e : TypeId} {w : World} : RowS sz base e w (.slice none 0 0) [] := RowS.nil sz base e w
set_option maxRecDepth 100000 in
set_option maxHeartbeats 1000000 in
theorem lall_nil (w : World) : Calls Tryd.prog 70 #[.pointer none] w fun e w' => e = .returned (.slice none 0 0) ∧ w = w' := by
  go_enter Tryd.func70, Tryd.ntmps70
  go_wp2
  go_ret
  exact ⟨rfl, rfl⟩
theorem flat_take (R : List (List Cl)) (k : Nat) (hk : k < R.length) : (R.take (k + 1)).flatten = (R.take k).flatten ++ R.getD k [] := by
  rw [List.take_succ_eq_append_getElem hk, List.flatten_append]
  simp [List.getD, hk]
theorem flat_le (R : List (List Cl)) (h : ∀ i, i < R.length → (R.getD i []).length ≤ 64) (k : Nat) (hk : k ≤ R.length) : (R.take k).flatten.length ≤ 64 * k := by
  induction k with
  | zero => simp
  | succ k ih =>
    have h1 := ih (by omega)
    have h2 := h k (by omega)
    rw [flat_take R k (by omega), List.length_append]
    omega
set_option maxRecDepth 100000 in
set_option maxHeartbeats 2000000 in
theorem lall_any (h : ListsAt w p rb cap n pp bb last R) :
    Calls Tryd.prog 70 #[.pointer (some ⟨p, 0, none⟩)] w fun e w' => ∃ v, e = .returned v ∧ RowS 2 w.heap.size 114 w' v (R.flatten.map xc) ∧ Keeps w w' := by
  have c0 := h.c0
  have hnc := h.hn
  have hncap := h.hcap
  have hRl := h.len
  have hn64 := h.n64
  unfold maxLen at hncap
  have hle := flat_le R (fun i hi => by obtain ⟨hd, hR⟩ := h.ring i (by omega); exact hR.len)
  replace h := Lib.hid h
  replace hle := Lib.hid hle
  replace hRl := Lib.hid hRl
  go_enter Tryd.func70, Tryd.ntmps70
  go_wp2_with fail
  go_loopw [3, 12] (fun v i wr => ∃ (k : Nat) (v' : Value), k ≤ n ∧ i = .int .i64 k ∧ v' = v ∧ RowS 2 w.heap.size 114 wr v' ((R.take k).flatten.map xc) ∧ Keeps w wr) (fun _ i _ => n - (intOf i).toNat)
  case atStart => exact ⟨0, _, Nat.zero_le _, rfl, rfl, RowS.nil _ _ _ _, Keeps.refl _⟩
  case round =>
    clear c0
    obtain ⟨k, v, hk, rfl, rfl, hrow, hK⟩ := hrel
    have hkn : k < n ∨ k = n := by omega
    rcases hkn with hlt | rfl
    · have hltI := Int.ofNat_lt.2 hlt
      have hof := lof_any (h.out.keeps hK) k hlt
      replace hof := Lib.hid hof
      have hft := flat_take R k (by have := hRl.out; omega)
      have h1 := hle.out k (by have := hRl.out; omega)
      have h2 := hle.out (k + 1) (by have := hRl.out; omega)
      rw [hft, List.length_append] at h2
      replace hft := Lib.hid hft
      generalize R.getD k [] = X at *
      generalize (R.take k).flatten = F at *
      have hsz := hK.size
      replace hrow := Lib.hid hrow
      replace hK := Lib.hid hK
      go_wp2_with fail
      refine hof.out.mono ?_
      rintro e w2 ⟨v2, rfl, hrow2, hK2⟩
      have hrow1 := rowKeeps' hrow.out hK2
      have hsrc := hrow2.slcs
      have hsz2 := hK2.size
      have hb2 : w.heap.size ≤ w2.heap.size := by omega
      obtain ⟨q1, cap1, hq1⟩ := hrow1.any
      rw [List.length_map] at hq1
      subst hq1
      obtain ⟨q2, cap2, hq2⟩ := hrow2.any
      rw [List.length_map] at hq2
      subst hq2
      have hl1 : (F.map xc).length = F.length := List.length_map _
      have hl2 : (X.map xc).length = X.length := List.length_map _
      replace hrow1 := Lib.hid hrow1
      replace hsrc := Lib.hid hsrc
      replace hK2 := Lib.hid hK2
      replace hl1 := Lib.hid hl1
      replace hl2 := Lib.hid hl2
      clear hrow hrow2 hof
      go_wp2_with (at_builtin; refine appN rfl _ _ 122 114 _ 2 16 rfl Tryd.underlying122 info rfl (by decide) w.heap.size _ _ rfl hrow1.out _ _ rfl hsrc.out (fun el hel => by obtain ⟨x, _, rfl⟩ := List.mem_map.1 hel; exact xc_one x) ?c1 ?c2 ?c3 ?_)
      case c1 => rw [hl1.out, hl2.out]; unfold maxLen; omega
      case c2 => rw [hl1.out, hl2.out]; omega
      case c3 => exact hb2
      intro v4 w4 hrow4 _ hbel
      rw [← List.map_append, ← hft.out] at hrow4
      have hK4 : Keeps w w4 := Below.trans (Keeps.trans hK.out hK2.out) hbel
      replace hrow4 := Lib.hid hrow4
      replace hK4 := Lib.hid hK4
      clear hbel hrow1 hsrc hK hK2
      go_wp2_with fail
      go_roundw
      case rel => exact ⟨k + 1, _, by omega, by go_num, rfl, hrow4.out, hK4.out⟩
      case measure => (simp [intOf]; try omega)
    · rw [← hRl.out, List.take_of_length_le (Nat.le_refl _)] at hrow
      replace hrow := Lib.hid hrow
      replace hK := Lib.hid hK
      go_wp2_with fail
      go_ret
      exact ⟨v, rfl, hrow.out, hK.out⟩
end
end Go.Proofs.YtefippjakkgjkaaDoor.K
