/- The laws of layer 23: known, GuardNil. -/
import Derived.Test.YtmjknhjlhnljpaaGuardE
namespace Go.Proofs.Ytmjknhjlhnljpaa
open Go.RowKit Go.Shelf
attribute [local go_sem] Oper.semAt_some

set_option maxHeartbeats 800000 in
theorem total_nil (w : World) : Calls Try.prog 18 #[.pointer none] w fun e w' => e = .returned (.int .i64 0) ∧ w = w' := by
  go_enter Try.func18, Try.ntmps18
  go_wp2_with fail
  go_loopw [3, 5] (fun t i wr => ∃ k : Nat, k ≤ 16 ∧ i = .int .i64 k ∧ t = .int .i64 0 ∧ w = wr) (fun _ i _ => 16 - (intOf i).toNat)
  case atStart => exact ⟨0, by omega, rfl, rfl, rfl⟩
  case round =>
    obtain ⟨k, hk, rfl, rfl, rfl⟩ := hrel
    by_cases hlt : k < 16
    · go_wp2_with fail
      refine (missed_nil k w).mono ?_
      rintro e w' ⟨rfl, rfl⟩
      go_wp2_with fail
      go_roundw
      case rel => exact ⟨k + 1, by omega, by go_num, rfl, by trivial⟩
      case measure => (simp [intOf]; try omega)
    · obtain rfl : k = 16 := by omega
      go_wp2_with fail
      go_ret
      exact ⟨rfl, by trivial⟩

/-- such's function of a nil guard yields nothing. -/
theorem suchNil_stops (B1 B2 n₀ Bk : Nat) (w : World) (hB1 : Boxed w B1 23 (.pointer none)) :
    SeqStopsK Fence.wide 8 Try.prog 31 #[.pointer (some ⟨B1, 0, none⟩), .pointer (some ⟨B2, 0, none⟩)] (fun x : Nat => #[Value.int .i64 (x : Int)]) (KeepB n₀ Bk) (fun ys => ys = []) (fun pre => pre <+: []) ([] : List Nat).length w := fun l J Jx W hW _ _ _ h0 => by
  have hc := Boxed.cell ((hW.block B1 hB1.lt).trans hB1)
  refine callsIn_of_wp Try.func31 rfl trivial ?_ rfl
  simp only [Try.ntmps31, List.size_toArray, List.length_cons, List.length_nil, Nat.reduceAdd, Nat.reduceSub, Array.replicate_succ, Array.replicate_zero, List.push_toArray, List.append_toArray, List.nil_append, List.cons_append]
  gi_wp2
  refine bodyPost_ret (results_none rfl _ _ _) rfl ?_
  simp
  exact .inl h0

set_option maxRecDepth 100000 in
set_option maxHeartbeats 2000000 in
theorem on_nil (n : Int) (w : World) :
    Calls Try.prog 14 #[.pointer none, .int .i64 n] w fun e w' => e = .returned (.int .u64 0) ∧ Keeps w w' := by
  refine (callsIn_wide (n := 9)).1 ?_
  refine callsIn_of_wp_marks Try.func14 rfl trivial ?_ rfl
  simp only [Try.ntmps14, List.size_toArray, List.length_cons, List.length_nil, Nat.reduceAdd, Nat.reduceSub, Array.replicate_succ, Array.replicate_zero, List.push_toArray, List.append_toArray, List.nil_append, List.cons_append]
  gi_wp2_with (refine ⟨trivial, ?_⟩; gi_at_call 27; refine (callsIn_wide.2 (such_any _ _ _ _ _ _ _ rfl rfl)).mono ?_; rintro e w' ⟨rfl, rfl⟩)
  have bO := Boxed.new (w.alloc (.cells #[.int .i64 n] 3)) 41 (.int .u64 0)
  have bG := Boxed.new ((w.alloc (.cells #[.int .i64 n] 3)).alloc (.cells #[.int .u64 0] 41)) 23 (.pointer none)
  simp only [World.size_alloc] at bO bG
  have hB0 : Below (w.alloc (.cells #[.int .i64 n] 3)).heap.size (w.alloc (.cells #[.int .i64 n] 3)) ((((w.alloc (.cells #[.int .i64 n] 3)).alloc (.cells #[.int .u64 0] 41)).alloc (.cells #[.pointer none] 23)).alloc (.cells #[onFn w.heap.size] 60)) :=
    (((Below.refl _ _).alloc (Nat.le_refl _) _).alloc (by simp) _).alloc (by simp) _
  refine iter_ruleB (w.alloc (.cells #[.int .i64 n] 3)) (w.heap.size + 1 + 1 + 1) (gf := 31) (lb := #[.pointer (some ⟨w.heap.size + 1 + 1, 0, none⟩), .pointer (some ⟨w.heap.size + 1 + 1 + 1, 0, none⟩)]) (xs := ([] : List Nat)) rfl (enters_of Try.func31 (by kernel_rfl) rfl)
    (suchNil_stops (w.heap.size + 1 + 1) (w.heap.size + 1 + 1 + 1) _ _ _ (bG.alloc _)) (Below.refl _ _) hB0 (fun _ => rfl)
    (fun pre W => Boxed W (w.heap.size + 1) 41 (.int .u64 0))
    (fun c pre W => False)
    (fun pre => Stays.boxed _ _ _ _)
    (fun c pre => Stays.pure _ _)
    ((bO.alloc _).alloc _)
    ?a1 ?assign ?body ?done ?stop
  case assign =>
    intro l x W K hK
    gi_wp2
    exact hK
  case body =>
    rintro l pre x W hb hlt hv
    exact absurd hlt (Nat.not_lt_zero _)
  case done =>
    rintro D W hD hb hv hK
    have hc := hv.cell
    gi_wp2
    refine ret_marks hK rfl (v := .int .u64 0) ?_ ⟨rfl, ?_⟩
    · exact results_tmp (fn := Try.f14) rfl _ _ _
    · refine Below.putObj ((Keeps.alloc w _).trans (hb.mono (by simp))) _ (by simp at hD; omega) hK
  case stop =>
    rintro D c pre W hD hpre hb h hK
    exact h.elim

theorem Mut.trans_keeps {p b : Nat} {w0 w w' : World} (h : Mut p b w w') (hk : Keeps w0 w) (hp : w0.heap.size ≤ p) (hb : w0.heap.size ≤ b) : Keeps w0 w' := h.after hk hp hb
set_option maxRecDepth 100000 in
set_option maxHeartbeats 2000000 in
theorem known23_any (w : World) :
    Calls Try.prog 8 #[] w fun e w' => e = .returned (.bool true) ∧ Keeps w w' := by
  go_enter Try.func8, Try.ntmps8
  go_wp2_with fail
  refine (gnew_yes 2 _ (by omega) (by omega)).mono ?_
  rintro e w1 ⟨rfl, hG, hK⟩
  obtain ⟨p, hpe⟩ : ∃ p, p = w.heap.size + 1 := ⟨_, rfl⟩
  obtain ⟨b, hbe⟩ : ∃ b, b = w.heap.size := ⟨_, rfl⟩
  have hpl : w.heap.size ≤ p := by omega
  have hbl : w.heap.size ≤ b := by omega
  rw [← hpe, ← hbe] at hG
  rw [← hpe]
  clear hpe hbe
  go_wp2_with fail
  refine (enter_ok hG 0 5 (by decide) (by decide) (by decide)).mono ?_
  rintro e w2 ⟨rfl, hG2, hM⟩
  replace hK := hM.after hK hpl hbl
  rw [show (List.replicate 2 0).set 0 (orN ((List.replicate 2 0).getD 0 0) (5 : Nat)) = [32, 0] by decide] at hG2
  clear hM hG
  go_wp2_with fail
  refine (enter_miss hG2 0 5 (by decide) (by decide) (by decide)).mono ?_
  rintro e w3 ⟨rfl, hG3, hM⟩
  replace hK := hM.after hK hpl hbl
  rw [show (List.replicate 16 0).set 5 (min ((List.replicate 16 0).getD 5 0 + 1) 255) = [0, 0, 0, 0, 0, 1, 0, 0, 0, 0, 0, 0, 0, 0, 0, 0] by decide] at hG3
  clear hM hG2
  go_wp2_with fail
  refine (enter_ok hG3 1 5 (by decide) (by decide) (by decide)).mono ?_
  rintro e w4 ⟨rfl, hG4, hM⟩
  replace hK := hM.after hK hpl hbl
  rw [show ([32, 0] : List Nat).set 1 (orN (([32, 0] : List Nat).getD 1 0) (5 : Nat)) = [32, 32] by decide] at hG4
  clear hM hG3
  go_wp2_with fail
  refine (on_any hG4 5).mono ?_
  rintro e w5 ⟨rfl, hK5⟩
  rw [show onN [32, 32] 5 = 3 by decide]
  have hG5 := (hG4.keeps hK5).keeps (Keeps.alloc w5 (.cells #[.int .i64 0, .int .i64 1] 3))
  replace hK := Keeps.trans hK (Keeps.trans hK5 (Keeps.alloc w5 (.cells #[.int .i64 0, .int .i64 1] 3)))
  have hz : Ints (w5.alloc (.cells #[.int .i64 0, .int .i64 1] 3)) (.slice (some ⟨w5.heap.size, 0, none⟩) 2 2) [0, 1] := ints_new w5 3 [0, 1] (by decide)
  have hof := of_any _ _ _ hz
  rw [show withN 0 [0, 1] = 3 by decide] at hof
  replace hof := Lib.hid hof
  clear hG4 hK5 hz
  replace hK := Lib.hid hK
  replace hG5 := Lib.hid hG5
  go_wp2_with fail
  refine hof.out.mono ?_
  rintro e w6 ⟨rfl, rfl⟩
  clear hof
  have hz : Ints ((w5.alloc (.cells #[.int .i64 0, .int .i64 1] 3)).alloc (.cells #[.int .i64 5] 3)) (.slice (some ⟨w5.heap.size + 1, 0, none⟩) 1 1) [5] := ints_at _ 3 [5] _ (by simp) (by decide)
  have hx := exit_yes (hG5.out.keeps (Keeps.alloc _ (.cells #[.int .i64 5] 3))) 0 (by decide) _ [5] hz
  rw [show (lenN (([32, 32] : List Nat).getD 0 0) : Int) - lenN (withoutN (([32, 32] : List Nat).getD 0 0) [5]) = 1 by decide] at hx
  replace hx := Lib.hid hx
  clear hz
  go_wp2_with fail
  refine hx.out.mono ?_
  rintro e w6 ⟨rfl, hG6, hM⟩
  replace hK := hM.after (Keeps.trans hK.out (Keeps.alloc _ (.cells #[.int .i64 5] 3))) hpl hbl
  clear hx hM hG5
  go_wp2_with fail
  refine (missed_yes hG6 5 (by decide)).mono ?_
  rintro e w7 ⟨rfl, rfl⟩
  go_wp2_with fail
  go_ret
  exact ⟨rfl, hK⟩

set_option maxRecDepth 100000 in
set_option maxHeartbeats 1000000 in
theorem lawNil_any (c n : Int) (w : World) :
    Calls Try.prog 5 #[.int .i64 c, .int .i64 n] w fun e w' => e = .returned (.bool true) ∧ Keeps w w' := by
  go_enter Try.func5, Try.ntmps5
  go_wp2_with fail
  refine (known23_any _).mono ?_
  rintro e w1 ⟨rfl, hK⟩
  replace hK := Lib.hid hK
  go_wp2_with fail
  refine (enter_nil c n _).mono ?_
  rintro e w2 ⟨rfl, rfl⟩
  go_wp2_with fail
  refine (exit_no _ c _ _ (.inl rfl)).mono ?_
  rintro e w2 ⟨rfl, rfl⟩
  go_wp2_with fail
  refine (active_no _ c _ (.inl rfl)).mono ?_
  rintro e w2 ⟨rfl, rfl⟩
  go_wp2_with fail
  refine (on_nil n _).mono ?_
  rintro e w2 ⟨rfl, hK2⟩
  replace hK := Lib.hid (Keeps.trans (Keeps.trans hK.out (Keeps.alloc _ _)) hK2)
  clear hK2
  go_wp2_with fail
  refine (missed_nil n _).mono ?_
  rintro e w3 ⟨rfl, rfl⟩
  go_wp2_with fail
  refine (total_nil _).mono ?_
  rintro e w3 ⟨rfl, rfl⟩
  go_wp2_with fail
  go_ret
  exact ⟨rfl, hK.out⟩
end Go.Proofs.Ytmjknhjlhnljpaa
