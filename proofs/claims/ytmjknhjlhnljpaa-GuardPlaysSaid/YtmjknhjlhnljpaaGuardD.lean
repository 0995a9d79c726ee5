/- The walk of On: on which CPUs a program is. -/
import Derived.Test.YtmjknhjlhnljpaaGuardC
import Derived.Test.YtmjknhjlhnljpaaIter
namespace Go.Proofs.Ytmjknhjlhnljpaa
open Go.RowKit Go.Shelf
attribute [local go_sem] Oper.semAt_some

/-- Of the first k CPUs those on which the program is. -/
def onTo (ms : List Nat) (n : Int) (k : Nat) : List Nat := (List.range k).filter fun j => hasN (ms.getD j 0) n
theorem onTo_yes (ms : List Nat) (n : Int) (k : Nat) (h : hasN (ms.getD k 0) n = true) : onTo ms n (k + 1) = onTo ms n k ++ [k] := by
  simp only [onTo, List.range_succ, List.filter_append, List.filter_cons, h, if_true, List.filter_nil]
theorem onTo_no (ms : List Nat) (n : Int) (k : Nat) (h : hasN (ms.getD k 0) n = false) : onTo ms n (k + 1) = onTo ms n k := by
  simp only [onTo, List.range_succ, List.filter_append, List.filter_cons, h, List.filter_nil, List.append_nil, Bool.false_eq_true, if_false]
theorem onTo_len (ms : List Nat) (n : Int) (k : Nat) : (onTo ms n k).length ≤ k := by unfold onTo; exact Nat.le_trans (List.length_filter_le _ _) (by simp)
theorem onTo_pre (ms : List Nat) (n : Int) (k m : Nat) (h : k ≤ m) : onTo ms n k <+: onTo ms n m := by
  obtain ⟨d, rfl⟩ := Nat.exists_eq_add_of_le h
  unfold onTo
  rw [List.range_add, List.filter_append]
  exact List.prefix_append _ _

set_option maxHeartbeats 400000 in
theorem onFn_any (m : Nat) (n : Int) (B : Nat) (w : World) (hm : m < 18446744073709551616) (hB : w.cell? ⟨B, 0, none⟩ = some (.int .i64 n)) :
    Calls Try.prog 28 #[.int .u64 m, .pointer (some ⟨B, 0, none⟩)] w fun e w' => e = .returned (.bool (hasN m n)) ∧ w = w' := by
  have hh := has_any m n w hm
  go_enter Try.func28, Try.ntmps28
  go_wp2_with fail
  refine hh.mono ?_
  rintro e w' ⟨rfl, rfl⟩
  go_wp2_with fail
  go_ret
  exact ⟨rfl, rfl⟩

set_option maxRecDepth 100000 in
set_option maxHeartbeats 1000000 in
/-- **such's function.** -/
theorem such1_in (l B1 B2 B3 n₀ p b : Nat) (ms cs : List Nat) (n : Int) (J Jx : List Nat → World → Prop) (W : World)
    (hY : ∀ pre x W1, J pre W1 → pre.length < (onTo ms n ms.length).length → YieldAt Fence.wide 7 Try.prog l #[.int .i64 (x : Nat)] W1 fun e W' =>
      (e = .returned (.bool true) ∧ J (pre ++ [x]) W' ∧ KeepB n₀ B2 W1 W') ∨ (e = .returned (.bool false) ∧ Jx (pre ++ [x]) W'))
    (_hJd : ∀ pre W1 n, J pre W1 → J pre (W1.drewN n))
    (hB1 : W.cell? ⟨B1, 0, none⟩ = some (.pointer (some ⟨p, 0, none⟩)))
    (hB2 : Boxed W B2 60 (.func (.func 28) #[] #[.pointer (some ⟨B3, 0, none⟩)])) (hB3 : W.cell? ⟨B3, 0, none⟩ = some (.int .i64 n)) (h3 : B3 < n₀)
    (hp : p < n₀) (hb : b < n₀) (hG : GuardAt W p b ms cs) (h0 : J [] W) :
    CallsIn Fence.wide 8 Try.prog 31 #[.func (.yield l) #[] #[], .pointer (some ⟨B1, 0, none⟩), .pointer (some ⟨B2, 0, none⟩)] W fun e W' => (∃ v, e = .returned v) ∧
      ((∃ ys, ys = onTo ms n ms.length ∧ J ys W') ∨ (∃ pre, pre <+: onTo ms n ms.length ∧ Jx pre W')) := by
  have hlo := hG.lo
  have hhi := hG.hi
  have c0 := hG.head
  refine callsIn_of_wp Try.func31 rfl trivial ?_ rfl
  simp only [Try.ntmps31, List.size_toArray, List.length_cons, List.length_nil, Nat.reduceAdd, Nat.reduceSub, Array.replicate_succ, Array.replicate_zero, List.push_toArray, List.append_toArray, List.nil_append, List.cons_append]
  gi_wp2
  gi_loopw [13] (fun i wr => ∃ k : Nat, k ≤ ms.length ∧ i = .int .i64 k ∧ KeepB n₀ B2 W wr ∧ J (onTo ms n k) wr) (fun i _ => ms.length - (intOf i).toNat)
  case atStart => exact ⟨0, Nat.zero_le _, rfl, KeepB.refl _ _ _, h0⟩
  case round =>
    obtain ⟨k, hk, rfl, hbel, hJs⟩ := hrel
    by_cases hlt : k < ms.length
    · have hGr := hG.below hbel.1 hp hb
      have hB2r := (hbel.2 _ _ hB2).cell
      have hB3r := (hbel.1.cell (p := ⟨B3, 0, none⟩) h3).trans hB3
      have cw := hGr.word k hlt
      have hm : ms.getD k 0 < 18446744073709551616 := getD_mem (P := fun m => m < 18446744073709551616) hG.words hlt
      have hfn := onFn_any (ms.getD k 0) n B3 wr hm hB3r
      have hk0 : (0 : Int) ≤ (k : Int) := by omega
      have hk1 : (k : Int) < (ms.length : Int) := by omega
      cases hh : hasN (ms.getD k 0) n with
      | false =>
        rw [hh] at hfn
        have hnext := Lib.hid (onTo_no ms n k hh)
        clear hh
        generalize ms.getD k 0 = m at *
        gi_wp2
        refine ⟨trivial, (callsIn_wide.2 hfn).mono ?_⟩
        rintro e w' ⟨rfl, rfl⟩
        gi_wp2
        refine ⟨fun _ hf => (by cases hf), ?_⟩
        gi_wp2
        go_roundw
        case rel => exact ⟨k + 1, by omega, by go_num, hbel, by rw [hnext.out]; exact hJs⟩
        case measure => (simp [intOf]; try omega)
      | true =>
        rw [hh] at hfn
        have hnext := Lib.hid (onTo_yes ms n k hh)
        have hpl : (onTo ms n k).length < (onTo ms n ms.length).length := by
          have h1 := (onTo_pre ms n (k + 1) ms.length hlt).length_le
          rw [onTo_yes ms n k hh, List.length_append, List.length_singleton] at h1
          omega
        have hy0 := hY (onTo ms n k) k wr hJs hpl
        have hpre := onTo_pre ms n (k + 1) ms.length hlt
        replace hpre := Lib.hid hpre
        replace hY := Lib.hid hY
        clear hh hpl
        generalize ms.getD k 0 = m at *
        gi_wp2
        refine ⟨trivial, (callsIn_wide.2 hfn).mono ?_⟩
        rintro e w' ⟨rfl, rfl⟩
        obtain ⟨fn, tmps, assign, body, hy, hRd⟩ := hy0
        gi_wp2
        refine hRd.mono ?_
        rintro e W3 (⟨rfl, hJ3, hk3⟩ | ⟨rfl, hJx3⟩)
        · gi_wp2
          go_roundw
          case rel => exact ⟨k + 1, by omega, by go_num, hbel.trans hk3, by rw [hnext.out]; exact hJ3⟩
          case measure => (simp [intOf]; try omega)
        · gi_wp2
          refine bodyPost_ret (results_none rfl _ _ _) rfl ?_
          exact ⟨⟨_, rfl⟩, .inr ⟨onTo ms n k ++ [k], by rw [← hnext.out]; exact hpre.out, hJx3⟩⟩
    · obtain rfl : k = ms.length := by omega
      gi_wp2
      go_end0
      exact ⟨⟨_, rfl⟩, .inl ⟨_, rfl, hJs⟩⟩

theorem such_stops (B1 B2 B3 n₀ p b : Nat) (ms cs : List Nat) (n : Int) (w : World) (hB1 : Boxed w B1 23 (.pointer (some ⟨p, 0, none⟩)))
    (hB2 : Boxed w B2 60 (.func (.func 28) #[] #[.pointer (some ⟨B3, 0, none⟩)])) (hB3 : Boxed w B3 3 (.int .i64 n)) (h3 : B3 < n₀) (hp : p < n₀) (hb : b < n₀) (hG : GuardAt w p b ms cs) :
    SeqStopsK Fence.wide 8 Try.prog 31 #[.pointer (some ⟨B1, 0, none⟩), .pointer (some ⟨B2, 0, none⟩)] (fun x : Nat => #[Value.int .i64 (x : Int)]) (KeepB n₀ B2) (fun ys => ys = onTo ms n ms.length) (fun pre => pre <+: onTo ms n ms.length) (onTo ms n ms.length).length w := fun l J Jx W hW hJ _ hY h0 =>
  such1_in l B1 B2 B3 n₀ p b ms cs n J Jx W hY (fun pre W1 n h => hJ pre W1 _ none h ⟨rfl, rfl, rfl, Nat.le_refl _, fun _ _ _ => rfl⟩ (fun r e => by cases e))
    (Boxed.cell ((hW.block B1 hB1.lt).trans hB1)) ((hW.block B2 hB2.lt).trans hB2) (Boxed.cell ((hW.block B3 hB3.lt).trans hB3)) h3 hp hb (hG.keeps hW) h0
end Go.Proofs.Ytmjknhjlhnljpaa
