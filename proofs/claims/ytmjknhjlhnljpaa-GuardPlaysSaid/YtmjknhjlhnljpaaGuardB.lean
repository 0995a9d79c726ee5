/- The walks of package guard: Enter, Exit. -/
import Derived.Test.YtmjknhjlhnljpaaGuardA
import Derived.Test.YtmjknhjlhnljpaaMut
import Derived.Deep.RegionHeld3
namespace Go.Proofs.Ytmjknhjlhnljpaa
open Go.RowKit

theorem ints_one {w : World} {b : Nat} {x : Int} (h : w.cell? ⟨b, 0, none⟩ = some (.int .i64 x)) : Ints w (.slice (some ⟨b, 0, none⟩) 1 1) [x] := by
  refine ⟨_, 1, rfl, Nat.le_refl _, by decide, fun h => (by cases h), fun k hk => ⟨b, 0, rfl, ?_⟩⟩
  obtain rfl : k = 0 := by simpa using hk
  simpa using h
theorem GuardAt.setWord {w : World} {p b : Nat} {ms cs : List Nat} (h : GuardAt w p b ms cs) (k x : Nat) (hx : x < 18446744073709551616) :
    GuardAt (w.setCell ⟨b, k, none⟩ (.int .u64 (x : Int))) p b (ms.set k x) cs := by
  refine ⟨h.ne, ?_, ?_, by simpa using h.lo, by simpa using h.hi, fun m hm => ?_, h.len, h.counts⟩
  · rw [List.length_set]; exact h.hdr.other h.ne _ _
  · have := h.buf.set k (.int .u64 (x : Int))
    rwa [wordCells, ← List.map_set] at this
  · rcases List.mem_or_eq_of_mem_set hm with h1 | rfl
    · exact h.words m h1
    · exact hx
theorem GuardAt.setCount {w : World} {p b : Nat} {ms cs : List Nat} (h : GuardAt w p b ms cs) (k x : Nat) (hx : x ≤ 255) :
    GuardAt (w.setCell ⟨p, 1 + k, none⟩ (.int .i64 (x : Int))) p b ms (cs.set k x) := by
  refine ⟨h.ne, ?_, h.buf.other (Ne.symm h.ne) _ _, h.lo, h.hi, h.words, by simpa using h.len, fun m hm => ?_⟩
  · have := h.hdr.set (1 + k) (.int .i64 (x : Int))
    rw [Nat.add_comm 1 k, List.set_cons_succ, countCells, ← List.map_set] at this
    rw [Nat.add_comm 1 k]
    exact this
  · rcases List.mem_or_eq_of_mem_set hm with h1 | rfl
    · exact h.counts m h1
    · exact hx
set_option maxHeartbeats 400000 in
theorem enter_nil (c n : Int) (w : World) : Calls Try.prog 12 #[.pointer none, .int .i64 c, .int .i64 n] w fun e w' => e = .returned (.int .i64 6) ∧ w = w' := by
  go_enter Try.func12, Try.ntmps12
  go_wp2
  go_ret
  exact ⟨rfl, rfl⟩
theorem prog_no (n : Int) (w : World) (hn : n < 0 ∨ 16 ≤ n) : Calls Try.prog 25 #[.int .i64 n] w fun e w' => e = .returned (.bool false) ∧ w = w' := by
  have hp := prog_any n w
  rwa [show (decide (0 ≤ n) && decide (n < 16)) = false by rcases hn with h | h <;> simp <;> omega] at hp
theorem prog_yes (n : Nat) (w : World) (hn : n < 16) : Calls Try.prog 25 #[.int .i64 n] w fun e w' => e = .returned (.bool true) ∧ w = w' := by
  have hp := prog_any n w
  rwa [show (decide (0 ≤ (n : Int)) && decide ((n : Int) < 16)) = true by simp; omega] at hp
set_option maxHeartbeats 800000 in
theorem enter_no {p b : Nat} {ms cs : List Nat} {w : World} (h : GuardAt w p b ms cs) (c n : Int) (hn : c < 0 ∨ (ms.length : Int) ≤ c ∨ n < 0 ∨ 16 ≤ n) :
    Calls Try.prog 12 #[.pointer (some ⟨p, 0, none⟩), .int .i64 c, .int .i64 n] w fun e w' => e = .returned (.int .i64 2) ∧ w = w' := by
  have hi := is_any h c
  by_cases hc : 0 ≤ c ∧ c < (ms.length : Int)
  · rw [show (decide (0 ≤ c) && decide (c < (ms.length : Int))) = true by simp; omega] at hi
    have hp := prog_no n w (by omega)
    clear hn hc h
    go_enter Try.func12, Try.ntmps12
    go_wp2_with fail
    refine hi.mono ?_
    rintro e w' ⟨rfl, rfl⟩
    go_wp2_with fail
    refine hp.mono ?_
    rintro e w' ⟨rfl, rfl⟩
    go_wp2_with fail
    go_ret
    exact ⟨rfl, rfl⟩
  · rw [show (decide (0 ≤ c) && decide (c < (ms.length : Int))) = false by simp; omega] at hi
    clear hn hc h
    go_enter Try.func12, Try.ntmps12
    go_wp2_with fail
    refine hi.mono ?_
    rintro e w' ⟨rfl, rfl⟩
    go_wp2_with fail
    go_ret
    exact ⟨rfl, rfl⟩
theorem min255 (c : Nat) : (if ((c : Int) + 1) ≤ 255 then ((c : Int) + 1) else 255) = ((min (c + 1) 255 : Nat) : Int) := by
  split <;> omega
set_option maxRecDepth 100000 in
set_option maxHeartbeats 800000 in
theorem enter_miss {p b : Nat} {ms cs : List Nat} {w : World} (h : GuardAt w p b ms cs) (k n : Nat) (hk : k < ms.length) (hn : n < 16) (hh : hasN (ms.getD k 0) n = true) :
    Calls Try.prog 12 #[.pointer (some ⟨p, 0, none⟩), .int .i64 k, .int .i64 n] w fun e w' => e = .returned (.int .i64 18) ∧ GuardAt w' p b ms (cs.set n (min (cs.getD n 0 + 1) 255)) ∧ Mut p b w w' := by
  have hi := is_yes h k hk
  have hp := prog_yes n w hn
  have hhas := has_any (ms.getD k 0) n w (getD_mem (P := fun m => m < 18446744073709551616) h.words hk)
  rw [hh] at hhas
  have c0 := h.head
  have c1 := h.word k hk
  have c2 := h.count n hn
  have f2 := h.hdr.frozen (1 + n)
  have hk0 : (0 : Int) ≤ (k : Int) := by omega
  have hk1 : (k : Int) < (ms.length : Int) := by omega
  have hn0 : (0 : Int) ≤ (n : Int) := by omega
  have hn1 : (n : Int) < 16 := by omega
  have hle : cs.getD n 0 ≤ 255 := getD_mem (P := fun c => c ≤ 255) h.counts (by rw [h.len]; exact hn)
  have hset := fun W (h : GuardAt W p b ms cs) => h.setCount n (min (cs.getD n 0 + 1) 255) (by omega)
  have hw : IntKind.i64.wrap (((cs.getD n 0 : Nat) : Int) + 1) = ((cs.getD n 0 : Nat) : Int) + 1 := IntWalk.i64_in _ (by omega)
  have hh0 := Lib.hid h
  replace hset := Lib.hid hset
  clear h hh hle
  generalize cs.getD n 0 = x at *
  generalize ms.getD k 0 = m at *
  go_enter Try.func12, Try.ntmps12
  go_wp2_with fail
  refine hi.mono ?_
  rintro e w' ⟨rfl, rfl⟩
  go_wp2_with fail
  refine hp.mono ?_
  rintro e w' ⟨rfl, rfl⟩
  go_wp2_with fail
  refine hhas.mono ?_
  rintro e w' ⟨rfl, rfl⟩
  go_wp2_with fail
  refine region_quiet_tail 13 (by kernel_rfl) (by kernel_rfl) ?_
  simp only [List.take_succ_cons, List.take_zero, List.drop_succ_cons, List.drop_zero]
  repeat (quiet_step (fail))
  refine wpQuiet_nil ?_
  rintro _ ⟨nq, rfl⟩
  have key : ∀ v : Int, v = ((min (x + 1) 255 : Nat) : Int) → GuardAt ((w.drewN nq).setCell ⟨p, 1 + n, none⟩ (.int .i64 v)) p b ms (cs.set n (min (x + 1) 255)) := by
    rintro v rfl
    exact hset.out _ (hh0.out.keeps (Keeps.drewN w nq))
  replace key := Lib.hid key
  go_wp2_with fail
  all_goals go_ret
  all_goals exact ⟨rfl, key.out _ (by omega), (Mut.of_keeps (Keeps.drewN _ _)).trans (Mut.setP _ _)⟩
theorem orN_one (m : Nat) (i : Int) : withN m [i] = orN m i := rfl
set_option maxRecDepth 100000 in
set_option maxHeartbeats 800000 in
theorem enter_ok {p b : Nat} {ms cs : List Nat} {w : World} (h : GuardAt w p b ms cs) (k n : Nat) (hk : k < ms.length) (hn : n < 16) (hh : hasN (ms.getD k 0) n = false) :
    Calls Try.prog 12 #[.pointer (some ⟨p, 0, none⟩), .int .i64 k, .int .i64 n] w fun e w' => e = .returned (.int .i64 0) ∧ GuardAt w' p b (ms.set k (orN (ms.getD k 0) n)) cs ∧ Mut p b w w' := by
  have hi := is_yes h k hk
  have hp := prog_yes n w hn
  have hlt : ms.getD k 0 < 18446744073709551616 := getD_mem (P := fun m => m < 18446744073709551616) h.words hk
  have hhas := has_any (ms.getD k 0) n w hlt
  rw [hh] at hhas
  have c0 := h.head
  have c1 := h.word k hk
  have f1 := h.buf.frozen k
  have hk0 : (0 : Int) ≤ (k : Int) := by omega
  have hk1 : (k : Int) < (ms.length : Int) := by omega
  have hset := fun W (h : GuardAt W p b ms cs) => h.setWord k (orN (ms.getD k 0) n) (orN_lt _ _ hlt)
  have hlts := h.lt
  have e1 := World.new_ne w _ c0
  have e2 := World.new_ne w _ c1
  have hh0 := Lib.hid h
  replace hset := Lib.hid hset
  clear h hh
  generalize ms.getD k 0 = m at *
  go_enter Try.func12, Try.ntmps12
  go_wp2_with fail
  refine hi.mono ?_
  rintro e w' ⟨rfl, rfl⟩
  go_wp2_with fail
  refine hp.mono ?_
  rintro e w' ⟨rfl, rfl⟩
  go_wp2_with fail
  refine hhas.mono ?_
  rintro e w' ⟨rfl, rfl⟩
  go_wp2_with fail
  go_region_with
    (first | (go_at_call 26; refine (with_any m _ [(n : Int)] _ hlt (ints_one (by simp))).mono ?_; rintro e w' ⟨rfl, rfl⟩))
  all_goals go_wp2_with fail
  all_goals go_ret
  all_goals exact ⟨rfl, (hset.out w hh0.out).keeps (Keeps.trans (Keeps.alloc _ _) (Keeps.drew _)), (Mut.setB _ _).trans (Mut.of_keeps (Keeps.trans (Keeps.alloc _ _) (Keeps.drew _)))⟩
end Go.Proofs.Ytmjknhjlhnljpaa
