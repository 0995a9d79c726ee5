/- The walks of package guard but On. -/
import Derived.Test.YtmjknhjlhnljpaaMaskI
import Derived.Test.YtmjknhjlhnljpaaQuiet
namespace Go.Proofs.Ytmjknhjlhnljpaa
open Go.RowKit

/-- The masks as the cells of a block. -/
def wordCells (ms : List Nat) : List Value := ms.map fun (m : Nat) => Value.int .u64 (m : Int)
def countCells (cs : List Nat) : List Value := cs.map fun (c : Nat) => Value.int .i64 (c : Int)
theorem wordCells_len (ms : List Nat) : (wordCells ms).length = ms.length := by simp [wordCells]
theorem countCells_len (ms : List Nat) : (countCells ms).length = ms.length := by simp [countCells]
theorem wordCells_get (ms : List Nat) (k : Nat) (h : k < ms.length) : (wordCells ms).getD k undef = .int .u64 (ms.getD k 0 : Nat) := by simp [wordCells, List.getD, h]
theorem countCells_get (ms : List Nat) (k : Nat) (h : k < ms.length) : (countCells ms).getD k undef = .int .i64 (ms.getD k 0 : Nat) := by simp [countCells, List.getD, h]
/-- A guard at p over the block b: a mask for each CPU, a count for each program. -/
structure GuardAt (w : World) (p b : Nat) (ms cs : List Nat) : Prop where
  ne : p ≠ b
  hdr : Blk w p 53 (.slice (some ⟨b, 0, none⟩) ms.length ms.length :: countCells cs)
  buf : Blk w b 41 (wordCells ms)
  lo : 1 ≤ ms.length
  hi : ms.length ≤ 64
  words : ∀ m ∈ ms, m < 18446744073709551616
  len : cs.length = 16
  counts : ∀ c ∈ cs, c ≤ 255
theorem GuardAt.below {w w' : World} {p b n : Nat} {ms cs : List Nat} (h : GuardAt w p b ms cs) (hb : Below n w w') (hp : p < n) (hq : b < n) : GuardAt w' p b ms cs :=
  ⟨h.ne, h.hdr.below hb hp, h.buf.below hb hq, h.lo, h.hi, h.words, h.len, h.counts⟩
theorem GuardAt.lt {w : World} {p b : Nat} {ms cs : List Nat} (h : GuardAt w p b ms cs) : p < w.heap.size ∧ b < w.heap.size := ⟨h.hdr.lt, h.buf.lt⟩
theorem GuardAt.keeps {w w' : World} {p b : Nat} {ms cs : List Nat} (h : GuardAt w p b ms cs) (hb : Keeps w w') : GuardAt w' p b ms cs := h.below hb h.lt.1 h.lt.2
theorem GuardAt.head {w : World} {p b : Nat} {ms cs : List Nat} (h : GuardAt w p b ms cs) : w.cell? ⟨p, 0, none⟩ = some (.slice (some ⟨b, 0, none⟩) ms.length ms.length) := h.hdr.cell 0 (by simp)
theorem GuardAt.word {w : World} {p b : Nat} {ms cs : List Nat} (h : GuardAt w p b ms cs) (k : Nat) (hk : k < ms.length) : w.cell? ⟨b, k, none⟩ = some (.int .u64 (ms.getD k 0 : Nat)) := by
  rw [h.buf.cellD k (by rw [wordCells_len]; exact hk), wordCells_get ms k hk]
theorem GuardAt.count {w : World} {p b : Nat} {ms cs : List Nat} (h : GuardAt w p b ms cs) (k : Nat) (hk : k < 16) : w.cell? ⟨p, 1 + k, none⟩ = some (.int .i64 (cs.getD k 0 : Nat)) := by
  have hl := h.len
  rw [h.hdr.cellD (1 + k) (by simp [countCells_len]; omega), Nat.add_comm 1 k, List.getD_cons_succ, countCells_get cs k (by omega)]
theorem getD_mem {l : List Nat} {k : Nat} {P : Nat → Prop} (h : ∀ m ∈ l, P m) (hk : k < l.length) : P (l.getD k 0) := h _ (by simp [List.getD, hk])

theorem infoMask : (Try.prog.info? 41).map (fun i => (i.zero, i.size, i.bytes)) = some (some (.int .u64 0), 1, 8) := by kernel_rfl
set_option maxHeartbeats 400000 in
theorem gnew_no (n : Int) (w : World) (h : n < 1 ∨ 64 < n) :
    Calls Try.prog 7 #[.int .i64 n] w fun e w' => e = .returned (.tuple #[.pointer none, .int .i64 2]) ∧ w = w' := by
  by_cases h1 : n < 1
  · go_enter Try.func7, Try.ntmps7
    go_wp2
    go_ret2
    exact ⟨rfl, rfl⟩
  · have h2 : 64 < n := by omega
    clear h
    go_enter Try.func7, Try.ntmps7
    go_wp2
    go_ret2
    exact ⟨rfl, rfl⟩
theorem zeros_words (n : Nat) : zeros n (.int .u64 0) = wordCells (List.replicate n 0) := by simp [zeros, wordCells]
set_option maxHeartbeats 400000 in
theorem gnew_yes (n : Nat) (w : World) (h1 : 1 ≤ n) (h2 : n ≤ 64) :
    Calls Try.prog 7 #[.int .i64 n] w fun e w' => e = .returned (.tuple #[.pointer (some ⟨w.heap.size + 1, 0, none⟩), .int .i64 0]) ∧ GuardAt w' (w.heap.size + 1) w.heap.size (List.replicate n 0) (List.replicate 16 0) ∧ Keeps w w' := by
  have hmk := make_run 51 41 (.int .u64 0) 8 Try.underlying51 infoMask rfl n (by omega) (by omega)
  have hb := Blk.new w 41 (zeros n (.int .u64 0))
  go_enter Try.func7, Try.ntmps7
  go_wp2
  go_ret2
  refine ⟨rfl, ⟨by omega, ?_, ?_, by simpa using h1, by simpa using h2, fun m hm => ?_, by simp, fun c hc => ?_⟩, (Keeps.alloc _ _).trans (Keeps.alloc _ _)⟩
  · have := Blk.new (w.alloc (.cells (zeros n (.int .u64 0)).toArray 41)) 53 (.slice (some ⟨w.heap.size, 0, none⟩) n n :: countCells (List.replicate 16 0))
    rw [World.size_alloc] at this
    rw [List.length_replicate]; exact this
  · rw [← zeros_words]; exact hb.alloc _
  · obtain rfl := (List.mem_replicate.1 hm).2; decide
  · obtain rfl := (List.mem_replicate.1 hc).2; decide

set_option maxHeartbeats 400000 in
theorem prog_any (n : Int) (w : World) : Calls Try.prog 25 #[.int .i64 n] w fun e w' => e = .returned (.bool (decide (0 ≤ n) && decide (n < 16))) ∧ w = w' := by
  by_cases h0 : 0 ≤ n
  · have h0' : decide (0 ≤ n) = true := decide_eq_true h0
    go_enter Try.func25, Try.ntmps25
    go_wp2
    go_ret
    exact ⟨ret_bool (by simp [h0]), rfl⟩
  · have h0' : decide (0 ≤ n) = false := decide_eq_false h0
    go_enter Try.func25, Try.ntmps25
    go_wp2
    go_ret
    exact ⟨ret_bool (by simp), rfl⟩
set_option maxHeartbeats 400000 in
theorem is_nil (c : Int) (w : World) : Calls Try.prog 24 #[.pointer none, .int .i64 c] w fun e w' => e = .returned (.bool false) ∧ w = w' := by
  go_enter Try.func24, Try.ntmps24
  go_wp2
  go_ret
  exact ⟨rfl, rfl⟩
set_option maxHeartbeats 400000 in
theorem is_any {p b : Nat} {ms cs : List Nat} {w : World} (h : GuardAt w p b ms cs) (c : Int) : Calls Try.prog 24 #[.pointer (some ⟨p, 0, none⟩), .int .i64 c] w fun e w' => e = .returned (.bool (decide (0 ≤ c) && decide (c < (ms.length : Int)))) ∧ w = w' := by
  have c0 := h.head
  by_cases h0 : 0 ≤ c
  · have h0' : decide (0 ≤ c) = true := decide_eq_true h0
    go_enter Try.func24, Try.ntmps24
    go_wp2
    go_ret
    exact ⟨ret_bool (by simp [h0]), rfl⟩
  · have h0' : decide (0 ≤ c) = false := decide_eq_false h0
    go_enter Try.func24, Try.ntmps24
    go_wp2
    go_ret
    exact ⟨ret_bool (by simp), rfl⟩

set_option maxHeartbeats 400000 in
theorem missed_nil (n : Int) (w : World) : Calls Try.prog 17 #[.pointer none, .int .i64 n] w fun e w' => e = .returned (.int .i64 0) ∧ w = w' := by
  go_enter Try.func17, Try.ntmps17
  go_wp2
  go_ret
  exact ⟨rfl, rfl⟩
set_option maxHeartbeats 400000 in
theorem missed_no {p b : Nat} {ms cs : List Nat} {w : World} (_ : GuardAt w p b ms cs) (n : Int) (hn : n < 0 ∨ 16 ≤ n) : Calls Try.prog 17 #[.pointer (some ⟨p, 0, none⟩), .int .i64 n] w fun e w' => e = .returned (.int .i64 0) ∧ w = w' := by
  have hp := prog_any n w
  rw [show (decide (0 ≤ n) && decide (n < 16)) = false by rcases hn with h | h <;> simp <;> omega] at hp
  clear hn
  go_enter Try.func17, Try.ntmps17
  go_wp2_with fail
  refine hp.mono ?_
  rintro e w' ⟨rfl, rfl⟩
  go_wp2
  go_ret
  exact ⟨rfl, rfl⟩
set_option maxHeartbeats 400000 in
theorem missed_yes {p b : Nat} {ms cs : List Nat} {w : World} (h : GuardAt w p b ms cs) (n : Nat) (hn : n < 16) : Calls Try.prog 17 #[.pointer (some ⟨p, 0, none⟩), .int .i64 n] w fun e w' => e = .returned (.int .i64 (cs.getD n 0 : Nat)) ∧ w = w' := by
  have hp := prog_any n w
  rw [show (decide (0 ≤ (n : Int)) && decide ((n : Int) < 16)) = true by simp; omega] at hp
  have hc := h.count n hn
  generalize cs.getD n 0 = x at *
  go_enter Try.func17, Try.ntmps17
  go_wp2_with fail
  refine hp.mono ?_
  rintro e w' ⟨rfl, rfl⟩
  go_wp2
  go_ret
  exact ⟨rfl, rfl⟩
/-- The first k counts together. -/
def sumTo (cs : List Nat) (k : Nat) : Nat := (cs.take k).foldr (· + ·) 0
theorem foldr_append (l : List Nat) (x : Nat) : (l ++ [x]).foldr (· + ·) 0 = l.foldr (· + ·) 0 + x := by
  induction l with
  | nil => simp
  | cons y l ih => simp only [List.cons_append, List.foldr_cons]; rw [ih]; omega
theorem sumTo_succ (cs : List Nat) (k : Nat) (h : k < cs.length) : sumTo cs (k + 1) = sumTo cs k + cs.getD k 0 := by
  unfold sumTo
  rw [List.take_succ_eq_append_getElem h, foldr_append]
  simp [List.getD, h]
theorem sumTo_le (cs : List Nat) (k : Nat) (h : ∀ c ∈ cs, c ≤ 255) (hk : k ≤ cs.length) : sumTo cs k ≤ 255 * k := by
  induction k with
  | zero => simp [sumTo]
  | succ k ih =>
    rw [sumTo_succ cs k hk]
    have := ih (by omega)
    have : cs.getD k 0 ≤ 255 := getD_mem (P := fun c => c ≤ 255) h (show k < cs.length from hk)
    omega
set_option maxHeartbeats 800000 in
theorem total_any {p b : Nat} {ms cs : List Nat} {w : World} (h : GuardAt w p b ms cs) : Calls Try.prog 18 #[.pointer (some ⟨p, 0, none⟩)] w fun e w' => e = .returned (.int .i64 (sumTo cs 16 : Nat)) ∧ w = w' := by
  have hl := h.len
  have hle := fun k hk => sumTo_le cs k h.counts hk
  have hsucc := fun k hk => sumTo_succ cs k hk
  rw [hl] at hle hsucc
  replace hle := Lib.hid hle
  replace hsucc := Lib.hid hsucc
  go_enter Try.func18, Try.ntmps18
  go_wp2_with fail
  go_loopw [3, 5] (fun t i wr => ∃ k : Nat, k ≤ 16 ∧ i = .int .i64 k ∧ t = .int .i64 (sumTo cs k : Nat) ∧ w = wr) (fun _ i _ => 16 - (intOf i).toNat)
  case atStart => exact ⟨0, by omega, rfl, rfl, rfl⟩
  case round =>
    obtain ⟨k, hk, rfl, rfl, rfl⟩ := hrel
    by_cases hlt : k < 16
    · have hm := missed_yes h k hlt
      have h1 := hle.out k (by omega)
      have h2 := hle.out (k + 1) (by omega)
      have h3 := hsucc.out k hlt
      have hw : IntKind.i64.wrap (((sumTo cs k : Nat) : Int) + ((cs.getD k 0 : Nat) : Int)) = ((sumTo cs (k + 1) : Nat) : Int) := by
        rw [IntWalk.i64_in _ (by omega)]; omega
      clear h1 h2 h3
      generalize cs.getD k 0 = x at *
      go_wp2_with fail
      refine hm.mono ?_
      rintro e w' ⟨rfl, rfl⟩
      go_wp2_with fail
      go_roundw
      case rel => exact ⟨k + 1, by omega, by go_num, rfl, by trivial⟩
      case measure => (simp [intOf]; try omega)
    · obtain rfl : k = 16 := by omega
      go_wp2_with fail
      go_ret
      exact ⟨rfl, by trivial⟩
set_option maxHeartbeats 400000 in
theorem active_no (q : Value) (c : Int) (w : World) (h : q = .pointer none ∨ ∃ p b ms cs, q = .pointer (some ⟨p, 0, none⟩) ∧ GuardAt w p b ms cs ∧ (c < 0 ∨ (ms.length : Int) ≤ c)) :
    Calls Try.prog 13 #[q, .int .i64 c] w fun e w' => e = .returned (.int .u64 0) ∧ w = w' := by
  have hi : Calls Try.prog 24 #[q, .int .i64 c] w fun e w' => e = .returned (.bool false) ∧ w = w' := by
    rcases h with rfl | ⟨p, b, ms, cs, rfl, h, hc⟩
    · exact is_nil c w
    · have := is_any h c
      rwa [show (decide (0 ≤ c) && decide (c < (ms.length : Int))) = false by rcases hc with h | h <;> simp <;> omega] at this
  clear h
  go_enter Try.func13, Try.ntmps13
  go_wp2_with fail
  refine hi.mono ?_
  rintro e w' ⟨rfl, rfl⟩
  go_wp2_with fail
  go_ret
  exact ⟨rfl, rfl⟩
theorem is_yes {p b : Nat} {ms cs : List Nat} {w : World} (h : GuardAt w p b ms cs) (k : Nat) (hk : k < ms.length) : Calls Try.prog 24 #[.pointer (some ⟨p, 0, none⟩), .int .i64 k] w fun e w' => e = .returned (.bool true) ∧ w = w' := by
  have := is_any h k
  rwa [show (decide (0 ≤ (k : Int)) && decide ((k : Int) < (ms.length : Int))) = true by simp; omega] at this
set_option maxHeartbeats 400000 in
theorem active_yes {p b : Nat} {ms cs : List Nat} {w : World} (h : GuardAt w p b ms cs) (k : Nat) (hk : k < ms.length) :
    Calls Try.prog 13 #[.pointer (some ⟨p, 0, none⟩), .int .i64 k] w fun e w' => e = .returned (.int .u64 (ms.getD k 0 : Nat)) ∧ w = w' := by
  have hi := is_yes h k hk
  have c0 := h.head
  have c1 := h.word k hk
  have h1 : (k : Int) < (ms.length : Int) := by omega
  have h2 : (0 : Int) ≤ (k : Int) := by omega
  generalize ms.getD k 0 = x at *
  clear h
  go_enter Try.func13, Try.ntmps13
  go_wp2_with fail
  refine hi.mono ?_
  rintro e w' ⟨rfl, rfl⟩
  go_wp2_with fail
  go_ret
  exact ⟨rfl, rfl⟩
end Go.Proofs.Ytmjknhjlhnljpaa
