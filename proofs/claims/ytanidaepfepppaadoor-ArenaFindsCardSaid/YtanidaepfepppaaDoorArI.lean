/- Arenas of integers: the block, New. -/
import Derived.Test.YtanidaepfepppaaDoorArM
import Derived.Test.YtanidaepfepppaaDoorStr2
import Derived.Test.YtanidaepfepppaaDoorMaskI
import Derived.Test.YtanidaepfepppaaDoorQuiet
import Derived.Test.YtanidaepfepppaaDoorQuietRow
import Derived.Deep.DeepCutAuto
namespace Go.Proofs.YtanidaepfepppaaDoor.ArI
open Go.RowKit Go.Proofs.YtanidaepfepppaaDoor

abbrev El : Type := Int
def zEl : El := 0
def xCells (x : El) : List Value := [.int .i64 x]
theorem xCells_len (x : El) : (xCells x).length = 1 := rfl
def slotEl (i : Nat) (s : Slot El) : List Value := [.int .i64 (i : Int), .int .i64 ((min s.gen 255 : Nat) : Int)] ++ xCells s.x
def arEls (l : List (Slot El)) : List (List Value) := l.mapIdx slotEl
theorem arEls_size (l : List (Slot El)) : ∀ el ∈ arEls l, el.length = 3 := by
  intro el h
  obtain ⟨i, hi, rfl⟩ := List.mem_mapIdx.1 h
  rfl
theorem arEls_len (l : List (Slot El)) : (arEls l).length = l.length := by simp [arEls]
theorem arEls_get (l : List (Slot El)) (i : Nat) (h : i < l.length) : (arEls l).getD i [] = slotEl i l[i] := by
  simp [arEls, List.getD, h]
theorem arEls_set (l : List (Slot El)) (i : Nat) (s : Slot El) : arEls (l.set i s) = (arEls l).set i (slotEl i s) := by
  apply List.ext_getElem
  · simp [arEls]
  · intro j h1 h2
    simp only [arEls, List.getElem_mapIdx, List.getElem_set]
    split
    · rename_i e; subst e; rfl
    · rfl
/-- An arena at p, its slots in block b. -/
structure ArenaAt (w : World) (p b : Nat) (l : List (Slot El)) : Prop where
  hdr : Blk w p 85 [.slice (some ⟨b, 0, none⟩) l.length l.length, .int .u64 (usedM l : Int), .int .u64 (freeM l : Int)]
  buf : Blk w b 87 (arEls l).flatten
  ne : b ≠ p
  lo : 1 ≤ l.length
  hi : l.length ≤ 64
  ok : ArOk l
section
variable {w : World} {p b : Nat} {l : List (Slot El)}
theorem ArenaAt.keeps {w' : World} (h : ArenaAt w p b l) (hk : Keeps w w') : ArenaAt w' p b l := ⟨h.hdr.keeps hk, h.buf.keeps hk, h.ne, h.lo, h.hi, h.ok⟩
theorem ArenaAt.c0 (h : ArenaAt w p b l) : w.cell? ⟨p, 0, none⟩ = some (.slice (some ⟨b, 0, none⟩) l.length l.length) := h.hdr.cell 0 (by simp)
theorem ArenaAt.c1 (h : ArenaAt w p b l) : w.cell? ⟨p, 1, none⟩ = some (.int .u64 (usedM l : Int)) := h.hdr.cell 1 (by simp)
theorem ArenaAt.c2 (h : ArenaAt w p b l) : w.cell? ⟨p, 2, none⟩ = some (.int .u64 (freeM l : Int)) := h.hdr.cell 2 (by simp)
theorem ArenaAt.usedLt (h : ArenaAt w p b l) : usedM l < 18446744073709551616 := wordB_64 _ (by simpa using h.hi)
theorem ArenaAt.freeLt (h : ArenaAt w p b l) : freeM l < 18446744073709551616 := wordB_64 _ (by simpa using h.hi)
theorem ArenaAt.slot (h : ArenaAt w p b l) (i : Nat) (hi : i < l.length) (j : Nat) (hj : j < 3) : w.cell? ⟨b, i * 3 + j, none⟩ = some ((slotEl i l[i]).getD j undef) := by
  have h1 := flat_get (arEls_size l) i j (by rw [arEls_len]; exact hi) hj
  rw [arEls_get l i hi] at h1
  have hlt : i * 3 + j < (arEls l).flatten.length := (List.getElem?_eq_some_iff.1 h1).1
  rw [h.buf.cellD _ hlt]
  simp only [List.getD, h1, Option.getD_some]
end
theorem infoSlot : (Tryd.prog.info? 87).map (fun i => (i.zero, i.size, i.bytes)) = some (some (.agg (slotEl 0 ⟨0, false, zEl⟩).toArray), 3, 24) := by kernel_rfl
theorem fullN_newL (n : Nat) (h1 : 1 ≤ n) (h2 : n ≤ 64) : fullN (n : Int) = freeM (newL zEl n) := by
  have hl : (fullN (n : Int)) < 18446744073709551616 := by
    unfold fullN; split; · decide
    split; · decide
    have : (2 : Nat) ^ n < 2 ^ 64 := Nat.pow_lt_pow_right (by decide) (by omega)
    rw [Int.toNat_natCast]; omega
  refine eq_of_bits _ _ hl (wordB_64 _ (by simp [newL]; omega)) fun k hk => ?_
  unfold freeM
  rw [testBit_wordB]
  unfold fullN newL
  rw [if_neg (by omega)]
  have hr : ((List.replicate n (⟨1, false, zEl⟩ : Slot El)).map (·.open)).getD k false = decide (k < n) := by
    by_cases h : k < n
    · simp [List.getD, h, Slot.open]
    · simp [List.getD, h]
  rw [hr]
  split
  · have : n = 64 := by omega
    subst this
    rw [show (18446744073709551615 : Nat) = 2 ^ 64 - 1 by decide, Nat.testBit_two_pow_sub_one]
  · rw [Int.toNat_natCast, Nat.testBit_two_pow_sub_one]
theorem usedM_newL (n : Nat) : usedM (newL zEl n) = 0 := by
  apply Nat.eq_of_testBit_eq
  intro j
  unfold usedM newL
  rw [testBit_wordB, Nat.zero_testBit]
  by_cases h : j < n
  · simp [List.getD, h]
  · simp [List.getD, h]
theorem newL_ok (n : Nat) : ArOk (newL zEl n) := ⟨fun s hs => by rw [List.eq_of_mem_replicate hs]; simp, fun s hs h => by rw [List.eq_of_mem_replicate hs] at h; cases h⟩
theorem newL_len (n : Nat) : (newL zEl n).length = n := by simp [newL]

set_option maxHeartbeats 400000 in
theorem new_no (n : Int) (w : World) (h : n < 1 ∨ 64 < n) : Calls Tryd.prog 14 #[.int .i64 n] w fun e w' => e = .returned (.tuple #[.pointer none, .int .i64 2]) ∧ w = w' := by
  have hcase : n < 1 ∨ (¬ n < 1 ∧ 64 < n) := by omega
  clear h
  rcases hcase with h1 | ⟨h1, h2⟩
  all_goals
    go_enter Tryd.func14, Tryd.ntmps14
    go_wp2
    go_ret2
    exact ⟨rfl, rfl⟩
/-- The slots while New numbers them. -/
def numEls (n k : Nat) : List (List Value) := (List.range n).map fun i => if i < k then slotEl i ⟨1, false, zEl⟩ else slotEl 0 ⟨0, false, zEl⟩
theorem numEls_size (n k : Nat) : ∀ el ∈ numEls n k, el.length = 3 := by
  intro el h
  obtain ⟨i, _, rfl⟩ := List.mem_map.1 h
  split <;> rfl
theorem numEls_0 (n : Nat) : numEls n 0 = List.replicate n (slotEl 0 ⟨0, false, zEl⟩) := by
  apply List.ext_getElem
  · simp [numEls]
  · intro j h1 h2; simp [numEls]
theorem numEls_end (n : Nat) : numEls n n = arEls (newL zEl n) := by
  apply List.ext_getElem
  · simp [numEls, arEls, newL]
  · intro j h1 h2
    have hj : j < n := by simpa [numEls] using h1
    simp [numEls, arEls, newL, hj]
theorem numEls_succ (n k : Nat) (hk : k < n) : ((numEls n k).flatten.set (k * 3) (.int .i64 (k : Int))).set (k * 3 + 1) (.int .i64 1) = (numEls n (k + 1)).flatten := by
  have hs := numEls_size n k
  have hl : k < (numEls n k).length := by simpa [numEls] using hk
  have h1 := flat_set hs k 0 (.int .i64 (k : Int)) hl (by decide)
  rw [Nat.add_zero] at h1
  have hs2 : ∀ el ∈ (numEls n k).set k (((numEls n k).getD k []).set 0 (.int .i64 (k : Int))), el.length = 3 := by
    intro el h
    rcases List.mem_or_eq_of_mem_set h with h | rfl
    · exact hs el h
    · rw [List.length_set]; simp [List.getD, hl]; exact hs _ (List.getElem_mem hl)
  rw [h1, flat_set hs2 k 1 (.int .i64 1) (by rw [List.length_set]; exact hl) (by decide)]
  congr 1
  apply List.ext_getElem
  · simp [numEls]
  · intro j hj1 hj2
    rw [List.getElem_set]
    by_cases e : k = j
    · subst e
      simp [numEls, List.getD, hk, slotEl]
    · rw [if_neg e, List.getElem_set, if_neg e]
      have hj : j < n := by simpa [numEls] using hj2
      simp only [numEls, List.getElem_map, List.getElem_range]
      by_cases h : j < k
      · rw [if_pos h, if_pos (by omega)]
      · rw [if_neg h, if_neg (by omega)]
set_option maxRecDepth 100000 in
set_option maxHeartbeats 1000000 in
theorem new_yes (n : Nat) (w : World) (h1 : 1 ≤ n) (h2 : n ≤ 64) :
    Calls Tryd.prog 14 #[.int .i64 n] w fun e w' => ∃ p b, e = .returned (.tuple #[.pointer (some ⟨p, 0, none⟩), .int .i64 0]) ∧ ArenaAt w' p b (newL zEl n) ∧ w.heap.size ≤ p ∧ w.heap.size ≤ b ∧ Keeps w w' := by
  have hmk := make_runS 83 87 _ (slotEl 0 ⟨0, false, zEl⟩) 3 24 Tryd.underlying83 infoSlot rfl rfl (by decide) n (by omega) (by omega)
  have hfull := fun (W : World) => full_any (n : Int) W
  rw [fullN_newL n h1 h2] at hfull
  have hn1 : ¬ (n : Int) < 1 := by omega
  have hn2 : ¬ 64 < (n : Int) := by omega
  rw [← numEls_0] at hmk
  generalize hF : freeM (newL zEl n) = F at *
  replace hfull := Lib.hid hfull
  replace hF := Lib.hid hF
  go_enter Tryd.func14, Tryd.ntmps14
  go_upto_region 3 with (fail)
  go_cut [4] (fun v wx => v = .pointer (some ⟨w.heap.size + 1, 0, none⟩) ∧ Blk wx w.heap.size 87 (numEls n 0).flatten ∧ Blk wx (w.heap.size + 1) 85 [.slice (some ⟨w.heap.size, 0, none⟩) n n, .int .u64 0, .int .u64 F] ∧ Keeps w wx)
  case first =>
    go_region_with (first | (go_at_call 27; with_reducible refine (hfull.out _).mono ?_; rintro e w' ⟨rfl, rfl⟩))
    all_goals
      go_wp2_with fail
      go_meet
      exact ⟨rfl, ((Blk.new _ _ _).alloc _).keeps (Keeps.drew _), (Blk.at (by simp) rfl).keeps (Keeps.drew _), Keeps.trans (Keeps.trans (Keeps.alloc _ _) (Keeps.alloc _ _)) (Keeps.drew _)⟩
  case rest =>
    clear hmk hfull
    obtain ⟨rfl, hB, hP, hK⟩ := hcut
    obtain ⟨b, hb⟩ : ∃ b, b = w.heap.size := ⟨_, rfl⟩
    have hp1 : w.heap.size + 1 ≠ b := by omega
    have hb1 : w.heap.size ≤ b := by omega
    have hp2 : w.heap.size ≤ w.heap.size + 1 := by omega
    generalize w.heap.size + 1 = p at *
    rw [← hb] at hB hP
    replace hb := Lib.hid hb
    replace hB := Lib.hid hB
    have c0 := hP.cell 0 (by simp)
    simp only [List.getElem_cons_zero] at c0
    replace hP := Lib.hid hP
    replace hK := Lib.hid hK
    go_wp2_with fail
    go_loopw [23] (fun i wr => ∃ k : Nat, k ≤ n ∧ i = .int .i64 k ∧ Blk wr b 87 (numEls n k).flatten ∧ Blk wr p 85 [.slice (some ⟨b, 0, none⟩) n n, .int .u64 0, .int .u64 F] ∧ Keeps w wr) (fun i _ => n - (intOf i).toNat)
    case atStart => exact ⟨0, Nat.zero_le _, rfl, hB.out, hP.out, hK.out⟩
    case round =>
      clear hB hP hK c0
      obtain ⟨k, hk, rfl, hB, hP, hK⟩ := hrel
      by_cases hlt : k < n
      · have c0 := hP.cell 0 (by simp)
        simp only [List.getElem_cons_zero] at c0
        have hfl : k * 3 + 1 < (numEls n k).flatten.length := by rw [flat_len (numEls_size n k)]; simp only [numEls, List.length_map, List.length_range]; omega
        have e0 := hB.cellD (k * 3) (by omega)
        have e1 := hB.cellD (k * 3 + 1) hfl
        have f0 := hB.frozen (k * 3)
        have f1 := hB.frozen (k * 3 + 1)
        have hset := (hB.set (k * 3) (.int .i64 (k : Int))).set (k * 3 + 1) (.int .i64 1)
        rw [numEls_succ n k hlt] at hset
        have hC : Chg (· = b) wr ((wr.setCell ⟨b, k * 3, none⟩ (.int .i64 (k : Int))).setCell ⟨b, k * 3 + 1, none⟩ (.int .i64 1)) := (Chg.setCell (S := (· = b)) _ _ rfl).trans (Chg.setCell (S := (· = b)) _ _ rfl)
        have hP2 := hP.chg hC hp1
        have hK2 := Chg.keeps hC hK (fun j hj => by omega)
        generalize (numEls n k).flatten.getD (k * 3) undef = g0 at *
        generalize (numEls n k).flatten.getD (k * 3 + 1) undef = g1 at *
        replace hset := Lib.hid hset
        replace hP2 := Lib.hid hP2
        replace hK2 := Lib.hid hK2
        clear hB hP hK hC
        go_wp2_with fail
        go_roundw
        case rel => exact ⟨k + 1, by omega, by go_num, hset.out, hP2.out, hK2.out⟩
        case measure => (simp [intOf]; try omega)
      · obtain rfl : k = n := by omega
        have hfin : ArenaAt wr p b (newL zEl k) := by
          refine ⟨?_, ?_, Ne.symm hp1, by rw [newL_len]; exact h1, by rw [newL_len]; exact h2, newL_ok k⟩
          · rw [newL_len, usedM_newL, hF.out]; exact hP
          · rw [← numEls_end]; exact hB
        replace hfin := Lib.hid hfin
        replace hK := Lib.hid hK
        clear hB hP
        go_wp2_with fail
        go_ret2
        exact ⟨p, b, rfl, hfin.out, hp2, hb1, hK.out⟩
end Go.Proofs.YtanidaepfepppaaDoor.ArI
