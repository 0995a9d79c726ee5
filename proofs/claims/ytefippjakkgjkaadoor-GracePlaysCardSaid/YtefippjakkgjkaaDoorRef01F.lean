/- The reference of layer 1: a set as a list of 64 bools. -/
import Derived.Test.YtefippjakkgjkaaDoorMaskI
import Derived.Deep.QuietTactic
import Derived.BigQuiet
import Derived.WalkSmall
namespace Go.Proofs.YtefippjakkgjkaaDoor
open Go.RowKit

def bitsL (m : Nat) : List Bool := (List.range 64).map (m.testBit ·)
def bitsTo (m k : Nat) : List Bool := (List.range 64).map fun j => decide (j < k) && m.testBit j
theorem bitsTo_len (m k : Nat) : (bitsTo m k).length = 64 := by simp [bitsTo]
theorem bitsTo_end (m : Nat) : bitsTo m 64 = bitsL m := by
  unfold bitsTo bitsL; apply List.map_congr_left; intro j hj; rw [List.mem_range] at hj; simp [hj]
theorem bitsTo_succ (m k : Nat) (_ : k < 64) : (bitsTo m k).set k (m.testBit k) = bitsTo m (k + 1) := by
  apply List.ext_getElem
  · simp [bitsTo]
  · intro j h1 h2
    rw [List.getElem_set]
    simp only [bitsTo, List.getElem_map, List.getElem_range]
    by_cases hj : k = j
    · subst hj; simp
    · rw [if_neg hj]; congr 1; rw [decide_eq_decide]; omega

/-- 64 times false, as the cells of a block. -/
def falses64 : List Value := (bitsTo 0 0).map .bool
theorem falses64_eq (m : Nat) : falses64 = (bitsTo m 0).map .bool := by
  unfold falses64 bitsTo; simp
theorem make64 (w : World) : (Instr.makeSlice 53 (.int .i64 64) (.int .i64 64)).run Tryd.prog w = .ok (.slice (some ⟨w.heap.size, 0, none⟩) 64 64) (w.alloc (.cells falses64.toArray 4)) := by kernel_rfl
theorem bit_mod (m k : Nat) : (((m / 2 ^ k : Nat) : Int) % 2 == 1) = m.testBit k := by
  rw [Nat.testBit_eq_decide_div_mod_eq]
  generalize m / 2 ^ k = x
  by_cases h : x % 2 = 1
  · rw [decide_eq_true h, beq_iff_eq]; omega
  · rw [decide_eq_false h, beq_eq_false_iff_ne]; omega

theorem bitsL_len (m : Nat) : (bitsL m).length = 64 := by simp [bitsL]
theorem bitsL_get (m k : Nat) (hk : k < 64) : ((bitsL m).map Value.bool).getD k undef = .bool (m.testBit k) := by
  simp [bitsL, List.getD, hk]
/-- 64 bools as a slice. -/
def Bools (w : World) (v : Value) (m : Nat) : Prop := Slc w v ((bitsL m).map .bool)
theorem Bools.open {w : World} {v : Value} {m : Nat} (h : Bools w v m) : ∃ b off cap, v = .slice (some ⟨b, off, none⟩) 64 cap ∧ 64 ≤ cap ∧ cap ≤ 9223372036854775807 ∧ b < w.heap.size ∧
    ∀ k, k < 64 → w.cell? ⟨b, off + k, none⟩ = some (.bool (m.testBit k)) := by
  obtain ⟨p, cap, hv, hl, hc, _, h⟩ := h
  have e : ((bitsL m).map Value.bool).length = 64 := by simp [bitsL]
  rw [e] at hv hl h
  obtain ⟨b, off, rfl, hcell⟩ := h 0 (by omega)
  refine ⟨b, off, cap, hv, hl, hc, cell_lt hcell, fun k hk => ?_⟩
  obtain ⟨b', off', hp, hk'⟩ := h k hk
  simp only [Option.some.injEq, Addr.mk.injEq] at hp
  obtain ⟨rfl, rfl, _⟩ := hp
  rw [hk', bitsL_get m k hk]
theorem Bools.of_blk {w : World} {b cap m : Nat} {cs : List Value} (h : Blk w b 4 cs) (hc : 64 ≤ cap) (hm : cap ≤ maxLen) (ht : cs.take 64 = (bitsL m).map .bool) : Bools w (.slice (some ⟨b, 0, none⟩) 64 cap) m := by
  have hl : 64 ≤ cs.length := by
    have := congrArg List.length ht
    simp [bitsL] at this; omega
  have := h.slc 64 cap hl hc hm
  rw [ht] at this
  exact this

/-! ### Word -/
def wordL : List Bool → Nat
  | [] => 0
  | b :: l => 2 * wordL l + b.toNat
theorem wordL_lt : ∀ l, wordL l < 2 ^ l.length
  | [] => by simp [wordL]
  | b :: l => by have := wordL_lt l; rw [wordL, List.length_cons, Nat.pow_succ]; cases b <;> simp <;> omega
theorem wordL_bit : ∀ (l : List Bool) (k : Nat), (wordL l).testBit k = l[k]?.getD false
  | [], k => by simp [wordL]
  | b :: l, 0 => by rw [wordL, Nat.testBit_zero]; cases b <;> simp <;> omega
  | b :: l, k + 1 => by
    rw [wordL, Nat.testBit_succ, show (2 * wordL l + b.toNat) / 2 = wordL l by cases b <;> simp <;> omega, wordL_bit l k]; simp
theorem wordL_bitsL (m : Nat) (hm : m < 18446744073709551616) : wordL (bitsL m) = m := by
  refine eq_of_bits _ _ ?_ hm fun k hk => ?_
  · have := wordL_lt (bitsL m); rw [bitsL_len] at this; exact this
  · rw [wordL_bit]; simp [bitsL, hk]
theorem drop_bits (m j : Nat) (hj : j < 64) : wordL ((bitsL m).drop j) = 2 * wordL ((bitsL m).drop (j + 1)) + (m.testBit j).toNat := by
  have h : j < (bitsL m).length := by rw [bitsL_len]; exact hj
  rw [List.drop_eq_getElem_cons h, wordL]
  simp [bitsL]
theorem drop_lt (m j : Nat) : wordL ((bitsL m).drop j) < 2 ^ (64 - j) := by
  have := wordL_lt ((bitsL m).drop j); rw [List.length_drop, bitsL_len] at this; exact this

/-! ### List, Next, Around -/
def upTo (m k : Nat) : List Nat := (List.range k).filter (m.testBit ·)
theorem upTo_yes (m k : Nat) (h : m.testBit k = true) : upTo m (k + 1) = upTo m k ++ [k] := by simp [upTo, List.range_succ, h]
theorem upTo_no (m k : Nat) (h : m.testBit k = false) : upTo m (k + 1) = upTo m k := by simp [upTo, List.range_succ, h]
theorem upTo_len (m k : Nat) : (upTo m k).length ≤ k := by unfold upTo; exact Nat.le_trans (List.length_filter_le _ _) (by simp)

theorem next_upTo (m : Nat) (i : Int) : nextN m i = (List.range 64).find? (fun k => m.testBit k && decide (i ≤ (k : Int))) := by
  unfold nextN listN; rw [List.find?_filter]; congr 1; funext a; cases m.testBit a <;> simp
theorem find_none (m k : Nat) (i : Int) (h : (List.range k).find? (fun k => m.testBit k && decide (i ≤ (k : Int))) = none) (hn : (m.testBit k && decide (i ≤ (k : Int))) = false) :
    (List.range (k + 1)).find? (fun k => m.testBit k && decide (i ≤ (k : Int))) = none := by
  rw [List.range_succ, List.find?_append, h]; simp only [List.find?_cons, hn]; rfl
theorem find_some (m k : Nat) (i : Int) (hk : k < 64) (h : (List.range k).find? (fun k => m.testBit k && decide (i ≤ (k : Int))) = none) (hn : (m.testBit k && decide (i ≤ (k : Int))) = true) : nextN m i = some k := by
  obtain ⟨d, hd⟩ : ∃ d, 64 = k + (1 + d) := ⟨63 - k, by omega⟩
  rw [next_upTo, hd, List.range_eq_range', ← List.range'_append_1, List.find?_append, ← List.range_eq_range', h, Nat.zero_add, ← List.range'_append_1, List.find?_append]
  show Option.or none (Option.or ([k].find? _) _) = _
  simp only [List.find?_cons, hn]; rfl
theorem around_yes (m : Nat) (i : Int) (h : nextIs m i = true) : aroundV m i = nextV m i ∧ aroundIs m i = true := by
  obtain ⟨k, hk⟩ := Option.isSome_iff_exists.1 h
  simp [aroundV, aroundN, aroundIs, nextV, hk]
theorem around_no (m : Nat) (i : Int) (h : nextIs m i = false) : aroundV m i = nextV m 0 ∧ aroundIs m i = nextIs m 0 := by
  have : nextN m i = none := by simpa [nextIs] using h
  simp [aroundV, aroundN, aroundIs, nextV, nextIs, this]
/-! ### Same -/
def sameL_R (a b : List Int) : Bool := decide (a = b)
theorem sameL_self_R (a : List Int) : sameL_R a a = true := by simp [sameL_R]
set_option maxHeartbeats 1000000 in
theorem same_any_R (a b : List Int) (u v : Value) (w : World) (hu : Ints w u a) (hv : Ints w v b) :
    Calls Tryd.prog 30 #[u, v] w fun e w' => e = .returned (.bool (sameL_R a b)) ∧ Keeps w w' := by
  obtain ⟨p, cap, rfl, hl, hc, hcell⟩ := hu.open
  obtain ⟨p', cap', rfl, hl', hc', hcell'⟩ := hv.open
  by_cases hab : a.length = b.length
  · have hn : ((a.length : Int) != (b.length : Int)) = false := by rw [bne_eq_false_iff_eq]; omega
    replace hab := Lib.hid hab
    clear hu hv
    go_enter Tryd.func30, Tryd.ntmps30
    go_wp2
    go_loopw [5] (fun t wr => ∃ k : Nat, k ≤ a.length ∧ t = .int .i64 k ∧ a.take k = b.take k ∧ Keeps w wr) (fun t _ => a.length - (intOf t).toNat)
    case atStart => exact ⟨0, by omega, rfl, rfl, Keeps.refl _⟩
    case round =>
      obtain ⟨k, hk, rfl, hf, hK⟩ := hrel
      by_cases hlt : k < a.length
      · have hlt' : k < b.length := by have := hab.out; omega
        obtain ⟨b1, o1, rfl, h1⟩ := hcell k hlt
        obtain ⟨b2, o2, rfl, h2⟩ := hcell' k hlt'
        have g1 := (hK.cell (p := ⟨b1, o1 + k, none⟩) (cell_lt h1)).trans h1
        have g2 := (hK.cell (p := ⟨b2, o2 + k, none⟩) (cell_lt h2)).trans h2
        have i1 : (0 : Int) ≤ (k : Int) := by omega
        have i2 : (k : Int) < (a.length : Int) := by omega
        have i3 : (k : Int) < (b.length : Int) := by omega
        clear hcell hcell' h1 h2
        by_cases he : a[k] = b[k]
        · have hq : (a[k] != b[k]) = false := by rw [bne_eq_false_iff_eq]; exact he
          have hN := Lib.hid (show a.take (k + 1) = b.take (k + 1) by rw [List.take_succ_eq_append_getElem hlt, List.take_succ_eq_append_getElem hlt', hf, he])
          replace hf := Lib.hid hf
          replace he := Lib.hid he
          go_wp2
          go_quiet (fail)
          go_wp2
          go_roundw
          case rel => exact ⟨k + 1, by omega, by go_num, hN.out, Below.trans hK (below_drewN (Below.refl _ wr) _)⟩
          case measure => (simp [intOf]; try omega)
        · have hq : (a[k] != b[k]) = true := by rw [bne_iff_ne]; exact he
          have hN := Lib.hid (show sameL_R a b = false by
            simp only [sameL_R, decide_eq_false_iff_not]; intro h; subst h; exact he rfl)
          replace hf := Lib.hid hf
          replace he := Lib.hid he
          go_wp2
          go_quiet (fail)
          go_wp2
          go_ret
          exact ⟨ret_bool hN.out.symm, Below.trans hK (below_drewN (Below.refl _ wr) _)⟩
      · obtain rfl : k = a.length := by omega
        have hN := Lib.hid (show sameL_R a b = true by
            have h := hab.out
            rw [List.take_of_length_le (Nat.le_refl _), List.take_of_length_le (by omega)] at hf
            simp [sameL_R, hf])
        clear hf
        go_wp2
        go_ret
        exact ⟨ret_bool hN.out.symm, hK⟩
  · have hn : ((a.length : Int) != (b.length : Int)) = true := by rw [bne_iff_ne]; omega
    have hN := Lib.hid (show sameL_R a b = false by
            simp only [sameL_R, decide_eq_false_iff_not]; intro h; subst h; exact hab rfl)
    clear hab hu hv
    go_enter Tryd.func30, Tryd.ntmps30
    go_wp2
    go_ret
    exact ⟨ret_bool hN.out.symm, Keeps.refl _⟩

/-! ### Put -/
def putN (x : Bool) (m : Nat) (l : List Int) : Nat := if x then withN m l else withoutN m l
def putB (x : Bool) (m : Nat) (i : Int) : Nat := if x then m ||| bitN i else andNotN m (bitN i)
theorem putN_succ (x : Bool) (m : Nat) (zs : List Int) (k : Nat) (h : k < zs.length) : putN x m (zs.take (k + 1)) = putB x (putN x m (zs.take k)) zs[k] := by
  cases x
  · simp only [putN, putB, Bool.false_eq_true, if_false]; exact withoutN_succ m zs k h
  · simp only [putN, putB, if_true]; exact withN_succ m zs k h
theorem putB_in (x : Bool) (m : Nat) (i : Int) (h0 : 0 ≤ i) (h1 : i < 64) : (bitsL m).set i.toNat x = bitsL (putB x m i) := by
  apply List.ext_getElem
  · simp [bitsL]
  · intro j g1 g2
    rw [List.getElem_set]
    simp only [bitsL, List.getElem_map, List.getElem_range]
    by_cases hj : i.toNat = j
    · rw [if_pos hj]
      have e : decide (i = (j : Int) ∧ i < 64) = true := decide_eq_true (by omega)
      cases x <;> simp only [putB, Bool.false_eq_true, if_false, if_true, Nat.testBit_or, testBit_andNotN, testBit_bitN, e] <;> simp
    · rw [if_neg hj]
      have e : decide (i = (j : Int) ∧ i < 64) = false := decide_eq_false (by omega)
      cases x <;> simp only [putB, Bool.false_eq_true, if_false, if_true, Nat.testBit_or, testBit_andNotN, testBit_bitN, e] <;> simp
theorem putB_out (x : Bool) (m : Nat) (i : Int) (h : i < 0 ∨ 64 ≤ i) : putB x m i = m := by
  have e : bitN i = 0 := by unfold bitN; rw [if_neg (by omega)]
  unfold putB; rw [e]; cases x <;> simp [andNotN]
theorem infoBool : (Tryd.prog.info? 4).map (fun i => (i.zero, i.size, i.bytes)) = some (some (.bool false), 1, 1) := by kernel_rfl
theorem row_blk {w : World} {base : Nat} {e : TypeId} {v : Value} {n : Nat} {xs : List Value} (h : w.ownsRow base e 1 v (n + 1) xs) : ∃ g cap cs, v = .slice (some ⟨g, 0, none⟩) (n + 1) cap ∧ base ≤ g ∧ Blk w g e cs ∧ n + 1 ≤ cap ∧ cap ≤ maxLen ∧ cs.length = cap ∧ cs.take (n + 1) = xs := by
  obtain ⟨hl, h⟩ := h
  rcases h with ⟨_, h⟩ | ⟨g, cap, cur, rfl, hb, hg, hn, hm, hs, ht⟩
  · omega
  · exact ⟨g, cap, cur.toList, rfl, hb, hg, hn, hm, by simpa using hs, by simpa using ht⟩
/-! ### Turn -/
def turnedTo (m K k : Nat) : List Bool := (List.range 64).map fun j => decide ((j + K) % 64 < k) && m.testBit ((j + K) % 64)
theorem turnedTo_zero (m K : Nat) : turnedTo m K 0 = bitsTo 0 0 := by simp [turnedTo, bitsTo]
theorem turnedTo_succ (m K k : Nat) (hK : K < 64) (hk : k < 64) : (turnedTo m K k).set ((k + 64 - K) % 64) (m.testBit k) = turnedTo m K (k + 1) := by
  apply List.ext_getElem
  · simp [turnedTo]
  · intro j h1 h2
    have hj64 : j < 64 := by simpa [turnedTo] using h2
    rw [List.getElem_set]
    simp only [turnedTo, List.getElem_map, List.getElem_range]
    by_cases hj : (k + 64 - K) % 64 = j
    · rw [if_pos hj]
      have e : (j + K) % 64 = k := by omega
      rw [e]; simp
    · rw [if_neg hj]
      congr 1; rw [decide_eq_decide]; omega
theorem turnedTo_end (m K : Nat) (hm : m < 18446744073709551616) (hK : K < 64) : turnedTo m K 64 = bitsL ((m / 2 ^ K) ||| (m * 2 ^ (64 - K) % 18446744073709551616)) := by
  unfold turnedTo bitsL
  apply List.map_congr_left
  intro j hj
  rw [List.mem_range] at hj
  rw [decide_eq_true (by omega), Bool.true_and, Nat.testBit_or, Nat.testBit_div_two_pow, show (18446744073709551616 : Nat) = 2 ^ 64 from rfl, Nat.testBit_mod_two_pow, Nat.testBit_mul_two_pow]
  by_cases h : j + K < 64
  · have e : ¬ (64 - K ≤ j) := by omega
    rw [Nat.mod_eq_of_lt h]; simp [e]
  · have e : 64 - K ≤ j := by omega
    rw [testBit_high m (j + K) hm (by omega), show (j + K) % 64 = j - (64 - K) by omega]
    simp [e, hj]
theorem tmod64 (n : Int) : n.tmod 64 = if 0 ≤ n then n % 64 else -((-n) % 64) := by
  split
  · rename_i h; exact Int.tmod_eq_emod_of_nonneg h
  · rename_i h
    have h1 : n.tmod 64 = -((-n).tmod 64) := by rw [Int.neg_tmod, Int.neg_neg]
    rw [h1, Int.tmod_eq_emod_of_nonneg (by omega)]
theorem turn_tmod (n : Int) : ∃ r : Int, n.tmod 64 = r ∧ -64 < r ∧ r < 64 ∧ (if r < 0 then r + 64 else r) = ((turnK n : Nat) : Int) := by
  refine ⟨_, rfl, ?_⟩
  have h := tmod64 n
  rw [h]
  unfold turnK
  split
  · refine ⟨by omega, by omega, ?_⟩
    rw [if_neg (by omega)]; omega
  · refine ⟨by omega, by omega, ?_⟩
    split <;> omega
end Go.Proofs.YtefippjakkgjkaaDoor
