/- Plain mathematics of the laws of layer 23. -/
import Derived.Test.YtmjknhjlhnljpaaGuardE
namespace Go.Proofs.Ytmjknhjlhnljpaa
theorem getD_replicate (n k x d : Nat) (h : k < n) : (List.replicate n x).getD k d = x := by simp [List.getD, h]
theorem getD_set_self (l : List Nat) (k x d : Nat) (h : k < l.length) : (l.set k x).getD k d = x := by simp [List.getD, h]
theorem hasN_zero (i : Int) : hasN 0 i = false := by simp [hasN]
theorem hasN_orN (m : Nat) (i : Nat) (h : i < 64) : hasN (orN m i) i = true := by
  have hb : (bitN (i : Int)).testBit i = true := by rw [testBit_bitN]; simp; omega
  simp [hasN, orN, hb]; omega
def bump (cs : List Nat) (n : Nat) : List Nat := cs.set n (min (cs.getD n 0 + 1) 255)
/-- The counts behind i misses of n. -/
def cnts (n i : Nat) : List Nat := (List.replicate 16 0).set n (min i 255)
theorem cnts_zero (n : Nat) : cnts n 0 = List.replicate 16 0 := by
  unfold cnts
  exact List.set_replicate_self
theorem cnts_getD (n i : Nat) (hn : n < 16) : (cnts n i).getD n 0 = min i 255 := by unfold cnts; rw [getD_set_self]; simpa using hn
theorem cnts_succ (n i : Nat) (hn : n < 16) : (cnts n i).set n (min ((cnts n i).getD n 0 + 1) 255) = cnts n (i + 1) := by
  rw [cnts_getD n i hn]; unfold cnts; rw [List.set_set]; congr 1; omega
theorem cnts_sum (n i : Nat) (hn : n < 16) : sumTo (cnts n i) 16 = min i 255 := by
  have h : ∀ n, n < 16 → ∀ x, ((((List.replicate 16 0).set n x).take 16).foldr (· + ·) 0) = x := by
    intro n hn x
    match n, hn with
    | 0, _ | 1, _ | 2, _ | 3, _ | 4, _ | 5, _ | 6, _ | 7, _ | 8, _ | 9, _ | 10, _ | 11, _ | 12, _ | 13, _ | 14, _ | 15, _ => simp [List.replicate]
    | n + 16, h => exact absurd h (by omega)
  exact h n hn _


theorem mem_castL (l : List Nat) (k : Nat) : (k : Int) ∈ castL l ↔ k ∈ l := by
  simp only [castL, List.mem_map]
  constructor
  · rintro ⟨x, hx, h⟩; obtain rfl : x = k := by omega
    exact hx
  · intro h; exact ⟨k, h, rfl⟩
theorem onN_bit (ms : List Nat) (n : Int) (k : Nat) (hk : k < 64) : (onN ms n).testBit k = (decide (k < ms.length) && hasN (ms.getD k 0) n) := by
  unfold onN
  rw [testBit_withN k hk, Nat.zero_testBit, Bool.false_or]
  rw [Bool.eq_iff_iff]
  simp only [decide_eq_true_eq, mem_castL, onTo, List.mem_filter, List.mem_range, Bool.and_eq_true]
theorem onN_lt (ms : List Nat) (n : Int) : onN ms n < 18446744073709551616 := withN_lt _ _ (by decide)
theorem testBit_full (n : Int) (j : Nat) (hj : j < 64) : (fullN n).testBit j = decide ((j : Int) < n) := by
  unfold fullN
  split
  · rw [Nat.zero_testBit]; symm; rw [decide_eq_false_iff_not]; omega
  · split
    · rw [show (18446744073709551615 : Nat) = 2 ^ 64 - 1 from rfl, Nat.testBit_two_pow_sub_one, decide_eq_decide]; omega
    · rw [Nat.testBit_two_pow_sub_one, decide_eq_decide]; omega
theorem fullN_lt (n : Int) : fullN n < 18446744073709551616 := by
  unfold fullN
  split
  · omega
  · split
    · omega
    · rename_i h1 h2
      have : 2 ^ n.toNat ≤ 2 ^ 63 := Nat.pow_le_pow_right (by omega) (by omega)
      omega

/-- Behind k rounds: the program is active on all of the first k CPUs but C. -/
def apart (K P C k : Nat) : List Nat := (List.range (1 + K)).map fun c => if c < k ∧ c ≠ C then orN 0 P else 0
theorem apart_len (K P C k : Nat) : (apart K P C k).length = 1 + K := by simp [apart]
theorem apart_get (K P C k c : Nat) (h : c < 1 + K) : (apart K P C k).getD c 0 = if c < k ∧ c ≠ C then orN 0 P else 0 := by simp [apart, List.getD, h]
theorem apart_zero (K P C : Nat) : apart K P C 0 = List.replicate (1 + K) 0 := by
  apply List.ext_getElem
  · simp [apart]
  · intro i h1 h2; simp [apart]
theorem apart_succ (K P C k : Nat) (h : k < 1 + K) (hk : k ≠ C) : (apart K P C k).set k (orN ((apart K P C k).getD k 0) P) = apart K P C (k + 1) := by
  rw [apart_get _ _ _ _ _ h, if_neg (by omega)]
  apply List.ext_getElem
  · simp [apart]
  · intro i h1 h2
    rw [List.getElem_set]
    simp only [apart, List.getElem_map, List.getElem_range]
    by_cases e : k = i
    · subst e; rw [if_pos rfl, if_pos ⟨by omega, hk⟩]
    · rw [if_neg e]
      by_cases e2 : i < k ∧ i ≠ C
      · rw [if_pos e2, if_pos ⟨by omega, e2.2⟩]
      · rw [if_neg e2, if_neg (by omega)]
theorem apart_same (K P C k : Nat) (hk : k = C) : apart K P C (k + 1) = apart K P C k := by
  apply List.ext_getElem
  · simp [apart]
  · intro i h1 h2
    simp only [apart, List.getElem_map, List.getElem_range]
    by_cases e2 : i < k ∧ i ≠ C
    · rw [if_pos e2, if_pos ⟨by omega, e2.2⟩]
    · rw [if_neg e2, if_neg (by omega)]
theorem apart_on (K P C : Nat) (hP : P < 16) : onN (apart K P C (1 + K)) (P : Nat) = withoutN (fullN ((1 + K : Nat) : Int)) [(C : Int)] := by
  refine eq_of_bits _ _ (onN_lt _ _) (withoutN_lt _ _ (fullN_lt _)) fun j hj => ?_
  rw [onN_bit _ _ j hj, testBit_withoutN j hj, testBit_full _ j hj, apart_len]
  by_cases h : j < 1 + K
  · rw [apart_get _ _ _ _ _ h, decide_eq_true h, decide_eq_true (show (j : Int) < ((1 + K : Nat) : Int) by omega), Bool.true_and, Bool.true_and]
    by_cases e : j = C
    · rw [if_neg (by omega), hasN_zero]; simp [e]
    · rw [if_pos ⟨h, e⟩, hasN_orN 0 P (by omega)]; simp; omega
  · rw [decide_eq_false h, decide_eq_false (show ¬ (j : Int) < ((1 + K : Nat) : Int) by omega), Bool.false_and, Bool.false_and]
theorem apart_end (K P C : Nat) (hC : C < 1 + K) : (apart K P C (1 + K)).set C (orN ((apart K P C (1 + K)).getD C 0) P) = List.replicate (1 + K) (orN 0 P) := by
  rw [apart_get _ _ _ _ _ hC, if_neg (by omega)]
  apply List.ext_getElem
  · simp [apart]
  · intro i h1 h2
    rw [List.getElem_set]
    simp only [apart, List.getElem_map, List.getElem_range, List.getElem_replicate]
    by_cases e : C = i
    · rw [if_pos e]
    · rw [if_neg e, if_pos]
      have : i < 1 + K := by simpa using h2
      omega
theorem full_on (K P : Nat) (hP : P < 16) : onN (List.replicate (1 + K) (orN 0 P)) (P : Nat) = fullN ((1 + K : Nat) : Int) := by
  refine eq_of_bits _ _ (onN_lt _ _) (fullN_lt _) fun j hj => ?_
  rw [onN_bit _ _ j hj, testBit_full _ j hj, List.length_replicate]
  by_cases h : j < 1 + K
  · rw [getD_replicate _ _ _ _ h, hasN_orN 0 P (by omega)]; simp; omega
  · simp [h]; omega
theorem with_two (P O : Nat) : withN 0 [(P : Int), (O : Int)] = orN (orN 0 P) O := rfl
theorem with_same (P : Nat) : withN 0 [(P : Int), (P : Int)] = orN 0 P := by
  simp [withN, orN]
theorem has_one (P O : Nat) (hO : O < 64) : hasN (orN 0 P) O = decide (O = P) := by
  have hb : (bitN (P : Int)).testBit O = decide (O = P) := by rw [testBit_bitN, decide_eq_decide]; omega
  simp only [hasN, orN, Nat.zero_or, Int.toNat_natCast, hb]
  rw [decide_eq_true (by omega), Bool.true_and]
theorem without_three (P O : Nat) : withoutN (withN 0 [(P : Int), (O : Int)]) [(P : Int), (O : Int), (P : Int)] = 0 := by
  refine eq_of_bits _ _ (withoutN_lt _ _ (withN_lt _ _ (by decide))) (by decide) fun j hj => ?_
  rw [testBit_withoutN j hj, testBit_withN j hj, Nat.zero_testBit, Bool.false_or]
  by_cases h : (j : Int) ∈ [(P : Int), (O : Int)]
  · have : (j : Int) ∈ [(P : Int), (O : Int), (P : Int)] := by simp only [List.mem_cons, List.not_mem_nil, or_false] at h ⊢; omega
    rw [decide_eq_true this]; simp
  · rw [decide_eq_false h]; rfl
theorem lenN_zero' : lenN 0 = 0 := by decide
end Go.Proofs.Ytmjknhjlhnljpaa
