/- Plain mathematics for the laws of layer 1. -/
import Derived.Test.YtefippjakkgjkaaDoorMaskM
namespace Go.Proofs.YtefippjakkgjkaaDoor

/-! ### Turn -/
theorem turnN_lt (m : Nat) (n : Int) (hm : m < 18446744073709551616) : turnN m n < 18446744073709551616 := by
  unfold turnN
  exact Nat.or_lt_two_pow (n := 64) (Nat.lt_of_le_of_lt (Nat.div_le_self _ _) hm) (Nat.mod_lt _ (by decide))
theorem testBit_turnN (m : Nat) (n : Int) (hm : m < 18446744073709551616) (j : Nat) (hj : j < 64) : (turnN m n).testBit j = m.testBit ((j + turnK n) % 64) := by
  have hK := turnK_lt n
  unfold turnN
  generalize turnK n = K at *
  rw [Nat.testBit_or, Nat.testBit_div_two_pow, show (18446744073709551616 : Nat) = 2 ^ 64 from rfl, Nat.testBit_mod_two_pow, Nat.testBit_mul_two_pow]
  by_cases h : j + K < 64
  · have e : ¬ (64 - K ≤ j) := by omega
    rw [Nat.mod_eq_of_lt h]; simp [e]
  · have e : 64 - K ≤ j := by omega
    rw [testBit_high m (j + K) hm (by omega), show (j + K) % 64 = j - (64 - K) by omega]
    simp [e, hj]
theorem turnK_neg (n : Int) : turnK (-((turnK n : Nat) : Int)) = (64 - turnK n) % 64 := by
  have hK := turnK_lt n
  generalize turnK n = K at *
  unfold turnK; omega
theorem turn_back (m : Nat) (n : Int) (hm : m < 18446744073709551616) : turnN (turnN m n) (-((turnK n : Nat) : Int)) = m := by
  have hK := turnK_lt n
  refine eq_of_bits _ _ (turnN_lt _ _ (turnN_lt m n hm)) hm fun j hj => ?_
  rw [testBit_turnN _ _ (turnN_lt m n hm) j hj, testBit_turnN m n hm _ (Nat.mod_lt _ (by decide)), turnK_neg]
  congr 1
  generalize turnK n = K at *
  omega
theorem range_turn (K : Nat) (hK : K < 64) : (List.range 64).map (fun t => (t + K) % 64) = List.range' K (64 - K) ++ List.range K := by
  apply List.ext_getElem
  · simp; omega
  · intro j h1 h2
    simp only [List.length_map, List.length_range] at h1
    rw [List.getElem_map, List.getElem_range]
    by_cases h : j < 64 - K
    · rw [List.getElem_append_left (by simpa using h), List.getElem_range', Nat.mod_eq_of_lt (by omega)]; omega
    · rw [List.getElem_append_right (by simp; omega)]
      simp only [List.length_range', List.getElem_range]
      omega
theorem lenN_turn (m : Nat) (n : Int) (hm : m < 18446744073709551616) : lenN (turnN m n) = lenN m := by
  have hK := turnK_lt n
  unfold lenN listN
  rw [← List.countP_eq_length_filter, ← List.countP_eq_length_filter]
  have h1 : (List.range 64).countP ((turnN m n).testBit ·) = (List.range 64).countP ((m.testBit ·) ∘ fun t => (t + turnK n) % 64) := by
    apply List.countP_congr
    intro j hj
    rw [List.mem_range] at hj
    rw [testBit_turnN m n hm j hj]; rfl
  rw [h1, ← List.countP_map, range_turn _ hK, List.countP_append, Nat.add_comm, ← List.countP_append]
  congr 1
  rw [List.range_eq_range', List.range_eq_range']
  have := List.range'_append_1 (s := 0) (m := turnK n) (n := 64 - turnK n)
  rw [Nat.zero_add] at this
  rw [this]
  congr 1
  omega

/-! ### Going on behind each number -/
/-- Where one asks for the i-th number of l. -/
def atPos (l : List Nat) (i : Nat) : Int := if i = 0 then 0 else (l.getD (i - 1) 0 : Int) + 1
theorem sorted_lt {l : List Nat} (h : l.Pairwise (· < ·)) {i j : Nat} (hij : i < j) (hj : j < l.length) : l.getD i 0 < l.getD j 0 := by
  have := List.pairwise_iff_getElem.1 h i j (by omega) hj hij
  simpa [List.getD, show i < l.length by omega, hj] using this
theorem find_ge {l : List Nat} (i : Nat) (a : Int) (hlow : ∀ j, j < i → (l.getD j 0 : Int) < a) (hhigh : i < l.length → a ≤ (l.getD i 0 : Int)) :
    l.find? (fun (k : Nat) => decide (a ≤ (k : Int))) = l[i]? := by
  by_cases hi : i < l.length
  · have e : l = l.take i ++ l[i] :: l.drop (i + 1) := by
      rw [← List.drop_eq_getElem_cons hi, List.take_append_drop]
    rw [List.getElem?_eq_getElem hi]
    conv => lhs; rw [e]
    rw [List.find?_append]
    have h1 : (l.take i).find? (fun (k : Nat) => decide (a ≤ (k : Int))) = none := by
      rw [List.find?_eq_none]
      intro x hx
      obtain ⟨j, hj, rfl⟩ := List.mem_take_iff_getElem.1 hx
      have := hlow j (by omega)
      simp only [List.getD, List.getElem?_eq_getElem (show j < l.length by omega), Option.getD_some] at this
      simp; omega
    have h2 := hhigh hi
    simp only [List.getD, List.getElem?_eq_getElem hi, Option.getD_some] at h2
    rw [h1, List.find?_cons, decide_eq_true h2]; rfl
  · rw [List.getElem?_eq_none (by omega), List.find?_eq_none]
    intro x hx
    obtain ⟨j, hj, rfl⟩ := List.mem_iff_getElem.1 hx
    have := hlow j (by omega)
    simp only [List.getD, List.getElem?_eq_getElem hj, Option.getD_some] at this
    simp; omega
theorem next_at (m i : Nat) : nextN m (atPos (listN m) i) = (listN m)[i]? ∨ (listN m).length < i := by
  by_cases hi : i ≤ (listN m).length
  · left
    refine find_ge i _ (fun j hj => ?_) (fun hlt => ?_)
    · unfold atPos
      rw [if_neg (by omega)]
      by_cases hj' : j = i - 1
      · subst hj'; omega
      · have := sorted_lt (listN_sorted m) (show j < i - 1 by omega) (by omega)
        omega
    · unfold atPos
      split
      · omega
      · have := sorted_lt (listN_sorted m) (show i - 1 < i by omega) hlt
        omega
  · right; omega
theorem listN_get (m i : Nat) (hi : i < lenN m) : (listN m).getD i 0 < 64 ∧ m.testBit ((listN m).getD i 0) = true := by
  have hi' : i < (listN m).length := hi
  have : (listN m).getD i 0 ∈ listN m := by simp [List.getD, hi']
  exact (mem_listN m _).1 this
theorem walks_step (m i : Nat) (hi : i < lenN m) : nextV m (atPos (listN m) i) = (listN m).getD i 0 ∧ nextIs m (atPos (listN m) i) = true ∧ hasN m ((listN m).getD i 0 : Nat) = true ∧ (listN m).getD i 0 < 64 ∧
    atPos (listN m) (i + 1) = ((listN m).getD i 0 : Nat) + 1 := by
  have hi' : i < (listN m).length := hi
  have h := (next_at m i).resolve_right (by omega)
  obtain ⟨h1, h2⟩ := listN_get m i hi
  refine ⟨by simp [nextV, h, List.getD], by simp [nextIs, h, hi'], ?_, h1, by simp [atPos]⟩
  unfold hasN
  rw [Int.toNat_natCast, h2, Bool.and_true, decide_eq_true_eq]; omega
theorem walks_end (m : Nat) : nextIs m (atPos (listN m) (lenN m)) = false := by
  have h := (next_at m (lenN m)).resolve_right (by unfold lenN; omega)
  unfold nextIs
  rw [h]
  simp [lenN]
theorem atPos_le (m i : Nat) (hi : i ≤ lenN m) : 0 ≤ atPos (listN m) i ∧ atPos (listN m) i ≤ 64 := by
  unfold atPos; split
  · omega
  · have := listN_get m (i - 1) (by omega); omega

/-- The i-th number. -/
def elN (m i : Nat) : Nat := (listN m).getD i 0
/-! ### Going around -/
theorem around_first (m : Nat) (i : Int) (h : listN m ≠ []) : ∃ j, j < lenN m ∧ aroundIs m i = true ∧ aroundV m i = (listN m).getD j 0 := by
  have hpos : 0 < (listN m).length := List.length_pos_iff.2 h
  cases hn : nextN m i with
  | some k =>
    obtain ⟨j, hj, hk⟩ := List.mem_iff_getElem.1 (List.mem_of_find?_eq_some hn)
    exact ⟨j, hj, by simp [aroundIs, aroundN, hn], by simp [aroundV, aroundN, hn, List.getD, hj, hk]⟩
  | none =>
    have h0 := (next_at m 0).resolve_right (by omega)
    have e : atPos (listN m) 0 = 0 := rfl
    rw [e, List.getElem?_eq_getElem hpos] at h0
    exact ⟨0, hpos, by simp [aroundIs, aroundN, hn, h0], by simp [aroundV, aroundN, hn, h0, List.getD, hpos]⟩
theorem around_none (m : Nat) (i : Int) (h : listN m = []) : aroundIs m i = false := by
  simp [aroundIs, aroundN, nextN, h]
theorem around_next (m j : Nat) (hj : j < lenN m) : aroundV m (((listN m).getD j 0 : Nat) + 1) = (listN m).getD ((j + 1) % lenN m) 0 := by
  have hj' : j < (listN m).length := hj
  have e : ((((listN m).getD j 0 : Nat) : Int) + 1) = atPos (listN m) (j + 1) := by simp [atPos]
  rw [e]
  have h := (next_at m (j + 1)).resolve_right (by omega)
  by_cases hlt : j + 1 < lenN m
  · have hlt' : j + 1 < (listN m).length := hlt
    rw [Nat.mod_eq_of_lt hlt]
    rw [List.getElem?_eq_getElem hlt'] at h
    simp [aroundV, aroundN, h, List.getD, hlt']
  · have e2 : j + 1 = lenN m := by omega
    have hge : (listN m).length ≤ j + 1 := by unfold lenN at e2; omega
    rw [List.getElem?_eq_none hge] at h
    rw [← e2, Nat.mod_self]
    have h0 := (next_at m 0).resolve_right (by omega)
    have e3 : atPos (listN m) 0 = 0 := rfl
    rw [e3] at h0
    simp [aroundV, aroundN, h, h0, List.getD]
/-- What has been seen behind i goes from the j-th on. -/
def seenL (m j i : Nat) : List Int := (List.range i).map fun t => (((listN m).getD ((j + t) % lenN m) 0 : Nat) : Int)
theorem seenL_succ (m j i : Nat) : seenL m j (i + 1) = seenL m j i ++ [(((listN m).getD ((j + i) % lenN m) 0 : Nat) : Int)] := by simp [seenL, List.range_succ]
theorem getD_inj (m a b : Nat) (ha : a < lenN m) (hb : b < lenN m) (h : (listN m).getD a 0 = (listN m).getD b 0) : a = b := by
  by_cases hab : a < b
  · have := sorted_lt (listN_sorted m) hab hb; omega
  · by_cases hba : b < a
    · have := sorted_lt (listN_sorted m) hba ha; omega
    · omega
theorem seen_no (m j i : Nat) (hi : i < lenN m) : hasN (withN 0 (seenL m j i)) ((listN m).getD ((j + i) % lenN m) 0 : Nat) = false := by
  have hp : (j + i) % lenN m < lenN m := Nat.mod_lt _ (by omega)
  obtain ⟨h1, _⟩ := listN_get m _ hp
  unfold hasN
  rw [Int.toNat_natCast, testBit_withN _ h1, Nat.zero_testBit, Bool.false_or]
  rw [Bool.and_eq_false_iff]; right
  rw [decide_eq_false_iff_not]
  intro hmem
  simp only [seenL, List.mem_map, List.mem_range] at hmem
  obtain ⟨t, ht, e⟩ := hmem
  have e2 := getD_inj m ((j + t) % lenN m) ((j + i) % lenN m) (Nat.mod_lt _ (by omega)) hp (by omega)
  generalize lenN m = n at *
  have h3 := Nat.div_add_mod (j + t) n
  have h4 := Nat.div_add_mod (j + i) n
  have h5 : n * ((j + i) / n) = n * ((j + t) / n) + (i - t) := by omega
  have h6 : n * ((j + i) / n - (j + t) / n) = i - t := by rw [Nat.mul_sub]; omega
  cases hd : (j + i) / n - (j + t) / n with
  | zero => rw [hd] at h6; omega
  | succ d => rw [hd, Nat.mul_succ] at h6; omega
theorem seen_all (m j : Nat) (hm : m < 18446744073709551616) (hj : j < lenN m) : withN 0 (seenL m j (lenN m)) = m := by
  refine eq_of_bits _ _ (withN_lt _ 0 (by omega)) hm fun k hk => ?_
  rw [testBit_withN k hk, Nat.zero_testBit, Bool.false_or]
  cases hb : m.testBit k
  · rw [decide_eq_false_iff_not]
    intro hmem
    simp only [seenL, List.mem_map, List.mem_range] at hmem
    obtain ⟨t, ht, e⟩ := hmem
    have := (listN_get m ((j + t) % lenN m) (Nat.mod_lt _ (by omega))).2
    rw [show (listN m).getD ((j + t) % lenN m) 0 = k by omega, hb] at this
    cases this
  · rw [decide_eq_true_eq]
    obtain ⟨s, hs, hsk⟩ := List.mem_iff_getElem.1 ((mem_listN m k).2 ⟨hk, hb⟩)
    have hs' : s < lenN m := hs
    simp only [seenL, List.mem_map, List.mem_range]
    by_cases hsj : j ≤ s
    · refine ⟨s - j, by omega, ?_⟩
      rw [show j + (s - j) = s by omega, Nat.mod_eq_of_lt hs']; simp [List.getD, hs, hsk]
    · refine ⟨lenN m - j + s, by omega, ?_⟩
      rw [show j + (lenN m - j + s) = s + lenN m by omega, Nat.add_mod_right, Nat.mod_eq_of_lt hs']; simp [List.getD, hs, hsk]
theorem lenN_zero (m : Nat) (hm : m < 18446744073709551616) (h : listN m = []) : m = 0 := by
  refine eq_of_bits _ _ hm (by omega) fun k hk => ?_
  rw [Nat.zero_testBit]
  cases hb : m.testBit k
  · rfl
  · have := (mem_listN m k).2 ⟨hk, hb⟩
    rw [h] at this; cases this
end Go.Proofs.YtefippjakkgjkaaDoor
