/- Plain mathematics of 64-bit masks: no program in sight. -/
import Derived.Laws.Bits64b
import Derived.Lib.TrailingZeros
namespace Go.Proofs.YtefippjakkgjkaaDoor

/-- A number's own bit. -/
def bitN (i : Int) : Nat := if 0 ≤ i ∧ i < 64 then 2 ^ i.toNat else 0
/-- Is i in m? -/
def hasN (m : Nat) (i : Int) : Bool := decide (0 ≤ i ∧ i < 64) && m.testBit i.toNat
def orN (m : Nat) (i : Int) : Nat := m ||| bitN i
def andNotN (m b : Nat) : Nat := m ^^^ (m &&& b)
def withN (m : Nat) (l : List Int) : Nat := l.foldl orN m
def withoutN (m : Nat) (l : List Int) : Nat := l.foldl (fun m i => andNotN m (bitN i)) m
def listN (m : Nat) : List Nat := (List.range 64).filter (m.testBit ·)
def lenN (m : Nat) : Nat := (listN m).length
def fullN (n : Int) : Nat := if n < 1 then 0 else if 64 ≤ n then 18446744073709551615 else 2 ^ n.toNat - 1
def nextN (m : Nat) (i : Int) : Option Nat := (listN m).find? (fun (k : Nat) => decide (i ≤ (k : Int)))
def nextV (m : Nat) (i : Int) : Nat := (nextN m i).getD 0
def nextIs (m : Nat) (i : Int) : Bool := (nextN m i).isSome
def aroundN (m : Nat) (i : Int) : Option Nat := match nextN m i with | some k => some k | none => nextN m 0
def aroundV (m : Nat) (i : Int) : Nat := (aroundN m i).getD 0
def aroundIs (m : Nat) (i : Int) : Bool := (aroundN m i).isSome
def turnK (n : Int) : Nat := (n % 18446744073709551616).toNat % 64
def turnN (m : Nat) (n : Int) : Nat := (m / 2 ^ turnK n) ||| (m * 2 ^ (64 - turnK n) % 18446744073709551616)

theorem turnK_lt (n : Int) : turnK n < 64 := Nat.mod_lt _ (by decide)
theorem bitN_lt (i : Int) : bitN i < 18446744073709551616 := by
  unfold bitN; split
  · rename_i h
    have : 2 ^ i.toNat < 2 ^ 64 := Nat.pow_lt_pow_right (by omega) (by omega)
    omega
  · omega
theorem testBit_bitN (i : Int) (k : Nat) : (bitN i).testBit k = decide (i = (k : Int) ∧ i < 64) := by
  unfold bitN; split
  · rename_i h
    rw [Nat.testBit_two_pow, decide_eq_decide]; omega
  · rename_i h
    rw [Nat.zero_testBit]; symm; rw [decide_eq_false_iff_not]; omega
theorem orN_lt (m : Nat) (i : Int) (h : m < 18446744073709551616) : orN m i < 18446744073709551616 := by
  have := bitN_lt i
  exact Nat.or_lt_two_pow (n := 64) (by omega) (by omega)
theorem andNotN_lt (m b : Nat) (h : m < 18446744073709551616) : andNotN m b < 18446744073709551616 := by
  have h1 : m &&& b < 2 ^ 64 := Nat.lt_of_le_of_lt Nat.and_le_left (by omega)
  exact Nat.xor_lt_two_pow (n := 64) (by omega) h1
theorem testBit_andNotN (m b k : Nat) : (andNotN m b).testBit k = (m.testBit k && !b.testBit k) := by
  unfold andNotN; rw [Nat.testBit_xor, Nat.testBit_and]; cases m.testBit k <;> cases b.testBit k <;> rfl
theorem withN_lt : ∀ (l : List Int) (m : Nat), m < 18446744073709551616 → withN m l < 18446744073709551616
  | [], _, h => h
  | i :: l, m, h => withN_lt l (orN m i) (orN_lt m i h)
theorem withoutN_lt : ∀ (l : List Int) (m : Nat), m < 18446744073709551616 → withoutN m l < 18446744073709551616
  | [], _, h => h
  | i :: l, m, h => withoutN_lt l (andNotN m (bitN i)) (andNotN_lt m _ h)
theorem withN_succ (m : Nat) (zs : List Int) (k : Nat) (h : k < zs.length) : withN m (zs.take (k + 1)) = withN m (zs.take k) ||| bitN zs[k] := by
  rw [List.take_succ_eq_append_getElem h]; unfold withN; rw [List.foldl_append]; rfl
theorem withoutN_succ (m : Nat) (zs : List Int) (k : Nat) (h : k < zs.length) : withoutN m (zs.take (k + 1)) = andNotN (withoutN m (zs.take k)) (bitN zs[k]) := by
  rw [List.take_succ_eq_append_getElem h]; unfold withoutN; rw [List.foldl_append]; rfl
theorem testBit_withN (k : Nat) (hk : k < 64) : ∀ (l : List Int) (m : Nat), (withN m l).testBit k = (m.testBit k || decide ((k : Int) ∈ l))
  | [], m => by simp [withN]
  | i :: l, m => by
    have h := testBit_withN k hk l (orN m i)
    unfold withN at h ⊢
    rw [List.foldl_cons, h, orN, Nat.testBit_or, testBit_bitN, Bool.or_assoc]
    congr 1
    rw [← Bool.decide_or, decide_eq_decide, List.mem_cons]
    constructor
    · rintro (h | h)
      · exact .inl h.1.symm
      · exact .inr h
    · rintro (h | h)
      · exact .inl ⟨h.symm, by omega⟩
      · exact .inr h
theorem testBit_withoutN (k : Nat) (hk : k < 64) : ∀ (l : List Int) (m : Nat), (withoutN m l).testBit k = (m.testBit k && !decide ((k : Int) ∈ l))
  | [], m => by simp [withoutN]
  | i :: l, m => by
    have h := testBit_withoutN k hk l (andNotN m (bitN i))
    unfold withoutN at h ⊢
    rw [List.foldl_cons, h, testBit_andNotN, testBit_bitN, Bool.and_assoc]
    congr 1
    rw [← Bool.not_or, ← Bool.decide_or]
    congr 1
    rw [decide_eq_decide, List.mem_cons]
    constructor
    · rintro (h | h)
      · exact .inl h.1.symm
      · exact .inr h
    · rintro (h | h)
      · exact .inl ⟨h.symm, by omega⟩
      · exact .inr h
theorem testBit_high (m k : Nat) (h : m < 18446744073709551616) (hk : 64 ≤ k) : m.testBit k = false :=
  Nat.testBit_lt_two_pow (Nat.lt_of_lt_of_le (show m < 2 ^ 64 by omega) (Nat.pow_le_pow_right (by omega) hk))
theorem eq_of_bits (a b : Nat) (ha : a < 18446744073709551616) (hb : b < 18446744073709551616) (h : ∀ k, k < 64 → a.testBit k = b.testBit k) : a = b := by
  apply Nat.eq_of_testBit_eq
  intro k
  by_cases hk : k < 64
  · exact h k hk
  · rw [testBit_high a k ha (by omega), testBit_high b k hb (by omega)]

theorem bits_andNot_u64 (a b : Nat) (ha : a < 18446744073709551616) (hb : b < 18446744073709551616) :
    bits .andNot .u64 (a : Int) (b : Int) = ((andNotN a b : Nat) : Int) := by
  have hx := andNotN_lt a b ha
  have h1 : (BitVec.ofInt 64 (a : Int)).toNat = a := by
    rw [BitVec.ofInt_natCast, BitVec.toNat_ofNat]; exact Nat.mod_eq_of_lt (by omega)
  have h2 : (BitVec.ofInt 64 (b : Int)).toNat = b := by
    rw [BitVec.ofInt_natCast, BitVec.toNat_ofNat]; exact Nat.mod_eq_of_lt (by omega)
  show IntKind.u64.wrap ((BitVec.ofInt 64 (a : Int) &&& ~~~ BitVec.ofInt 64 (b : Int)).toNat : Int) = _
  have h3 : (BitVec.ofInt 64 (a : Int) &&& ~~~ BitVec.ofInt 64 (b : Int)).toNat = andNotN a b := by
    apply Nat.eq_of_testBit_eq
    intro i
    rw [testBit_andNotN, BitVec.testBit_toNat, BitVec.getLsbD_and, BitVec.getLsbD_not, ← BitVec.testBit_toNat, ← BitVec.testBit_toNat, h1, h2]
    by_cases hi : i < 64
    · simp [hi]
    · rw [testBit_high a i ha (by omega)]; simp
  rw [h3, IntKind.wrap_u64]
  omega

/-- Has, as the code asks it. -/
theorem has_eq (m : Nat) (i : Int) : ((((m &&& bitN i : Nat) : Int)) != 0) = hasN m i := by
  have e : ((((m &&& bitN i : Nat) : Int)) != 0) = ((m &&& bitN i) != 0) := by
    rw [Bool.eq_iff_iff]; simp
  rw [e]
  unfold hasN
  by_cases hi : 0 ≤ i ∧ i < 64
  · simp only [hi, and_self, decide_true, Bool.true_and]
    cases hb : m.testBit i.toNat
    · rw [bne_eq_false_iff_eq]
      apply Nat.eq_of_testBit_eq
      intro k
      rw [Nat.testBit_and, testBit_bitN, Nat.zero_testBit]
      by_cases hk : i = (k : Int) ∧ i < 64
      · have : k = i.toNat := by omega
        rw [this, hb]; rfl
      · simp [hk]
    · rw [bne_iff_ne]
      intro h0
      have := congrArg (·.testBit i.toNat) h0
      simp only [Nat.testBit_and, testBit_bitN, Nat.zero_testBit, hb, Bool.true_and] at this
      rw [decide_eq_false_iff_not] at this
      omega
  · have : bitN i = 0 := by unfold bitN; rw [if_neg hi]
    rw [this]; simp [hi]

/-! ### The rising list -/
theorem mem_listN (m k : Nat) : k ∈ listN m ↔ k < 64 ∧ m.testBit k = true := by
  unfold listN; rw [List.mem_filter, List.mem_range]
theorem listN_sorted (m : Nat) : (listN m).Pairwise (· < ·) := List.Pairwise.filter _ List.pairwise_lt_range

/-- The first one that is so, and the others. -/
theorem filter_first (p : Nat → Bool) (n k : Nat) (hk : k < n) (hp : p k = true) (hn : ∀ j, j < k → p j = false) :
    (List.range n).filter p = k :: (List.range n).filter (fun i => p i && (i != k)) := by
  obtain ⟨d, rfl⟩ : ∃ d, n = k + (1 + d) := ⟨n - k - 1, by omega⟩
  rw [List.range_eq_range', ← List.range'_append_1, Nat.zero_add, ← List.range'_append_1, List.filter_append, List.filter_append, List.filter_append, List.filter_append]
  have h1 : (List.range' 0 k).filter p = [] := by
    rw [List.filter_eq_nil_iff]; intro a ha; rw [List.mem_range'_1] at ha; simp [hn a (by omega)]
  have h2 : (List.range' 0 k).filter (fun i => p i && (i != k)) = [] := by
    rw [List.filter_eq_nil_iff]; intro a ha; rw [List.mem_range'_1] at ha; simp [hn a (by omega)]
  have h3 : (List.range' (k + 1) d).filter (fun i => p i && (i != k)) = (List.range' (k + 1) d).filter p := by
    apply List.filter_congr; intro a ha; rw [List.mem_range'_1] at ha
    have : (a != k) = true := by rw [bne_iff_ne]; omega
    simp [this]
  have h4 : List.range' k 1 = [k] := rfl
  rw [h1, h2, h3, h4]; simp [hp]

/-- The lowest number goes: 'r &= r - 1'. -/
theorem listN_step (r : Nat) (h : r < 18446744073709551616) (h0 : r ≠ 0) :
    listN r = Lib.ctz 64 r :: listN (r &&& (r - 1)) ∧ Lib.ctz 64 r < 64 := by
  obtain ⟨m, hm, hk⟩ := Lib.ctzFrom_spec 64 r (by omega) (by omega)
  have e : Lib.ctz 64 r = Lib.ctzFrom 64 r := by simp [Lib.ctz, h0]
  rw [← e] at hm hk
  generalize Lib.ctz 64 r = c at hm hk
  have hpos : 0 < 2 ^ c := Nat.two_pow_pos c
  -- the bits of r, and of r - 1
  have hr : r = 2 ^ (c + 1) * m + 2 ^ c := by rw [hm, Nat.mul_add, Nat.pow_succ, Nat.mul_assoc, Nat.mul_one]
  have hr1 : r - 1 = 2 ^ (c + 1) * m + (2 ^ c - 1) := by omega
  have hlt : 2 ^ c < 2 ^ (c + 1) := Nat.pow_lt_pow_right (by omega) (by omega)
  have b1 : ∀ j, r.testBit j = if j < c + 1 then decide (c = j) else m.testBit (j - (c + 1)) := by
    intro j; rw [hr, Nat.testBit_two_pow_mul_add _ hlt, Nat.testBit_two_pow]
  have b2 : ∀ j, (r - 1).testBit j = if j < c + 1 then decide (j < c) else m.testBit (j - (c + 1)) := by
    intro j; rw [hr1, Nat.testBit_two_pow_mul_add _ (by omega), Nat.testBit_two_pow_sub_one]
  refine ⟨?_, hk⟩
  unfold listN
  rw [filter_first (r.testBit ·) 64 c hk (by rw [b1]; simp) (by intro j hj; rw [b1, if_pos (by omega)]; simp; omega)]
  congr 1
  apply List.filter_congr
  intro j _
  rw [Nat.testBit_and, b1, b2]
  by_cases hj : j < c + 1
  · rw [if_pos hj, if_pos hj]
    by_cases hc : c = j
    · subst hc; simp
    · simp [hc]
  · rw [if_neg hj, if_neg hj]
    have : (j != c) = true := by rw [bne_iff_ne]; omega
    simp [this]
theorem listN_zero : listN 0 = [] := by simp [listN]
theorem listN_len (m : Nat) : (listN m).length ≤ 64 := by
  unfold listN; exact Nat.le_trans (List.length_filter_le _ _) (by simp)

end Go.Proofs.YtefippjakkgjkaaDoor
