/- A row of waiting ones: plain mathematics. -/
import Derived.Test.YtacdmiafppmabaaDoorLaw24
namespace Go.Proofs.YtacdmiafppmabaaDoor

/-- From at on, so many wait each for the next one, around 32. -/
def rowF (at' n : Nat) : WS := fun x => if x < 32 ∧ (x + 32 - at') % 32 < n then some ((x + 1) % 32) else none
theorem rowF_zero (at' : Nat) : rowF at' 0 = wnone := by
  funext x; unfold rowF wnone; rw [if_neg (by omega)]
theorem rowF_none {at' n i : Nat} (ha : at' < 32) (h : n ≤ i) (hi : i < 32) : rowF at' n ((at' + i) % 32) = none := by
  unfold rowF; rw [if_neg (by omega)]
theorem rowF_some {at' n i : Nat} (ha : at' < 32) (h : i < n) (hi : n ≤ 32) : rowF at' n ((at' + i) % 32) = some ((at' + (i + 1)) % 32) := by
  unfold rowF; rw [if_pos (by omega)]; congr 1; omega
theorem rowF_add {at' i : Nat} (ha : at' < 32) (hi : i < 31) : updW (rowF at' i) ((at' + i) % 32) (some ((at' + (i + 1)) % 32)) = rowF at' (i + 1) := by
  funext x
  unfold updW
  by_cases e : x = (at' + i) % 32
  · rw [if_pos e, e, rowF_some ha (Nat.lt_succ_self i) (by omega)]
  · rw [if_neg e]
    unfold rowF
    by_cases h : x < 32 ∧ (x + 32 - at') % 32 < i
    · rw [if_pos h, if_pos (by omega)]
    · rw [if_neg h, if_neg (by omega)]
theorem rowF_drop {at' i : Nat} (ha : at' < 32) (hi : i < 31) : dropAll (rowF at' (i + 1)) [(at' + i) % 32] = rowF at' i := by
  funext x
  unfold dropAll
  by_cases e : x = (at' + i) % 32
  · rw [if_pos (by simp [e]), e, rowF_none ha (Nat.le_refl i) (by omega)]
  · rw [if_neg (by simpa using e)]
    unfold rowF
    by_cases h : x < 32 ∧ (x + 32 - at') % 32 < i
    · rw [if_pos h, if_pos (by omega)]
    · rw [if_neg h, if_neg (by omega)]
theorem rowF_chain {at' n : Nat} (ha : at' < 32) (hn : n ≤ 31) : ∀ (m j : Nat), n ≤ j + m → j ≤ n → chainN (rowF at' n) m ((at' + j) % 32) = (List.range' (j + 1) (n - j)).map fun t => (at' + t) % 32
  | 0, j, h, hj => by
    obtain rfl : j = n := by omega
    simp [chainN]
  | m + 1, j, h, hj => by
    by_cases e : j = n
    · subst e; rw [chainN_none (rowF_none ha (Nat.le_refl _) (by omega))]; simp
    · rw [chainN_some (rowF_some ha (by omega) (by omega)), rowF_chain ha hn m (j + 1) (by omega) (by omega), show n - j = (n - (j + 1)) + 1 by omega, List.range'_succ]
      rfl
theorem rowF_chainW {at' n : Nat} (ha : at' < 32) (hn : n ≤ 31) : chainW (rowF at' n) at' = (List.range' 1 n).map fun t => (at' + t) % 32 := by
  have := rowF_chain ha hn 32 0 (by omega) (by omega)
  rw [Nat.add_zero, Nat.mod_eq_of_lt ha] at this
  exact this
theorem rowF_len : ∀ at' : Nat, at' < 32 → ∀ n : Nat, n < 32 → (suchL (rowF at' n) (fun _ => true) 32).length = n := by decide +kernel
theorem rowF_such : ∀ at' : Nat, at' < 32 → ∀ i : Nat, i < 31 → suchL (rowF at' (i + 1)) (fun c => c == (at' + (i + 1)) % 32) 32 = [(at' + i) % 32] := by decide +kernel
theorem rowF_such' {at' i : Nat} (ha : at' < 32) (hi : i < 31) : suchL (rowF at' (i + 1)) (fun c => [(((at' + (i + 1)) % 32 : Nat) : Int)].contains (c : Int)) 32 = [(at' + i) % 32] := by
  rw [← rowF_such at' ha i hi]
  congr 1
  funext c
  rw [Bool.eq_iff_iff]
  simp only [List.contains_cons, List.contains_nil, Bool.or_false, beq_iff_eq]
  omega
theorem inC_nat {a : Nat} (h : a < 32) : inC (a : Int) = true := decide_eq_true ⟨by omega, by omega⟩
theorem waitC_free {f : WS} {a b : Nat} (ha : a < 32) (hb : b < 32) (hf : f a = none) (hab : a ≠ b) (hc : a ∉ chainW f b) : waitC f a b = 0 ∧ waitF f a b = updW f a (some b) := by
  have h : waitC f a b = 0 := by
    unfold waitC
    rw [inC_nat ha, inC_nat hb, if_neg (by decide), if_neg (by rw [(whom_none hf).2]; exact Bool.false_ne_true), if_neg]
    rw [Int.toNat_natCast, Int.toNat_natCast]
    rintro (e | e)
    · omega
    · exact hc e
  refine ⟨h, ?_⟩
  unfold waitF
  rw [if_pos h, Int.toNat_natCast, Int.toNat_natCast]
theorem rowF_wait {at' i : Nat} (ha : at' < 32) (hi : i < 31) : waitC (rowF at' i) (((at' + i) % 32 : Nat) : Int) (((at' + (i + 1)) % 32 : Nat) : Int) = 0 ∧ waitF (rowF at' i) (((at' + i) % 32 : Nat) : Int) (((at' + (i + 1)) % 32 : Nat) : Int) = rowF at' (i + 1) := by
  have h := waitC_free (f := rowF at' i) (a := (at' + i) % 32) (b := (at' + (i + 1)) % 32) (by omega) (by omega) (rowF_none ha (Nat.le_refl i) (by omega)) (by omega) (by
    rw [show chainW (rowF at' i) ((at' + (i + 1)) % 32) = [] from chainN_none (rowF_none ha (by omega) (by omega)) 32]; simp)
  exact ⟨h.1, h.2.trans (rowF_add ha hi)⟩
theorem rowF_dead {at' n : Nat} (ha : at' < 32) (h1 : 1 ≤ n) (hn : n ≤ 31) : waitC (rowF at' n) (((at' + n) % 32 : Nat) : Int) (at' : Int) = 19 := by
  unfold waitC
  rw [inC_nat (by omega), inC_nat ha, if_neg (by decide), if_neg (by rw [(whom_none (rowF_none ha (Nat.le_refl n) (by omega))).2]; exact Bool.false_ne_true), if_pos]
  rw [Int.toNat_natCast, Int.toNat_natCast, rowF_chainW ha hn]
  refine .inr (List.mem_map.2 ⟨n, ?_, rfl⟩)
  rw [List.mem_range'_1]; omega
end Go.Proofs.YtacdmiafppmabaaDoor
