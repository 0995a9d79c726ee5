/- Events' texts in plain mathematics. -/
import Derived.Test.YtedfkonpkmckbaaDoorFmtU
import Derived.Lib.ItoaLen
namespace Go.Proofs.YtedfkonpkmckbaaDoor
open Go.RowKit Go.Lib

/-- The kinds' words. -/
def words : List (List UInt8) := [[104, 111, 115, 116], [115, 111, 102, 116], [106, 111, 98], [116, 97, 115, 107], [101, 110, 100], [99, 97, 108, 108], [102, 114, 101, 101, 100], [103, 111, 110, 101], [109, 105, 115, 115, 101, 100], [101, 109, 105, 116], [111, 118, 101, 114], [119, 97, 105, 116]]
def isKd (k : Int) : Bool := decide (0 ≤ k) && decide (k ≤ 11)
theorem isKd_iff (k : Int) : isKd k = true ↔ (0 ≤ k ∧ k ≤ 11) := by unfold isKd; rw [Bool.and_eq_true, decide_eq_true_eq, decide_eq_true_eq]
def wordB (k : Int) : List UInt8 := if isKd k = true then words.getD k.toNat [] else []
/-- A string of bytes. -/
def str (l : List UInt8) : ByteArray := ⟨l.toArray⟩
theorem str_inj {l m : List UInt8} (h : str l = str m) : l = m := by
  have := congrArg (fun b : ByteArray => b.data.toList) h
  simpa [str] using this
theorem str_app (l m : List UInt8) : str l ++ str m = str (l ++ m) := by
  apply ByteArray.ext
  simp [str, ByteArray.data_append]
theorem wordB_len (k : Int) : (wordB k).length ≤ 6 := by
  unfold wordB
  split
  · rename_i h
    rw [isKd_iff] at h
    have h2 : ∀ n : Nat, n < 12 → (words.getD n []).length ≤ 6 := by decide
    exact h2 _ (by omega)
  · simp
theorem wordB_empty (k : Int) : (wordB k = []) ↔ isKd k = false := by
  unfold wordB
  split
  · rename_i h
    have hk := (isKd_iff k).1 h
    have h2 : ∀ n : Nat, n < 12 → words.getD n [] ≠ [] := by decide
    rw [h]
    exact ⟨fun e => absurd e (h2 _ (by omega)), fun e => (nomatch e)⟩
  · rename_i h; simpa using h
/-- An event: tick, kind, two numbers, a word. -/
structure EvS where
  t : Nat
  k : Int
  a : Int
  b : Int
  n : Nat
structure EvS.Ok (e : EvS) : Prop where
  t64 : e.t < 18446744073709551616
  n64 : e.n < 18446744073709551616
  a0 : -9223372036854775808 ≤ e.a
  a1 : e.a ≤ 9223372036854775807
  b0 : -9223372036854775808 ≤ e.b
  b1 : e.b ≤ 9223372036854775807
def evC (e : EvS) : List Value := [.int .u64 (e.t : Int), .int .i64 e.k, .int .i64 e.a, .int .i64 e.b, .int .u64 (e.n : Int)]
def parts (e : EvS) : List (List UInt8) := [decDigits e.t, wordB e.k, itoa e.a, itoa e.b, decDigits e.n]
def textB (e : EvS) : List UInt8 := if isKd e.k = true then join (parts e) [32] else []
/-! ### What a numeral holds -/
theorem digit_ne (u : Nat) (c : UInt8) (hc : c.toNat < 48 ∨ 57 < c.toNat) : c ∉ decDigits u := by
  induction u using Nat.strongRecOn with
  | ind u ih =>
    rw [decDigits]
    split
    · rename_i h
      rw [List.mem_singleton]
      intro e
      rw [e, UInt8.toNat_ofNat'] at hc
      omega
    · rename_i h
      rw [List.mem_append, List.mem_singleton]
      rintro (e | e)
      · exact ih (u / 10) (by omega) e
      · rw [e, UInt8.toNat_ofNat'] at hc
        omega
theorem itoa_ne (n : Int) (c : UInt8) (hc : c.toNat < 48 ∨ 57 < c.toNat) (h45 : c ≠ 45) : c ∉ itoa n := by
  unfold itoa
  split
  · rw [List.mem_cons]
    rintro (e | e)
    · exact h45 e
    · exact digit_ne _ c hc e
  · exact digit_ne _ c hc
theorem decDigits_ne (u : Nat) : decDigits u ≠ [] := by
  rw [decDigits]; split
  · simp
  · simp
theorem decDigits_inj : ∀ {u v : Nat}, decDigits u = decDigits v → u = v := by
  intro u
  induction u using Nat.strongRecOn with
  | ind u ih =>
    intro v h
    have hb : ∀ x y : Nat, x < 10 → y < 10 → UInt8.ofNat (48 + x) = UInt8.ofNat (48 + y) → x = y := fun x y hx hy e => by
      have := congrArg UInt8.toNat e
      rw [UInt8.toNat_ofNat', UInt8.toNat_ofNat'] at this
      omega
    rw [decDigits, decDigits.eq_def v] at h
    by_cases hu : u < 10
    · rw [dif_pos hu] at h
      by_cases hv : v < 10
      · rw [dif_pos hv, List.cons.injEq] at h
        exact hb u v hu hv h.1
      · rw [dif_neg hv] at h
        have := congrArg List.length h
        rw [List.length_append] at this
        have h3 := List.length_pos_iff.2 (decDigits_ne (v / 10))
        simp at this
        rw [this] at h3; simp at h3
    · rw [dif_neg hu] at h
      by_cases hv : v < 10
      · rw [dif_pos hv] at h
        have := congrArg List.length h
        rw [List.length_append] at this
        have h3 := List.length_pos_iff.2 (decDigits_ne (u / 10))
        simp at this
        rw [this] at h3; simp at h3
      · rw [dif_neg hv] at h
        obtain ⟨h1, h2⟩ := List.append_inj' h rfl
        have e1 := ih (u / 10) (by omega) h1
        rw [List.cons.injEq] at h2
        have e2 := hb _ _ (Nat.mod_lt _ (by decide)) (Nat.mod_lt _ (by decide)) h2.1
        omega
theorem itoa_inj {m n : Int} (h : itoa m = itoa n) : m = n := by
  have hneg : ∀ u v : Nat, 45 :: decDigits u = decDigits v → False := fun u v e => by
    have := digit_ne v 45 (.inl (by decide))
    rw [← e] at this
    exact this List.mem_cons_self
  unfold itoa at h
  split at h
  · split at h
    · rw [List.cons.injEq] at h
      have := decDigits_inj h.2
      omega
    · exact (hneg _ _ h).elim
  · split at h
    · exact (hneg _ _ h.symm).elim
    · have := decDigits_inj h
      omega
/-! ### Texts apart -/
theorem split_sep {c : UInt8} : ∀ {x y r s : List UInt8}, c ∉ x → c ∉ y → x ++ c :: r = y ++ c :: s → x = y ∧ r = s
  | [], [], r, s, _, _, h => ⟨rfl, by simpa using h⟩
  | [], b :: y, r, s, _, hy, h => by
    rw [List.nil_append, List.cons_append, List.cons.injEq] at h
    exact absurd (h.1 ▸ List.mem_cons_self) hy
  | a :: x, [], r, s, hx, _, h => by
    rw [List.nil_append, List.cons_append, List.cons.injEq] at h
    exact absurd (h.1 ▸ List.mem_cons_self) hx
  | a :: x, b :: y, r, s, hx, hy, h => by
    rw [List.cons_append, List.cons_append, List.cons.injEq] at h
    obtain ⟨h1, h2⟩ := split_sep (fun hm => hx (List.mem_cons_of_mem _ hm)) (fun hm => hy (List.mem_cons_of_mem _ hm)) h.2
    exact ⟨by rw [h.1, h1], h2⟩
theorem wordB_ne (k : Int) : (32 : UInt8) ∉ wordB k := by
  unfold wordB
  split
  · rename_i h
    rw [isKd_iff] at h
    have h2 : ∀ n : Nat, n < 12 → (32 : UInt8) ∉ words.getD n [] := by decide
    exact h2 _ (by omega)
  · simp
theorem wordB_inj {j k : Int} (hj : isKd j = true) (hk : isKd k = true) (h : wordB j = wordB k) : j = k := by
  unfold wordB at h
  rw [if_pos hj, if_pos hk] at h
  rw [isKd_iff] at hj hk
  have h2 : ∀ m : Nat, m < 12 → ∀ n : Nat, n < 12 → words.getD m [] = words.getD n [] → m = n := by decide
  have := h2 _ (by omega) _ (by omega) h
  omega
theorem join5 (a b c d e : List UInt8) : join [a, b, c, d, e] [32] = a ++ 32 :: (b ++ 32 :: (c ++ 32 :: (d ++ 32 :: e))) := by
  rw [join_cons]
  simp [joinTail]
theorem textB_inj {x y : EvS} (hx : isKd x.k = true) (hy : isKd y.k = true) (h : textB x = textB y) : x = y := by
  unfold textB parts at h
  rw [if_pos hx, if_pos hy, join5, join5] at h
  have hd : ∀ u, (32 : UInt8) ∉ decDigits u := fun u => digit_ne u 32 (.inl (by decide))
  have hi : ∀ n, (32 : UInt8) ∉ itoa n := fun n => itoa_ne n 32 (.inl (by decide)) (by decide)
  obtain ⟨h1, h⟩ := split_sep (hd _) (hd _) h
  obtain ⟨h2, h⟩ := split_sep (wordB_ne _) (wordB_ne _) h
  obtain ⟨h3, h⟩ := split_sep (hi _) (hi _) h
  obtain ⟨h4, h5⟩ := split_sep (hi _) (hi _) h
  have e1 := decDigits_inj h1
  have e2 := wordB_inj hx hy h2
  have e3 := itoa_inj h3
  have e4 := itoa_inj h4
  have e5 := decDigits_inj h5
  cases x; cases y; simp_all
theorem textB_full {x : EvS} (hx : isKd x.k = true) : textB x ≠ [] := by
  unfold textB parts
  rw [if_pos hx, join5]
  intro h
  exact decDigits_ne x.t (List.append_eq_nil_iff.1 h).1
theorem digits_len {u : Nat} (h : u < 18446744073709551616) : (decDigits u).length ≤ 20 := by
  by_cases h1 : u < 10
  · rw [decDigits_one h1]; simp
  · rw [decDigits_length]
    have := numDigits_eq u (by omega) h
    split at this <;> omega
theorem textB_len {e : EvS} (h : e.Ok) : (join (parts e) [32]).length ≤ 100 := by
  unfold parts
  rw [join5]
  have h1 := digits_len h.t64
  have h2 := wordB_len e.k
  have h3 := itoa_length_le e.a h.a0 h.a1
  have h4 := itoa_length_le e.b h.b0 h.b1
  have h5 := digits_len h.n64
  simp only [List.length_append, List.length_cons]
  omega
end Go.Proofs.YtedfkonpkmckbaaDoor
