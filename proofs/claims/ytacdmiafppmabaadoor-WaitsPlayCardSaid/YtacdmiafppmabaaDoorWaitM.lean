/- Who waits for whom: plain mathematics. -/
import Derived.Test.YtacdmiafppmabaaDoorMaskP
namespace Go.Proofs.YtacdmiafppmabaaDoor

/-- For whom each waits. -/
abbrev WS := Nat → Option Nat
structure WOk (f : WS) : Prop where
  dom : ∀ a b, f a = some b → a < 32 ∧ b < 32
  rank : ∃ r : Nat → Nat, ∀ a b, f a = some b → r b < r a
def wnone : WS := fun _ => none
theorem WOk.start : WOk wnone := ⟨fun _ _ h => (by cases h), fun _ => 0, fun _ _ h => (by cases h)⟩
def chainN (f : WS) : Nat → Nat → List Nat
  | 0, _ => []
  | n + 1, a => match f a with
    | none => []
    | some b => b :: chainN f n b
def chainW (f : WS) (a : Nat) : List Nat := chainN f 32 a
theorem chainN_none {f : WS} {a : Nat} (h : f a = none) (n : Nat) : chainN f n a = [] := by cases n <;> simp [chainN, h]
theorem chainN_some {f : WS} {a b : Nat} (h : f a = some b) (n : Nat) : chainN f (n + 1) a = b :: chainN f n b := by simp [chainN, h]
theorem nodup_lt : ∀ (n : Nat) (l : List Nat), l.Nodup → (∀ x ∈ l, x < n) → l.length ≤ n
  | 0, [], _, _ => by simp
  | 0, x :: l, _, h => absurd (h x (by simp)) (Nat.not_lt_zero x)
  | n + 1, l, hn, h => by
    by_cases hm : n ∈ l
    · have h1 := nodup_lt n (l.erase n) (hn.erase n) (fun x hx => by
        have h2 := (hn.mem_erase_iff).1 hx
        have h3 := h x h2.2
        have h4 : x ≠ n := h2.1
        omega)
      rw [List.length_erase_of_mem hm] at h1
      omega
    · have := nodup_lt n l hn (fun x hx => by
        have h3 := h x hx
        have h4 : x ≠ n := fun e => hm (e ▸ hx)
        omega)
      omega
theorem chainN_rank {f : WS} {r : Nat → Nat} (hr : ∀ a b, f a = some b → r b < r a) : ∀ (n a : Nat), (a :: chainN f n a).Pairwise (fun x y => r y < r x)
  | 0, a => by simp [chainN]
  | n + 1, a => by
    cases h : f a with
    | none => rw [chainN_none h]; simp
    | some b =>
      rw [chainN_some h, List.pairwise_cons]
      have ih := chainN_rank hr n b
      refine ⟨fun y hy => ?_, ih⟩
      rw [List.pairwise_cons] at ih
      have hb := hr a b h
      rcases List.mem_cons.1 hy with rfl | hy
      · exact hb
      · have := ih.1 y hy; omega
theorem chainN_lt {f : WS} (h : WOk f) : ∀ (n a : Nat), ∀ x ∈ chainN f n a, x < 32
  | 0, _, x, hx => by simp [chainN] at hx
  | n + 1, a, x, hx => by
    cases hf : f a with
    | none => rw [chainN_none hf] at hx; cases hx
    | some b =>
      rw [chainN_some hf] at hx
      rcases List.mem_cons.1 hx with rfl | hx
      · exact (h.dom a x hf).2
      · exact chainN_lt h n b x hx
theorem chainN_nodup {f : WS} (h : WOk f) (n a : Nat) : (a :: chainN f n a).Nodup := by
  obtain ⟨r, hr⟩ := h.rank
  exact (chainN_rank hr n a).imp fun {x y} hxy e => by subst e; omega
theorem chainN_len {f : WS} (h : WOk f) (n a : Nat) : (chainN f n a).length ≤ 31 := by
  cases n with
  | zero => simp [chainN]
  | succ n =>
    cases hf : f a with
    | none => rw [chainN_none hf]; simp
    | some b =>
      have h1 := nodup_lt 32 _ (chainN_nodup h (n + 1) a) (fun x hx => by
        rcases List.mem_cons.1 hx with rfl | hx
        · exact (h.dom x b hf).1
        · exact chainN_lt h _ _ x hx)
      simp only [List.length_cons] at h1; omega
theorem chainN_take {f : WS} : ∀ (k n a : Nat), k ≤ n → chainN f k a = (chainN f n a).take k
  | 0, n, a, _ => by simp [chainN]
  | k + 1, 0, a, h => by omega
  | k + 1, n + 1, a, h => by
    cases hf : f a with
    | none => simp [chainN_none hf]
    | some b => rw [chainN_some hf, chainN_some hf, List.take_succ_cons, chainN_take k n b (by omega)]
theorem chainN_full {f : WS} (h : WOk f) (n a : Nat) (hn : 31 ≤ n) : chainN f n a = chainW f a := by
  unfold chainW
  by_cases h32 : n ≤ 32
  · rw [chainN_take n 32 a h32, List.take_of_length_le (by have := chainN_len h 32 a; omega)]
  · rw [chainN_take 32 n a (by omega), List.take_of_length_le (by have := chainN_len h n a; omega)]
theorem chainN_mem {f : WS} (h : WOk f) (n a x : Nat) (hx : x ∈ chainN f n a) : x ∈ chainW f a := by
  by_cases hn : 31 ≤ n
  · rw [← chainN_full h n a hn]; exact hx
  · unfold chainW
    rw [chainN_take n 32 a (by omega)] at hx
    exact List.mem_of_mem_take hx
theorem chainW_cons {f : WS} (h : WOk f) {a b : Nat} (hf : f a = some b) : chainW f a = b :: chainW f b := by
  show chainN f (31 + 1) a = _
  rw [chainN_some hf, chainN_full h 31 b (Nat.le_refl _)]
/-- Nobody is in its own chain. -/
theorem chain_self {f : WS} (h : WOk f) (a : Nat) : a ∉ chainW f a := by
  have := chainN_nodup h 32 a
  rw [List.nodup_cons] at this
  exact this.1
/-- A chain ends at one who does not wait. -/
theorem chain_end {f : WS} (h : WOk f) : ∀ (n a : Nat), (chainN f n a).length < n → ∀ x, (chainN f n a).getLast? = some x → f x = none
  | 0, _, hl, _, _ => absurd hl (Nat.not_lt_zero _)
  | n + 1, a, hl, x, hx => by
    cases hf : f a with
    | none => rw [chainN_none hf] at hx; cases hx
    | some b =>
      rw [chainN_some hf] at hl hx
      simp only [List.length_cons] at hl
      cases hc : chainN f n b with
      | nil =>
        rw [hc] at hx
        simp only [List.getLast?_singleton, Option.some.injEq] at hx
        subst hx
        cases n with
        | zero => omega
        | succ n =>
          cases hb : f b with
          | none => rfl
          | some c => rw [chainN_some hb] at hc; cases hc
      | cons c r =>
        rw [hc, List.getLast?_cons_cons] at hx
        exact chain_end h n b (by omega) x (by rw [hc]; exact hx)
theorem chain_last {f : WS} (h : WOk f) (a x : Nat) (hx : (chainW f a).getLast? = some x) : f x = none :=
  chain_end h 32 a (by have := chainN_len h 32 a; omega) x hx
/-- One waits. -/
def updW (f : WS) (a : Nat) (v : Option Nat) : WS := fun x => if x = a then v else f x
theorem updW_same (f : WS) (a : Nat) (v : Option Nat) : updW f a v a = v := by simp [updW]
theorem updW_other (f : WS) {a x : Nat} (v : Option Nat) (h : x ≠ a) : updW f a v x = f x := by simp [updW, h]
theorem WOk.add {f : WS} (h : WOk f) {a b : Nat} (ha : a < 32) (hb : b < 32) (hf : f a = none) (hab : a ≠ b) (hc : a ∉ chainW f b) : WOk (updW f a (some b)) := by
  obtain ⟨r, hr⟩ := h.rank
  refine ⟨fun x y hxy => ?_, ?_⟩
  · by_cases e : x = a
    · subst e; rw [updW_same] at hxy; cases hxy; exact ⟨ha, hb⟩
    · rw [updW_other f _ e] at hxy; exact h.dom x y hxy
  · classical
    refine ⟨fun x => if x = a ∨ a ∈ chainW f x then r x + r b + 1 else r x, fun x y hxy => ?_⟩
    by_cases e : x = a
    · subst e
      rw [updW_same] at hxy
      cases hxy
      simp only [true_or, if_true]
      rw [if_neg (by rintro (h1 | h1); exact hab h1.symm; exact hc h1)]
      omega
    · rw [updW_other f _ e] at hxy
      have hxy' := hr x y hxy
      have hcx := chainW_cons h hxy
      simp only [e, false_or]
      have hiff : a ∈ chainW f x ↔ (y = a ∨ a ∈ chainW f y) := by
        rw [hcx, List.mem_cons]
        exact ⟨fun h => h.imp Eq.symm id, fun h => h.imp Eq.symm id⟩
      by_cases hy : y = a ∨ a ∈ chainW f y
      · rw [if_pos hy, if_pos (hiff.2 hy)]; omega
      · rw [if_neg hy, if_neg (fun h => hy (hiff.1 h))]; exact hxy'
/-- Some wait no more. -/
theorem WOk.less {f g : WS} (h : WOk f) (hg : ∀ a b, g a = some b → f a = some b) : WOk g := by
  obtain ⟨r, hr⟩ := h.rank
  exact ⟨fun a b hab => h.dom a b (hg a b hab), r, fun a b hab => hr a b (hg a b hab)⟩
theorem WOk.drop {f : WS} (h : WOk f) (a : Nat) : WOk (updW f a none) := h.less fun x y hxy => by
  by_cases e : x = a
  · subst e; rw [updW_same] at hxy; cases hxy
  · rwa [updW_other f _ e] at hxy
/-- For whom a context of whatever number waits. -/
def whom (f : WS) (a : Int) : Option Nat := if 0 ≤ a then f a.toNat else none
theorem whom_nat (f : WS) (a : Nat) : whom f (a : Int) = f a := by simp [whom]
theorem whom_out {f : WS} (h : WOk f) {a : Int} (ha : a < 0 ∨ 32 ≤ a) : whom f a = none := by
  unfold whom
  split
  · cases hf : f a.toNat with
    | none => rfl
    | some b => have := (h.dom _ _ hf).1; omega
  · rfl
def whomV (f : WS) (a : Int) : Int := match whom f a with | some b => (b : Int) | none => 0
def whomB (f : WS) (a : Int) : Bool := (whom f a).isSome
def chainI (f : WS) (a : Int) : List Nat := if 0 ≤ a then chainW f a.toNat else []
theorem chainI_nat (f : WS) (a : Nat) : chainI f (a : Int) = chainW f a := by simp [chainI]
theorem chainI_none {f : WS} {a : Int} (h : whom f a = none) : chainI f a = [] := by
  unfold chainI
  split
  · rename_i h0
    unfold whom at h
    rw [if_pos h0] at h
    exact chainN_none h 32
  · rfl
theorem chainI_len {f : WS} (h : WOk f) (a : Int) : (chainI f a).length ≤ 31 := by
  unfold chainI
  split
  · exact chainN_len h 32 _
  · simp
theorem chainI_pos {f : WS} (a : Int) : (0 < (chainI f a).length) ↔ whomB f a = true := by
  unfold whomB
  cases h : whom f a with
  | none => rw [chainI_none h]; simp
  | some b =>
    unfold whom at h
    split at h
    · rename_i h0
      unfold chainI
      rw [if_pos h0]
      show 0 < (chainN f (31 + 1) a.toNat).length ↔ _
      rw [chainN_some h]; simp
    · cases h
/-! ### Who waits for such a one -/
def suchL (f : WS) (q : Nat → Bool) (k : Nat) : List Nat := (List.range k).filter fun a => (f a).any q
theorem suchL_yes {f : WS} {q : Nat → Bool} {k : Nat} (h : (f k).any q = true) : suchL f q (k + 1) = suchL f q k ++ [k] := by simp [suchL, List.range_succ, h]
theorem suchL_no {f : WS} {q : Nat → Bool} {k : Nat} (h : (f k).any q = false) : suchL f q (k + 1) = suchL f q k := by simp [suchL, List.range_succ, h]
def castW (l : List Nat) : List Int := l.map fun (k : Nat) => (k : Int)
def suchW (f : WS) (q : Nat → Bool) (k : Nat) : Nat := withN 0 (castW (suchL f q k))
theorem suchW_lt (f : WS) (q : Nat → Bool) (k : Nat) : suchW f q k < 18446744073709551616 := withN_lt _ _ (by decide)
theorem suchW_bit (f : WS) (q : Nat → Bool) (n k : Nat) (hk : k < 64) : (suchW f q n).testBit k = (decide (k < n) && (f k).any q) := by
  unfold suchW
  rw [testBit_withN k hk, Nat.zero_testBit, Bool.false_or]
  rw [show (decide ((k : Int) ∈ castW (suchL f q n))) = decide (k ∈ suchL f q n) from decide_eq_decide.2 (by
    unfold castW
    rw [List.mem_map]
    refine ⟨fun ⟨a, ha, e⟩ => ?_, fun h => ⟨k, h, rfl⟩⟩
    have e2 : a = k := by omega
    rw [← e2]; exact ha)]
  by_cases h : k ∈ suchL f q n
  · have := h
    simp only [suchL, List.mem_filter, List.mem_range] at this
    simp [h, this.1, this.2]
  · have h2 := h
    simp only [suchL, List.mem_filter, List.mem_range, not_and] at h2
    by_cases hn : k < n
    · simp [h, hn, h2 hn]
    · simp [h, hn]
theorem suchW_list (f : WS) (q : Nat → Bool) : listN (suchW f q 32) = suchL f q 32 := by
  unfold listN
  rw [List.filter_congr (q := fun k => decide (k < 32) && (f k).any q) fun k hk => suchW_bit f q 32 k (by simpa using hk)]
  unfold suchL
  rw [show (64 : Nat) = 32 + 32 from rfl, List.range_add, List.filter_append]
  have e : ((List.range 32).map fun x => 32 + x).filter (fun k => decide (k < 32) && (f k).any q) = [] := List.filter_eq_nil_iff.2 fun x hx => by obtain ⟨j, _, rfl⟩ := List.mem_map.1 hx; simp; omega
  rw [e, List.append_nil]
  exact List.filter_congr fun k hk => by simp [List.mem_range.1 hk]
theorem suchW_succ (f : WS) (q : Nat → Bool) (k : Nat) (h : (f k).any q = true) : withN (suchW f q k) [(k : Int)] = suchW f q (k + 1) := by
  unfold suchW
  rw [suchL_yes h]
  simp [castW, withN, List.foldl_append]
theorem suchW_same (f : WS) (q : Nat → Bool) (k : Nat) (h : (f k).any q = false) : suchW f q (k + 1) = suchW f q k := by unfold suchW; rw [suchL_no h]
theorem suchL_le (f : WS) (q : Nat → Bool) (k : Nat) : (suchL f q k).length ≤ k := by unfold suchL; exact Nat.le_trans (List.length_filter_le _ _) (by simp)
theorem suchL_mem {f : WS} {q : Nat → Bool} {k a : Nat} : a ∈ suchL f q k ↔ a < k ∧ (f a).any q = true := by simp [suchL]
/-- Behind waking those of a list. -/
def dropAll (f : WS) (l : List Nat) : WS := fun x => if l.contains x then none else f x
theorem dropAll_nil (f : WS) : dropAll f [] = f := by funext x; simp [dropAll]
theorem dropAll_snoc (f : WS) (l : List Nat) (a : Nat) : updW (dropAll f l) a none = dropAll f (l ++ [a]) := by
  funext x
  simp only [updW, dropAll, List.contains_append]
  by_cases e : x = a
  · subst e; simp
  · simp [e]
theorem WOk.dropAll {f : WS} (h : WOk f) (l : List Nat) : WOk (dropAll f l) := h.less fun a b hab => by
  unfold Go.Proofs.YtacdmiafppmabaaDoor.dropAll at hab
  split at hab
  · cases hab
  · exact hab
end Go.Proofs.YtacdmiafppmabaaDoor
