/- Plain mathematics of GuardPlays: masks by CPU against pairs in a list. -/
import Derived.Test.YtmjknhjlhnljpaaGuardM
import Derived.Test.YtmjknhjlhnljpaaRef23c
namespace Go.Proofs.Ytmjknhjlhnljpaa

theorem findI_mem (l : List (Int × Int)) (a b : Int) : (∃ k, ∃ h : k < l.length, findI l a b = (k : Int) ∧ l[k] = (a, b)) ∧ (a, b) ∈ l ∨ findI l a b = -1 ∧ (a, b) ∉ l := by
  unfold findI
  cases h : l.findIdx? (fun x => x.1 == a && x.2 == b) with
  | none =>
    rw [List.findIdx?_eq_none_iff] at h
    refine .inr ⟨rfl, fun hm => ?_⟩
    have := h _ hm
    simp at this
  | some k =>
    obtain ⟨hk, h1, _⟩ := List.findIdx?_eq_some_iff_getElem.1 h
    have e : l[k] = (a, b) := by
      simp only [Bool.and_eq_true, beq_iff_eq] at h1
      exact Prod.ext h1.1 h1.2
    exact .inl ⟨⟨k, hk, rfl, e⟩, e ▸ List.getElem_mem hk⟩
theorem findI_nonneg (l : List (Int × Int)) (a b : Int) : 0 ≤ findI l a b ↔ (a, b) ∈ l := by
  rcases findI_mem l a b with ⟨⟨k, hk, h, _⟩, hm⟩ | ⟨h, hm⟩
  · exact ⟨fun _ => hm, fun _ => by omega⟩
  · exact ⟨fun h' => by omega, fun h' => absurd h' hm⟩

/-- The masks and the list of pairs say the same. -/
structure RelG (ms : List Nat) (l : List (Int × Int)) : Prop where
  nodup : l.Nodup
  mem : ∀ c k : Nat, c < ms.length → k < 64 → (hasN (ms.getD c 0) k = true ↔ ((c : Int), (k : Int)) ∈ l)
  rng : ∀ x ∈ l, 0 ≤ x.1 ∧ x.1 < (ms.length : Int) ∧ 0 ≤ x.2 ∧ x.2 < 16
theorem RelG.init (n : Nat) : RelG (List.replicate n 0) [] :=
  ⟨List.nodup_nil, fun c k hc _ => by rw [getD_replicate _ _ _ _ (by simpa using hc), hasN_zero]; simp, fun x hx => by cases hx⟩
theorem hasN_or (m : Nat) (i : Int) (k : Nat) (hk : k < 64) : hasN (orN m i) k = (hasN m k || decide (i = (k : Int))) := by
  have hb : (bitN i).testBit k = decide (i = (k : Int)) := by rw [testBit_bitN, decide_eq_decide]; omega
  simp only [hasN, orN, Int.toNat_natCast, Nat.testBit_or, hb]
  rw [decide_eq_true (show (0 : Int) ≤ (k : Int) ∧ (k : Int) < 64 by omega), Bool.true_and, Bool.true_and]
theorem hasN_without (m : Nat) (zs : List Int) (k : Nat) (hk : k < 64) : hasN (withoutN m zs) k = (hasN m k && !decide ((k : Int) ∈ zs)) := by
  simp only [hasN, Int.toNat_natCast, testBit_withoutN k hk]
  rw [decide_eq_true (show (0 : Int) ≤ (k : Int) ∧ (k : Int) < 64 by omega), Bool.true_and, Bool.true_and]
theorem getD_set_ne (l : List Nat) (k j x d : Nat) (h : k ≠ j) : (l.set k x).getD j d = l.getD j d := by simp [List.getD, h]
theorem RelG.enter {ms : List Nat} {l : List (Int × Int)} (h : RelG ms l) (c n : Nat) (hc : c < ms.length) (hn : n < 16) (hm : ((c : Int), (n : Int)) ∉ l) : RelG (ms.set c (orN (ms.getD c 0) n)) (l ++ [((c : Int), (n : Int))]) := by
  refine ⟨?_, fun c' k hc' hk => ?_, fun x hx => ?_⟩
  · rw [List.nodup_append]
    exact ⟨h.nodup, by simp, fun x hx y hy e => hm (by simp at hy; rw [← hy, ← e]; exact hx)⟩
  · rw [List.length_set] at hc'
    rw [List.mem_append, List.mem_singleton]
    by_cases e : c = c'
    · subst e
      rw [getD_set_self _ _ _ _ hc, hasN_or _ _ _ hk, Bool.or_eq_true, h.mem c k hc hk, decide_eq_true_eq]
      simp only [Prod.mk.injEq, true_and]
      exact or_congr Iff.rfl ⟨fun e => e.symm, fun e => e.symm⟩
    · rw [getD_set_ne _ _ _ _ _ e, h.mem c' k hc' hk]
      simp only [Prod.mk.injEq]
      exact ⟨.inl, fun h' => h'.elim id fun h' => absurd h'.1 (by omega)⟩
  · rw [List.length_set]
    rcases List.mem_append.1 hx with hx | hx
    · exact h.rng x hx
    · obtain rfl := List.mem_singleton.1 hx; exact ⟨by simp, by simpa using hc, by simp, by simp only; omega⟩
theorem mem_dropAt {α : Type} {l : List α} (hn : l.Nodup) (k : Nat) (hk : k < l.length) (x : α) : x ∈ dropAt l k ↔ x ∈ l ∧ x ≠ l[k] := by
  have e : l = l.take k ++ l[k] :: l.drop (k + 1) := by rw [← List.drop_eq_getElem_cons hk, List.take_append_drop]
  have hn2 := hn
  rw [e, List.nodup_append, List.nodup_cons] at hn2
  obtain ⟨_, ⟨h2, _⟩, h3⟩ := hn2
  constructor
  · intro h
    unfold dropAt at h
    rcases List.mem_append.1 h with h | h
    · exact ⟨List.mem_of_mem_take h, h3 x h _ List.mem_cons_self⟩
    · exact ⟨List.mem_of_mem_drop h, fun e => h2 (e ▸ h)⟩
  · rintro ⟨h, hne⟩
    rw [e] at h
    unfold dropAt
    rcases List.mem_append.1 h with h | h
    · exact List.mem_append.2 (.inl h)
    · rcases List.mem_cons.1 h with h | h
      · exact absurd h hne
      · exact List.mem_append.2 (.inr h)
theorem nodup_dropAt {α : Type} {l : List α} (hn : l.Nodup) (k : Nat) : (dropAt l k).Nodup := by
  have : (dropAt l k).Sublist l := by
    unfold dropAt
    have := List.Sublist.append (List.Sublist.refl (l.take k)) (show (l.drop (k + 1)).Sublist (l.drop k) by rw [← List.drop_drop]; exact List.drop_sublist _ _)
    rwa [List.take_append_drop] at this
  exact this.nodup hn
theorem RelG.exit {ms : List Nat} {l : List (Int × Int)} (h : RelG ms l) (c : Nat) (n : Int) (hc : c < ms.length) (k : Nat) (hk : k < l.length) (hm : l[k] = ((c : Int), n)) : RelG (ms.set c (withoutN (ms.getD c 0) [n, n])) (dropAt l k) := by
  refine ⟨nodup_dropAt h.nodup k, fun c' j hc' hj => ?_, fun x hx => ?_⟩
  · rw [List.length_set] at hc'
    rw [mem_dropAt h.nodup k hk, hm]
    by_cases e : c = c'
    · subst e
      rw [getD_set_self _ _ _ _ hc, hasN_without _ _ _ hj, Bool.and_eq_true, h.mem c j hc hj]
      simp
    · rw [getD_set_ne _ _ _ _ _ e, h.mem c' j hc' hj]
      simp only [ne_eq, Prod.mk.injEq, not_and]
      exact ⟨fun h' => ⟨h', fun h' => absurd h' (by omega)⟩, fun h' => h'.1⟩
  · rw [List.length_set]
    exact h.rng x ((mem_dropAt h.nodup k hk x).1 hx).1
theorem RelG.without_same {ms : List Nat} {l : List (Int × Int)} (h : RelG ms l) (c : Nat) (n : Int) (hc : c < ms.length) (hm : ((c : Int), n) ∉ l) (hw : ms.getD c 0 < 18446744073709551616) : withoutN (ms.getD c 0) [n, n] = ms.getD c 0 := by
  refine eq_of_bits _ _ (withoutN_lt _ _ hw) hw fun j hj => ?_
  rw [testBit_withoutN j hj]
  by_cases e : (j : Int) = n
  · subst e
    have h1 : hasN (ms.getD c 0) j ≠ true := fun h' => hm ((h.mem c j hc hj).1 h')
    simp only [hasN, Int.toNat_natCast] at h1
    rw [decide_eq_true (show (0 : Int) ≤ (j : Int) ∧ (j : Int) < 64 by omega), Bool.true_and] at h1
    rw [(Bool.not_eq_true _).mp h1, Bool.false_and]
  · simp [e]
theorem set_getD_self (l : List Nat) (k d : Nat) (h : k < l.length) : l.set k (l.getD k d) = l := by
  rw [show l.getD k d = l[k] by simp [List.getD, h]]; exact List.set_getElem_self h
theorem filter_minus (p : Nat → Bool) (n : Nat) : ∀ (l : List Nat), l.Nodup → n ∈ l → p n = true → (l.filter fun j => p j && !decide (j = n)).length + 1 = (l.filter p).length
  | [], _, h, _ => by cases h
  | x :: l, hn, h, hp => by
    rw [List.nodup_cons] at hn
    by_cases e : x = n
    · subst e
      have : l.filter (fun j => p j && !decide (j = x)) = l.filter p := by
        apply List.filter_congr
        intro j hj
        have : j ≠ x := fun e => hn.1 (e ▸ hj)
        simp [this]
      rw [List.filter_cons, List.filter_cons, hp, this]; simp
    · have ih := filter_minus p n l hn.2 ((List.mem_cons.1 h).resolve_left (Ne.symm e)) hp
      rw [List.filter_cons, List.filter_cons]
      cases hx : p x <;> simp [e] <;> omega
theorem lenN_minus (m n : Nat) (hn : n < 64) (h : hasN m n = true) : lenN m = lenN (withoutN m [(n : Int), (n : Int)]) + 1 := by
  have hp : m.testBit n = true := by simp [hasN] at h; exact h.2
  unfold lenN listN
  rw [← filter_minus (m.testBit ·) n (List.range 64) List.nodup_range (by simpa using hn) hp]
  congr 2
  apply List.filter_congr
  intro j hj
  rw [List.mem_range] at hj
  rw [testBit_withoutN j hj]
  simp only [List.mem_cons, List.not_mem_nil, or_false, or_self]
  congr 2
  rw [decide_eq_decide]; omega
/-- Who is active on a CPU, none on no CPU. -/
def actN (ms : List Nat) (c : Int) : Nat := if 0 ≤ c ∧ c < (ms.length : Int) then ms.getD c.toNat 0 else 0
theorem RelG.act {ms : List Nat} {l : List (Int × Int)} (h : RelG ms l) (c : Int) (k : Nat) (hk : k < 64) : hasN (actN ms c) k = decide (0 ≤ findI l c k) := by
  rw [Bool.eq_iff_iff, decide_eq_true_eq, findI_nonneg]
  unfold actN
  split
  · rename_i hc
    rw [h.mem c.toNat k (by omega) hk, show ((c.toNat : Nat) : Int) = c by omega]
  · rename_i hc
    rw [hasN_zero]
    exact ⟨fun h' => (by cases h'), fun h' => absurd (h.rng _ h') (fun h2 => hc ⟨h2.1, h2.2.1⟩)⟩
theorem RelG.on {ms : List Nat} {l : List (Int × Int)} (h : RelG ms l) (n : Int) (k : Nat) (hk : k < 64) : hasN (onN ms n) k = decide (0 ≤ findI l k n) := by
  rw [Bool.eq_iff_iff, decide_eq_true_eq, findI_nonneg]
  simp only [hasN, Int.toNat_natCast]
  rw [decide_eq_true (show (0 : Int) ≤ (k : Int) ∧ (k : Int) < 64 by omega), Bool.true_and, onN_bit _ _ k hk, Bool.and_eq_true, decide_eq_true_eq]
  constructor
  · rintro ⟨h1, h2⟩
    have h3 : 0 ≤ n ∧ n < 64 := by simp [hasN] at h2; exact h2.1
    have := (h.mem k n.toNat h1 (by omega)).1 (by rw [show ((n.toNat : Nat) : Int) = n by omega]; exact h2)
    rwa [show ((n.toNat : Nat) : Int) = n by omega] at this
  · intro h'
    obtain ⟨_, h2, h3, h4⟩ := h.rng _ h'
    simp only at h2 h3 h4
    have h5 : k < ms.length := by omega
    refine ⟨h5, ?_⟩
    rw [show n = ((n.toNat : Nat) : Int) by omega]
    exact (h.mem k n.toNat h5 (by omega)).2 (by rw [show ((n.toNat : Nat) : Int) = n by omega]; exact h')

/-- The error of entering, the list behind it, the counts behind it. -/
def entE (cpus : Int) (l : List (Int × Int)) (a b : Int) : Int := if badI cpus a b then 2 else if (a, b) ∈ l then 18 else 0
def entL (cpus : Int) (l : List (Int × Int)) (a b : Int) : List (Int × Int) := if badI cpus a b then l else if (a, b) ∈ l then l else l ++ [(a, b)]
def entC (cpus : Int) (l : List (Int × Int)) (cs : List Nat) (a b : Int) : List Nat := if badI cpus a b then cs else if (a, b) ∈ l then missN cs b.toNat else cs
def exiL (l : List (Int × Int)) (a b : Int) : List (Int × Int) := if (a, b) ∈ l then dropAt l (findI l a b).toNat else l
end Go.Proofs.Ytmjknhjlhnljpaa
