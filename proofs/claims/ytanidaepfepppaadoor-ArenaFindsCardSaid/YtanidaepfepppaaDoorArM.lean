/- Plain mathematics of arenas: slots in a list, and their two masks. -/
import Derived.Test.YtanidaepfepppaaDoorMaskP
import Derived.Test.YtanidaepfepppaaDoorStr
namespace Go.Proofs.YtanidaepfepppaaDoor

/-! ### A word out of its bits -/
def wordB : List Bool → Nat
  | [] => 0
  | b :: l => b.toNat + 2 * wordB l
theorem testBit_wordB : ∀ (l : List Bool) (j : Nat), (wordB l).testBit j = l.getD j false
  | [], j => by simp [wordB]
  | b :: l, 0 => by
    show (b.toNat + 2 * wordB l).testBit 0 = b
    rw [Nat.testBit_zero]
    cases b <;> simp <;> omega
  | b :: l, j + 1 => by
    show (b.toNat + 2 * wordB l).testBit (j + 1) = (b :: l).getD (j + 1) false
    rw [Nat.testBit_succ, show (b.toNat + 2 * wordB l) / 2 = wordB l by cases b <;> simp <;> omega, testBit_wordB l j]
    simp [List.getD]
theorem wordB_lt : ∀ (l : List Bool), wordB l < 2 ^ l.length
  | [] => by simp [wordB]
  | b :: l => by
    have := wordB_lt l
    simp only [wordB, List.length_cons, Nat.pow_succ]
    cases b <;> simp <;> omega
theorem wordB_64 (l : List Bool) (h : l.length ≤ 64) : wordB l < 18446744073709551616 :=
  Nat.lt_of_lt_of_le (wordB_lt l) (show 2 ^ l.length ≤ 2 ^ 64 from Nat.pow_le_pow_right (by decide) h)
theorem wordB_with (l : List Bool) (h : l.length ≤ 64) (i : Nat) (hi : i < l.length) : withN (wordB l) [(i : Int)] = wordB (l.set i true) := by
  refine eq_of_bits _ _ (withN_lt _ _ (wordB_64 l h)) (wordB_64 _ (by simpa using h)) fun k hk => ?_
  rw [testBit_withN k hk, testBit_wordB, testBit_wordB]
  by_cases e : i = k
  · subst e; simp [List.getD, hi]
  · have : ¬ (k : Int) = (i : Int) := by omega
    simp [List.getD, e, this]
theorem wordB_without (l : List Bool) (h : l.length ≤ 64) (i : Nat) (hi : i < l.length) : withoutN (wordB l) [(i : Int)] = wordB (l.set i false) := by
  refine eq_of_bits _ _ (withoutN_lt _ _ (wordB_64 l h)) (wordB_64 _ (by simpa using h)) fun k hk => ?_
  rw [testBit_withoutN k hk, testBit_wordB, testBit_wordB]
  by_cases e : i = k
  · subst e; simp [List.getD, hi]
  · have : ¬ (k : Int) = (i : Int) := by omega
    simp [List.getD, e, this]
theorem popc_wordB : ∀ (n : Nat) (l : List Bool), l.length ≤ n → popc n (wordB l) = (l.filter id).length
  | 0, l, h => by obtain rfl : l = [] := List.eq_nil_of_length_eq_zero (by omega); rfl
  | n + 1, [], _ => by
    have := popc_wordB n [] (by simp)
    simp only [wordB, popc] at *
    simpa using this
  | n + 1, b :: l, h => by
    have := popc_wordB n l (by simpa using h)
    simp only [wordB, popc]
    rw [show (b.toNat + 2 * wordB l) / 2 = wordB l by cases b <;> simp <;> omega, this, show (b.toNat + 2 * wordB l) % 2 = b.toNat by cases b <;> simp <;> omega]
    cases b <;> simp <;> omega
theorem lenN_wordB (l : List Bool) (h : l.length ≤ 64) : lenN (wordB l) = (l.filter id).length := by rw [lenN_popc, popc_wordB 64 l h]
theorem next0_yes (m k : Nat) (hk : k < 64) (hp : m.testBit k = true) (hn : ∀ j, j < k → m.testBit j = false) : nextV m 0 = k ∧ nextIs m 0 = true := by
  have h := filter_first (m.testBit ·) 64 k hk hp hn
  have e : nextN m 0 = some k := by
    unfold nextN listN
    rw [h]; simp
  exact ⟨by unfold nextV; rw [e]; rfl, by unfold nextIs; rw [e]; rfl⟩
theorem next0_no (m : Nat) (hn : ∀ j, j < 64 → m.testBit j = false) : nextV m 0 = 0 ∧ nextIs m 0 = false := by
  have h : listN m = [] := by
    unfold listN
    rw [List.filter_eq_nil_iff]
    intro j hj
    rw [hn j (List.mem_range.1 hj)]; decide
  have e : nextN m 0 = none := by unfold nextN; rw [h]; rfl
  exact ⟨by unfold nextV; rw [e]; rfl, by unfold nextIs; rw [e]; rfl⟩
theorem listN_wordB (l : List Bool) (h : l.length ≤ 64) : listN (wordB l) = (List.range l.length).filter fun i => l.getD i false := by
  unfold listN
  have e : List.range 64 = List.range l.length ++ List.range' l.length (64 - l.length) := by
    apply List.ext_getElem
    · simp; omega
    · intro j h1 h2
      rw [List.getElem_append]
      split
      · simp
      · rename_i h3; simp at h3; simp; omega
  rw [e, List.filter_append]
  have e2 : (List.range' l.length (64 - l.length)).filter (fun x => (wordB l).testBit x) = [] := by
    rw [List.filter_eq_nil_iff]
    intro j hj
    rw [List.mem_range'_1] at hj
    rw [testBit_wordB]; simp [List.getD, List.getElem?_eq_none (show l.length ≤ j by omega)]
  rw [e2, List.append_nil]
  congr 1
  funext j
  rw [testBit_wordB]

/-! ### Slots -/
structure Slot (α : Type) where
  gen : Nat
  used : Bool
  x : α
section
variable {α : Type}
/-- Free, and not worn. -/
def Slot.open (s : Slot α) : Bool := !s.used && decide (s.gen ≤ 255)
def usedM (l : List (Slot α)) : Nat := wordB (l.map (·.used))
def freeM (l : List (Slot α)) : Nat := wordB (l.map (·.open))
structure ArOk (l : List (Slot α)) : Prop where
  gen : ∀ s ∈ l, 1 ≤ s.gen ∧ s.gen ≤ 256
  used : ∀ s ∈ l, s.used = true → s.gen ≤ 255
/-- The first free slot, from the k-th on. -/
def openAt : List (Slot α) → Nat → Option Nat
  | [], _ => none
  | s :: l, k => if s.open = true then some k else openAt l (k + 1)
theorem openAt_some : ∀ {l : List (Slot α)} {k i : Nat}, openAt l k = some i → k ≤ i ∧ ∃ h : i - k < l.length, (l[i - k]).open = true ∧ ∀ j, (hj : j < i - k) → (l[j]'(by omega)).open = false
  | [], _, _, h => by cases h
  | s :: l, k, i, h => by
    unfold openAt at h
    split at h
    · rename_i ho
      obtain rfl : k = i := Option.some.inj h
      exact ⟨Nat.le_refl _, by simp, by simpa using ho, fun j hj => by omega⟩
    · rename_i ho
      obtain ⟨h1, h2, h3, h4⟩ := openAt_some h
      have e : i - k = (i - (k + 1)) + 1 := by omega
      refine ⟨by omega, by simp only [List.length_cons]; omega, ?_, fun j hj => ?_⟩
      · simp only [e, List.getElem_cons_succ]; exact h3
      · cases j with
        | zero => simpa using ho
        | succ j => simp only [List.getElem_cons_succ]; exact h4 j (by omega)
theorem openAt_none : ∀ {l : List (Slot α)} {k : Nat}, openAt l k = none → ∀ s ∈ l, s.open = false
  | [], _, _, _, hs => by cases hs
  | s :: l, k, h, t, ht => by
    unfold openAt at h
    split at h
    · cases h
    · rename_i ho
      rcases List.mem_cons.1 ht with rfl | ht
      · simpa using ho
      · exact openAt_none h t ht
/-- One is put. -/
def putL (l : List (Slot α)) (x : α) : List (Slot α) := match openAt l 0 with | some i => l.modify i fun s => ⟨s.gen, true, x⟩ | none => l
/-- The error of a handle. -/
def findE (l : List (Slot α)) (i g : Int) : Int := if i < 0 ∨ (l.length : Int) ≤ i then 2 else if (l[i.toNat]?).any (fun s => s.used && decide ((s.gen : Int) = g)) = true then 0 else 7
/-- A slot is freed. -/
def freeAt (z : α) (l : List (Slot α)) (i : Nat) : List (Slot α) := l.modify i fun s => ⟨s.gen + 1, false, z⟩
def freeL (z : α) (l : List (Slot α)) (i g : Int) : List (Slot α) := if findE l i g = 0 then freeAt z l i.toNat else l
def newL (z : α) (n : Nat) : List (Slot α) := List.replicate n ⟨1, false, z⟩
theorem modify_set (l : List α) (i : Nat) (h : i < l.length) (f : α → α) : l.modify i f = l.set i (f l[i]) := by
  apply List.ext_getElem
  · simp
  · intro j h1 h2
    rw [List.getElem_modify, List.getElem_set]
    split
    · rename_i e; subst e; rfl
    · rfl
theorem usedM_set (l : List (Slot α)) (h : l.length ≤ 64) (i : Nat) (hi : i < l.length) (s : Slot α) : usedM (l.set i s) = if s.used = true then withN (usedM l) [(i : Int)] else withoutN (usedM l) [(i : Int)] := by
  unfold usedM
  rw [List.map_set]
  cases hu : s.used with
  | true => rw [if_pos rfl, wordB_with _ (by simpa using h) i (by simpa using hi)]
  | false => rw [if_neg (by decide), wordB_without _ (by simpa using h) i (by simpa using hi)]
theorem freeM_set (l : List (Slot α)) (h : l.length ≤ 64) (i : Nat) (hi : i < l.length) (s : Slot α) : freeM (l.set i s) = if s.open = true then withN (freeM l) [(i : Int)] else withoutN (freeM l) [(i : Int)] := by
  unfold freeM
  rw [List.map_set]
  cases hu : s.open with
  | true => rw [if_pos rfl, wordB_with _ (by simpa using h) i (by simpa using hi)]
  | false => rw [if_neg (by decide), wordB_without _ (by simpa using h) i (by simpa using hi)]
theorem ArOk.set {l : List (Slot α)} (h : ArOk l) (i : Nat) (s : Slot α) (h1 : 1 ≤ s.gen ∧ s.gen ≤ 256) (h2 : s.used = true → s.gen ≤ 255) : ArOk (l.set i s) := by
  refine ⟨fun t ht => ?_, fun t ht => ?_⟩
  · rcases List.mem_or_eq_of_mem_set ht with ht | rfl
    · exact h.gen t ht
    · exact h1
  · rcases List.mem_or_eq_of_mem_set ht with ht | rfl
    · exact h.used t ht
    · exact h2
/-- A bit that is off stays off. -/
theorem without_same {m : Nat} (hm : m < 18446744073709551616) (i : Nat) (h : m.testBit i = false) : withoutN m [(i : Int)] = m := by
  refine eq_of_bits _ _ (withoutN_lt _ _ hm) hm fun k hk => ?_
  rw [testBit_withoutN k hk]
  by_cases e : (k : Int) = (i : Int)
  · obtain rfl : k = i := by omega
    rw [h]; rfl
  · simp [e]
end
end Go.Proofs.YtanidaepfepppaaDoor
