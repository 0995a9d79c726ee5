/- PendOrder, plain: one queue alone. -/
import Derived.Test.YtlihpmfponkmjaaLaw25
namespace Go.Proofs.Ytlihpmfponkmjaa
open Go.RowKit i64

/-- n queues, of which c alone holds things. -/
def oneQ (n c : Nat) (l : List Int) : List (List Int) := (List.replicate n []).set c l
theorem oneQ_len (n c : Nat) (l : List Int) : (oneQ n c l).length = n := by simp [oneQ]
theorem oneQ_getD (n c : Nat) (l : List Int) (hc : c < n) (i : Nat) : (oneQ n c l).getD i [] = if i = c then l else [] := by
  unfold oneQ
  rw [getD_set _ _ _ _ (by simpa using hc)]
  split
  · rfl
  · simp only [List.getD, List.getElem?_replicate]
    split <;> rfl
theorem oneQ_nil (n c : Nat) : oneQ n c [] = List.replicate n [] := by
  apply List.ext_getElem
  · simp [oneQ]
  · intro i h1 h2
    simp only [oneQ, List.getElem_set, List.getElem_replicate]
    split <;> rfl
theorem oneQ_set (n c : Nat) (l l' : List Int) : (oneQ n c l).set c l' = oneQ n c l' := by simp [oneQ, List.set_set]
theorem oneQ_whB (n c : Nat) (l : List Int) (hc : c < n) (x : Int) : whB (oneQ n c l) x = decide (x ∈ l) := by
  by_cases h : x ∈ l
  · rw [decide_eq_true h, whB_iff]
    exact ⟨c, by rw [oneQ_getD n c l hc, if_pos rfl]; exact h⟩
  · rw [decide_eq_false h, whB_false]
    intro i hi
    rw [oneQ_getD n c l hc] at hi
    split at hi
    · exact h hi
    · cases hi
theorem oneQ_add (n c : Nat) (l : List Int) (hc : c < n) (x : Int) (hx : 0 ≤ x ∧ x < 256) : addR (oneQ n c l) c [x] = if x ∈ l then (oneQ n c l, 5) else (oneQ n c (l ++ [x]), 0) := by
  unfold addR
  rw [if_pos hx, oneQ_whB n c l hc]
  by_cases h : x ∈ l
  · rw [decide_eq_true h, if_pos h]; rfl
  · rw [decide_eq_false h, if_neg h]
    simp only [Bool.false_eq_true, if_false, addR, put1]
    rw [oneQ_getD n c l hc, if_pos rfl, oneQ_set]
theorem oneQ_del (n c : Nat) (l : List Int) (hc : c < n) (x : Int) : del1 (oneQ n c l) x = oneQ n c (l.filter (· != x)) := by
  apply List.ext_getElem
  · simp [del1, oneQ]
  · intro i h1 h2
    have e1 : (del1 (oneQ n c l) x)[i] = (del1 (oneQ n c l) x).getD i [] := by simp [List.getD, h1]
    have e2 : (oneQ n c (l.filter (· != x)))[i] = (oneQ n c (l.filter (· != x))).getD i [] := by simp [List.getD, h2]
    rw [e1, e2, del1_getD, oneQ_getD n c l hc, oneQ_getD n c _ hc]
    split <;> rfl
theorem oneQ_delN (n c : Nat) (l : List Int) (hc : c < n) (x : Int) : delN (oneQ n c l) [x] = if x ∈ l then 1 else 0 := by
  unfold delN
  rw [oneQ_whB n c l hc]
  by_cases h : x ∈ l
  · rw [if_pos h, decide_eq_true h]; rfl
  · rw [if_neg h, decide_eq_false h]; rfl
theorem lenTo_none (n k : Nat) : lenTo (List.replicate n []) k = 0 := by
  unfold lenTo
  rw [List.take_replicate, List.map_replicate]
  simp
/-- A row of 256 answers. -/
def rowB (f : Nat → Bool) : List Value := (List.range 256).map fun j => .bool (f j)
theorem rowB_get (f : Nat → Bool) (j : Nat) (h : j < 256) : (rowB f)[j]? = some (.bool (f j)) := by simp [rowB, h]
theorem rowB_set (f : Nat → Bool) (j : Nat) (b : Bool) : (rowB f).set j (.bool b) = rowB (fun k => if k = j then b else f k) := by
  unfold rowB
  apply List.ext_getElem?
  intro k
  rw [List.getElem?_set]
  by_cases e : j = k
  · subst e
    by_cases h : j < 256
    · simp [h]
    · simp [h]
  · rw [if_neg e]
    by_cases h : k < 256
    · simp [h, Ne.symm e]
    · simp [h]
theorem rowB_congr {f g : Nat → Bool} (h : ∀ j, j < 256 → f j = g j) : rowB f = rowB g := by
  unfold rowB
  exact List.map_congr_left fun j hj => by rw [h j (List.mem_range.1 hj)]
end Go.Proofs.Ytlihpmfponkmjaa
