/- isa.Parse. -/
import Derived.Test.YtmmglikbajiepaaDoorIsaO
namespace Go.Proofs.YtmmglikbajiepaaDoor
open Go.RowKit

/-! ### The plain part -/
def insAt8 (l : List Int) : InsS := oneM (l.getD 0 0) (l.getD 1 0) (l.getD 2 0) (l.getD 3 0) (l.getD 4 0) (l.getD 5 0) (l.getD 6 0) (l.getD 7 0)
def chunksN : Nat → List Int → List InsS
  | 0, _ => []
  | n + 1, l => insAt8 l :: chunksN n (l.drop 8)
def chunksM (l : List Int) : List InsS := chunksN (l.length / 8) l
theorem chunksM_cons {l : List Int} (h : 8 ≤ l.length) : chunksM l = insAt8 l :: chunksM (l.drop 8) := by
  unfold chunksM
  rw [show l.length / 8 = ((l.drop 8).length / 8) + 1 by rw [List.length_drop]; omega, chunksN]
theorem chunksM_nil {l : List Int} (h : l.length < 8) : chunksM l = [] := by
  unfold chunksM
  rw [show l.length / 8 = 0 by omega, chunksN]
theorem chunksN_len : ∀ (n : Nat) (l : List Int), (chunksN n l).length = n
  | 0, _ => rfl
  | n + 1, l => by rw [chunksN, List.length_cons, chunksN_len n]
theorem chunksM_len (l : List Int) : (chunksM l).length = l.length / 8 := chunksN_len _ _
/-- The place of the first that is not right. -/
def badK : List InsS → Nat
  | [] => 0
  | x :: l => if errM x = 0 then badK l + 1 else 0
/-- What is parsed: the instructions, the place of an error, the error. -/
def parseM (b : List Int) : List InsS × Nat × Int :=
  if bytesE (chunksM b) ≠ 0 then ([], badK (chunksM b), bytesE (chunksM b)) else if 0 < b.length % 8 then ([], b.length / 8, 10) else (chunksM b, 0, 0)
/-- Where a loop over the instructions is: M lies behind it, l ahead. -/
structure At (b l : List Int) (M : List InsS) : Prop where
  len : l.length + 8 * M.length = b.length
  sub : l = b.drop (8 * M.length)
  all : chunksM b = M ++ chunksM l
  err : bytesE (chunksM b) = bytesE (chunksM l)
  bad : badK (chunksM b) = M.length + badK (chunksM l)
theorem At.start (b : List Int) : At b b [] := ⟨by simp, by simp, by simp, rfl, by simp⟩
theorem At.next {b l : List Int} {M : List InsS} (h : At b l M) (h8 : 8 ≤ l.length) (h0 : errM (insAt8 l) = 0) : At b (l.drop 8) (M ++ [insAt8 l]) := by
  have hl := h.len
  refine ⟨by rw [List.length_drop, List.length_append, List.length_singleton]; omega, by rw [h.sub, List.drop_drop, List.length_append, List.length_singleton]; congr 1, by rw [h.all, chunksM_cons h8, List.append_assoc]; rfl, ?_, ?_⟩
  · rw [h.err, chunksM_cons h8, bytesE, if_pos h0]
  · rw [h.bad, chunksM_cons h8, badK, if_pos h0, List.length_append, List.length_singleton]; omega
theorem At.stop {b l : List Int} {M : List InsS} (h : At b l M) (h8 : 8 ≤ l.length) (h0 : errM (insAt8 l) ≠ 0) : parseM b = ([], M.length, errM (insAt8 l)) := by
  have h1 : bytesE (chunksM b) = errM (insAt8 l) := by rw [h.err, chunksM_cons h8, bytesE, if_neg h0]
  have h2 : badK (chunksM b) = M.length := by rw [h.bad, chunksM_cons h8, badK, if_neg h0]; omega
  unfold parseM
  rw [h1, h2, if_pos h0]
theorem At.over {b l : List Int} {M : List InsS} (h : At b l M) (h8 : l.length < 8) : parseM b = if 0 < l.length then ([], M.length, 10) else (M, 0, 0) := by
  have hl := h.len
  have h1 : bytesE (chunksM b) = 0 := by rw [h.err, chunksM_nil h8]; rfl
  have h2 : chunksM b = M := by rw [h.all, chunksM_nil h8, List.append_nil]
  unfold parseM
  rw [h1, h2, if_neg (by simp), show b.length % 8 = l.length by omega, show b.length / 8 = M.length by omega]
theorem Slc.dropAny {w : World} {c off n cap : Nat} {xs : List Value} (h : Slc w (.slice (some ⟨c, off, none⟩) n cap) xs) (k : Nat) (hk : k ≤ xs.length) :
    ∃ ad, (if cap = k then some (⟨c, off, none⟩ : Addr) else some ⟨c, off + k, none⟩) = some ad ∧ Slc w (.slice (some ad) (n - k) (cap - k)) (xs.drop k) := by
  obtain ⟨q, cp, hv, hl, hc, hn, hcell⟩ := h
  obtain ⟨rfl, rfl, rfl⟩ : q = some ⟨c, off, none⟩ ∧ n = xs.length ∧ cap = cp := by simp at hv; exact ⟨hv.1.symm, hv.2.1, hv.2.2⟩
  by_cases hck : cap = k
  · rw [if_pos hck]
    have e : xs.drop k = [] := List.drop_eq_nil_of_le (by omega)
    refine ⟨_, rfl, ?_⟩
    rw [e]
    exact ⟨some ⟨c, off, none⟩, cap - k, by simp only [List.length_nil, Value.slice.injEq, true_and, and_true]; omega, by simp, by omega, fun h => (by cases h), fun i hi => absurd hi (Nat.not_lt_zero i)⟩
  · rw [if_neg hck]
    refine ⟨_, rfl, some ⟨c, off + k, none⟩, cap - k, by rw [List.length_drop], by rw [List.length_drop]; omega, by omega, fun h => (by cases h), fun j hj => ?_⟩
    rw [List.length_drop] at hj
    obtain ⟨b', off', hp, hx⟩ := hcell (k + j) (by omega)
    simp only [Option.some.injEq, Addr.mk.injEq] at hp
    obtain ⟨rfl, rfl, _⟩ := hp
    refine ⟨c, off + k, rfl, ?_⟩
    rw [Nat.add_assoc, hx]
    simp [List.getD_eq_getElem?_getD, List.getElem?_drop]
end Go.Proofs.YtmmglikbajiepaaDoor
