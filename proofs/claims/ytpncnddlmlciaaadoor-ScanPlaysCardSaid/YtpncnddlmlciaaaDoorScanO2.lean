/- A poll, as the document tells it: plain mathematics. -/
import Derived.Test.YtpncnddlmlciaaaDoorScanO
namespace Go.Proofs.YtpncnddlmlciaaaDoor

def docStep (S : SSt) (c : ScSt) (r : Nat) : ScSt := { look S c (r : Int) with place := (r + 1) % 64 }
theorem look_other (S : SSt) (c : ScSt) (r j : Nat) (h : j ≠ r) : (look S c (r : Int)).left.testBit j = c.left.testBit j := by
  unfold look
  split
  · show (andNotN c.left (bitN (r : Int))).testBit j = _
    rw [testBit_andNotN, testBit_bitN, decide_eq_false (by omega), Bool.not_false, Bool.and_true]
  · rfl
theorem pstep_doc (S : SSt) (c : ScSt) (hp : c.place < 64) (r : Nat) (t : List Nat) (h : orderN c.left c.place = r :: t) : pstep S c = docStep S c r := by
  have ha := around_order c.left c.place hp
  rw [h, List.head?_cons] at ha
  unfold pstep aroundIs aroundV
  rw [ha]
  rfl
theorem psteps_doc (S : SSt) : ∀ (l t : List Nat) (c : ScSt), c.place < 64 → orderN c.left c.place = l ++ t → psteps S l.length c = l.foldl (docStep S) c
  | [], _, _, _, _ => rfl
  | r :: l, t, c, hp, h => by
    have h1 := pstep_doc S c hp r (l ++ t) h
    have h2 := order_next c.left (docStep S c r).left c.place r (l ++ t) h (fun j hj => look_other S c r j hj)
    have h3 := psteps_doc S l (t ++ (if (docStep S c r).left.testBit r = true then [r] else [])) (docStep S c r) (Nat.mod_lt _ (by decide)) (by rw [← List.append_assoc]; exact h2)
    rw [List.length_cons, psteps, h1, h3]
    rfl
theorem orderN_len (m p : Nat) (hp : p < 64) : (orderN m p).length = lenN m := by
  have e : circ p = List.range' p (64 - p) ++ List.range p := by
    apply List.ext_getElem
    · simp [circ_len]; omega
    · intro i h1 h2
      rw [circ_len] at h1
      rw [circ_get, List.getElem_append]
      split
      · rename_i h3; simp at h3; simp; omega
      · rename_i h3; simp at h3; simp; omega
  have hR : List.range 64 = List.range p ++ List.range' p (64 - p) := by
    apply List.ext_getElem
    · simp; omega
    · intro j h1 h2
      rw [List.getElem_append]
      split
      · simp
      · rename_i h3; simp at h3; simp; omega
  unfold orderN lenN listN
  rw [e, hR, List.filter_append, List.filter_append, List.length_append, List.length_append, Nat.add_comm]
/-- A poll of n looks at the first n of the order, each once. -/
theorem poll_doc (S : SSt) (c : ScSt) (hp : c.place < 64) (n : Int) : poll S c n = ((orderN c.left c.place).take n.toNat).foldl (docStep S) c := by
  have h := psteps_doc S ((orderN c.left c.place).take n.toNat) ((orderN c.left c.place).drop n.toNat) c hp (List.take_append_drop _ _).symm
  rw [← h, List.length_take, orderN_len _ _ hp]
  unfold poll pollN
  congr 1
  omega
end Go.Proofs.YtpncnddlmlciaaaDoor
