/- Merged: qScanO qScanO2. -/
import Derived.Test.YtefippjakkgjkaaDoorEndsM
/- The order of a poll: plain mathematics. -/
namespace Go.Proofs.YtefippjakkgjkaaDoor

/-- The numbers below 64, from p on and around. -/
def circ (p : Nat) : List Nat := (List.range 64).map fun i => (p + i) % 64
theorem circ_len (p : Nat) : (circ p).length = 64 := by simp [circ]
theorem circ_get (p i : Nat) (h : i < (circ p).length) : (circ p)[i] = (p + i) % 64 := by simp [circ]
theorem circ_rot (p i : Nat) (hi : i < 64) : circ (((p + i) % 64 + 1) % 64) = (circ p).drop (i + 1) ++ (circ p).take (i + 1) := by
  apply List.ext_getElem
  · simp only [List.length_append, List.length_drop, List.length_take, circ_len]; omega
  · intro j h1 h2
    rw [circ_len] at h1
    rw [circ_get, List.getElem_append]
    split
    · rw [List.getElem_drop, circ_get]; omega
    · rename_i h3
      simp only [List.length_drop, circ_len] at h3 ⊢
      rw [List.getElem_take, circ_get]
      omega
theorem circ_nodup (p : Nat) : (circ p).Nodup := by
  unfold List.Nodup
  rw [List.pairwise_iff_getElem]
  intro i j hi hj hij
  rw [circ_get, circ_get]
  rw [circ_len] at hi hj
  omega
/-- Who is looked at, in turn. -/
def orderN (m p : Nat) : List Nat := (circ p).filter (m.testBit ·)
theorem order_next (m m' p r : Nat) (rest : List Nat) (h : orderN m p = r :: rest) (hm : ∀ j, j ≠ r → m'.testBit j = m.testBit j) :
    orderN m' ((r + 1) % 64) = rest ++ (if m'.testBit r = true then [r] else []) := by
  obtain ⟨a, b, e, ha, hr, hb⟩ := List.filter_eq_cons_iff.1 h
  have hal : a.length < 64 := by have := congrArg List.length e; rw [circ_len] at this; simp at this; omega
  have her : r = (p + a.length) % 64 := by
    have h1 : a.length < (circ p).length := by rw [circ_len]; exact hal
    have h2 := circ_get p a.length h1
    rw [← h2]
    simp [e]
  have hrot := circ_rot p a.length hal
  rw [← her] at hrot
  have hd : (circ p).drop (a.length + 1) = b := by rw [e]; simp
  have ht : (circ p).take (a.length + 1) = a ++ [r] := by rw [e, show a ++ r :: b = (a ++ [r]) ++ b by simp]; exact List.take_left' (by simp)
  have hn := circ_nodup p
  rw [e] at hn
  have hnr : ∀ x ∈ b, x ≠ r := by
    intro x hx
    have := (List.nodup_append.1 hn).2.1
    rw [List.nodup_cons] at this
    intro ex; subst ex; exact this.1 hx
  have hna : ∀ x ∈ a, x ≠ r := fun x hx ex => (List.nodup_append.1 hn).2.2 x hx r (by simp) ex
  unfold orderN
  rw [hrot, hd, ht, List.filter_append, List.filter_append]
  have f1 : b.filter (m'.testBit ·) = rest := by
    rw [← hb]
    exact List.filter_congr fun x hx => hm x (hnr x hx)
  have f2 : a.filter (m'.testBit ·) = [] := by
    rw [List.filter_eq_nil_iff]
    intro x hx
    show ¬ m'.testBit x = true
    rw [hm x (hna x hx)]
    exact ha x hx
  rw [f1, f2, List.nil_append]
  congr 1
  cases hbit : m'.testBit r <;> simp [hbit]
theorem next_split (m p : Nat) (hp : p < 64) (i : Int) : nextN m i = ((List.range p ++ List.range' p (64 - p)).filter (fun (k : Nat) => decide (m.testBit k = true ∧ i ≤ (k : Int)))).head? := by
  have hR : List.range 64 = List.range p ++ List.range' p (64 - p) := by
    apply List.ext_getElem
    · simp; omega
    · intro j h1 h2
      rw [List.getElem_append]
      split
      · simp
      · rename_i h3; simp at h3; simp; omega
  unfold nextN listN
  rw [List.find?_filter, hR, List.head?_filter]
  congr 1
  funext k
  simp
/-- The first of the order is the mask's next around. -/
theorem around_order (m p : Nat) (hp : p < 64) : aroundN m (p : Int) = (orderN m p).head? := by
  have e : circ p = List.range' p (64 - p) ++ List.range p := by
    apply List.ext_getElem
    · simp [circ_len]; omega
    · intro i h1 h2
      rw [circ_len] at h1
      rw [circ_get, List.getElem_append]
      split
      · rename_i h3; simp at h3; simp; omega
      · rename_i h3; simp at h3; simp; omega
  have n1 : nextN m (p : Int) = ((List.range' p (64 - p)).filter (m.testBit ·)).head? := by
    rw [next_split m p hp, List.filter_append]
    have f1 : (List.range p).filter (fun (k : Nat) => decide (m.testBit k = true ∧ (p : Int) ≤ (k : Int))) = [] := by
      rw [List.filter_eq_nil_iff]
      intro k hk
      have := List.mem_range.1 hk
      simp only [decide_eq_true_eq]
      omega
    rw [f1, List.nil_append]
    congr 1
    apply List.filter_congr
    intro k hk
    have := (List.mem_range'_1.1 hk).1
    show decide (m.testBit k = true ∧ (p : Int) ≤ (k : Int)) = m.testBit k
    cases m.testBit k with
    | false => exact decide_eq_false (fun h => by cases h.1)
    | true => exact decide_eq_true ⟨rfl, by omega⟩
  have n0 : nextN m 0 = ((List.range p ++ List.range' p (64 - p)).filter (m.testBit ·)).head? := by
    rw [next_split m p hp]
    congr 1
    apply List.filter_congr
    intro k _
    show decide (m.testBit k = true ∧ (0 : Int) ≤ (k : Int)) = m.testBit k
    cases m.testBit k with
    | false => exact decide_eq_false (fun h => by cases h.1)
    | true => exact decide_eq_true ⟨rfl, by omega⟩
  unfold aroundN orderN
  rw [e, n1, n0, List.filter_append, List.filter_append]
  cases h : (List.range' p (64 - p)).filter (m.testBit ·) with
  | nil => simp
  | cons a l => simp
end Go.Proofs.YtefippjakkgjkaaDoor

/- A poll, as the document tells it: plain mathematics. -/
namespace Go.Proofs.YtefippjakkgjkaaDoor

def docStep (S : SSt) (c : ScSt) (r : Nat) : ScSt := { look S c (r : Int) with place := (r + 1) % 64 }
theorem look_other (S : SSt) (c : ScSt) (r j : Nat) (h : j ≠ r) : (look S c (r : Int)).left.testBit j = c.left.testBit j := by
  unfold look
  split
  · show (andNotN c.left (bitN (r : Int))).testBit j = _
    rw [testBit_andNotN, testBit_bitN, decide_eq_false (by omega), Bool.not_false, Bool.and_true]
  · rfl
theorem pstep_doc (S : SSt) (c : ScSt) (hp : c.place < 64) (r : Nat) (t : List Nat) (h : orderN c.left c.place = r :: t) : pstep S c = docStep S c r := by
  have ha := around_order c.left c.place hp
  rw [h, List.head?_cons] at ha
  unfold pstep aroundIs aroundV
  rw [ha]
  rfl
theorem psteps_doc (S : SSt) : ∀ (l t : List Nat) (c : ScSt), c.place < 64 → orderN c.left c.place = l ++ t → psteps S l.length c = l.foldl (docStep S) c
  | [], _, _, _, _ => rfl
  | r :: l, t, c, hp, h => by
    have h1 := pstep_doc S c hp r (l ++ t) h
    have h2 := order_next c.left (docStep S c r).left c.place r (l ++ t) h (fun j hj => look_other S c r j hj)
    have h3 := psteps_doc S l (t ++ (if (docStep S c r).left.testBit r = true then [r] else [])) (docStep S c r) (Nat.mod_lt _ (by decide)) (by rw [← List.append_assoc]; exact h2)
    rw [List.length_cons, psteps, h1, h3]
    rfl
theorem orderN_len (m p : Nat) (hp : p < 64) : (orderN m p).length = lenN m := by
  have e : circ p = List.range' p (64 - p) ++ List.range p := by
    apply List.ext_getElem
    · simp [circ_len]; omega
    · intro i h1 h2
      rw [circ_len] at h1
      rw [circ_get, List.getElem_append]
      split
      · rename_i h3; simp at h3; simp; omega
      · rename_i h3; simp at h3; simp; omega
  have hR : List.range 64 = List.range p ++ List.range' p (64 - p) := by
    apply List.ext_getElem
    · simp; omega
    · intro j h1 h2
      rw [List.getElem_append]
      split
      · simp
      · rename_i h3; simp at h3; simp; omega
  unfold orderN lenN listN
  rw [e, hR, List.filter_append, List.filter_append, List.length_append, List.length_append, Nat.add_comm]
/-- A poll of n looks at the first n of the order, each once. -/
theorem poll_doc (S : SSt) (c : ScSt) (hp : c.place < 64) (n : Int) : poll S c n = ((orderN c.left c.place).take n.toNat).foldl (docStep S) c := by
  have h := psteps_doc S ((orderN c.left c.place).take n.toNat) ((orderN c.left c.place).drop n.toNat) c hp (List.take_append_drop _ _).symm
  rw [← h, List.length_take, orderN_len _ _ hp]
  unfold poll pollN
  congr 1
  omega
end Go.Proofs.YtefippjakkgjkaaDoor
