/- PendPlays: what the program holds and what the document holds, side by side. -/
import Derived.Test.YtcggbfpangnllaaLaw25
import Derived.Test.YtcggbfpangnllaaRef25c
namespace Go.Proofs.Ytcggbfpangnllaa
open Go.RowKit i64

/-! ### Plain -/
theorem find_nd {Q : List Th} (h : (Q.map (·.1)).Nodup) {x : Th} (hx : x ∈ Q) : Q.find? (·.1 == x.1) = some x := by
  induction Q with
  | nil => cases hx
  | cons y Q ih =>
    rw [List.find?_cons]
    rw [List.map_cons, List.nodup_cons] at h
    by_cases e : y.1 = x.1
    · have e1 : (y.1 == x.1) = true := by simpa using e
      rw [e1]
      rcases List.mem_cons.1 hx with rfl | hx
      · rfl
      · exact absurd (List.mem_map.2 ⟨x, hx, e.symm⟩) h.1
    · have e1 : (y.1 == x.1) = false := by simpa using e
      rw [e1]
      rcases List.mem_cons.1 hx with rfl | hx
      · exact absurd rfl e
      · exact ih h.2 hx
theorem find_none {Q : List Th} {i : Int} (h : ∀ x ∈ Q, x.1 ≠ i) : Q.find? (·.1 == i) = none := List.find?_eq_none.2 fun x hx => by simpa using h x hx
theorem lkIB_false {Q : List Th} {i : Int} (h : ∀ x ∈ Q, x.1 ≠ i) : lkIB Q i = false := by unfold lkIB; rw [find_none h]; rfl
theorem lkI_false {Q : List Th} {i : Int} (h : ∀ x ∈ Q, x.1 ≠ i) : lkI Q i = 0 := by unfold lkI; rw [find_none h]; rfl
theorem lkIB_iff {Q : List Th} {i : Int} : lkIB Q i = true ↔ ∃ x ∈ Q, x.1 = i := by
  unfold lkIB
  rw [List.find?_isSome]
  constructor
  · rintro ⟨x, hx, e⟩; exact ⟨x, hx, by simpa using e⟩
  · rintro ⟨x, hx, e⟩; exact ⟨x, hx, by simpa using e⟩
theorem eraseP_nd {Q : List Th} (h : (Q.map (·.1)).Nodup) (i : Int) : Q.eraseP (·.1 == i) = Q.filter (·.1 != i) := by
  induction Q with
  | nil => rfl
  | cons y Q ih =>
    rw [List.map_cons, List.nodup_cons] at h
    rw [List.eraseP_cons, List.filter_cons]
    by_cases e : y.1 = i
    · have e1 : (y.1 == i) = true := by simpa using e
      have e2 : (y.1 != i) = false := by simpa using e
      rw [e1, e2]
      simp only [cond_true, Bool.false_eq_true, if_false]
      rw [List.filter_eq_self.2]
      intro x hx
      have : x.1 ≠ i := fun e3 => h.1 (List.mem_map.2 ⟨x, hx, by rw [e3, e]⟩)
      simpa using this
    · have e1 : (y.1 == i) = false := by simpa using e
      have e2 : (y.1 != i) = true := by simpa using e
      rw [e1, e2]
      simp only [cond_false, if_true]
      rw [ih h.2]
/-- The queues, and the document's list. -/
structure Rel25 (n : Nat) (R : List (List Int)) (Q : List Th) : Prop where
  len : R.length = n
  q : ∀ c : Nat, c < n → R.getD c [] = quL Q (c : Int)
  at' : ∀ x ∈ Q, ∃ c : Nat, c < n ∧ x.2 = (c : Int)
  nd : (Q.map (·.1)).Nodup
theorem quL_mem {Q : List Th} {c i : Int} : i ∈ quL Q c ↔ (i, c) ∈ Q := by
  unfold quL
  rw [List.mem_map]
  constructor
  · rintro ⟨⟨a, b⟩, hx, rfl⟩
    obtain ⟨h1, h2⟩ := List.mem_filter.1 hx
    have : b = c := by simpa using h2
    subst this; exact h1
  · intro h
    exact ⟨(i, c), List.mem_filter.2 ⟨h, by simp⟩, rfl⟩
section
variable {n : Nat} {R : List (List Int)} {Q : List Th}
theorem Rel25.start (n : Nat) : Rel25 n (List.replicate n []) [] := ⟨by simp, fun c hc => by simp [List.getD, hc, quL], fun x hx => (by cases hx), List.nodup_nil⟩
theorem Rel25.mem (h : Rel25 n R Q) {i : Int} {k : Nat} : i ∈ R.getD k [] ↔ k < n ∧ (i, (k : Int)) ∈ Q := by
  constructor
  · intro hi
    have hk : k < n := by have := getD_lt hi; rw [h.len] at this; exact this
    rw [h.q k hk, quL_mem] at hi
    exact ⟨hk, hi⟩
  · rintro ⟨hk, hi⟩
    rw [h.q k hk, quL_mem]; exact hi
theorem Rel25.where' (h : Rel25 n R Q) (hO : OkQ R) (i : Int) : whB R i = lkIB Q i ∧ whC R i = lkI Q i := by
  cases hb : whB R i with
  | true =>
    obtain ⟨k, hk⟩ := (whB_iff R i).1 hb
    have hm := h.mem.1 hk
    have h1 := whC_eq hO hk
    have hf := find_nd h.nd hm.2
    refine ⟨by unfold lkIB; rw [hf]; rfl, ?_⟩
    rw [h1.2]; unfold lkI; rw [hf]; rfl
  | false =>
    have hn := (whB_false R i).1 hb
    have hq : ∀ x ∈ Q, x.1 ≠ i := fun x hx e => by
      obtain ⟨c, hc, h2⟩ := h.at' x hx
      exact hn c (h.mem.2 ⟨hc, by rw [← e, ← h2]; exact hx⟩)
    refine ⟨(lkIB_false hq).symm, ?_⟩
    rw [lkI_false hq]
    have : whereQ R (· == i) = none := by
      unfold whB findB at hb
      simpa using hb
    unfold whC findC
    rw [this]; rfl
theorem Rel25.rng (h : Rel25 n R Q) (hO : OkQ R) {x : Th} (hx : x ∈ Q) : 0 ≤ x.1 ∧ x.1 < 256 := by
  obtain ⟨c, hc, h2⟩ := h.at' x hx
  exact hO.rng c x.1 (h.mem.2 ⟨hc, by rw [← h2]; exact hx⟩)
theorem Rel25.put (h : Rel25 n R Q) {c : Nat} (hc : c < n) {x : Int} (hx : lkIB Q x = false) : Rel25 n (put1 R c x) (Q ++ [(x, (c : Int))]) := by
  refine ⟨by simp [put1, h.len], fun k hk => ?_, fun y hy => ?_, ?_⟩
  · unfold put1
    rw [getD_set R c k _ (by rw [h.len]; exact hc)]
    unfold quL
    rw [List.filter_append, List.map_append]
    by_cases e : k = c
    · subst e
      rw [if_pos rfl, h.q k hk]
      simp [quL]
    · rw [if_neg e, h.q k hk]
      have : ¬ (c : Int) = (k : Int) := by omega
      simp [quL, this]
  · rcases List.mem_append.1 hy with hy | hy
    · exact h.at' y hy
    · obtain rfl := List.mem_singleton.1 hy
      exact ⟨c, hc, rfl⟩
  · rw [List.map_append, List.nodup_append]
    refine ⟨h.nd, by simp, fun a ha b hb e => ?_⟩
    have hb' : b = x := by simpa using hb
    subst hb'; subst e
    obtain ⟨y, hy, e⟩ := List.mem_map.1 ha
    have := lkIB_iff.2 ⟨y, hy, e⟩
    rw [hx] at this; cases this
/-- What adding makes, whatever the CPU. -/
def addC (n : Nat) (Q : List Th) (c : Int) (ids : List Int) : List Th × Int := if c < 0 ∨ (n : Int) ≤ c then (Q, 2) else addM Q c ids
theorem addM_len (c : Int) : ∀ (ids : List Int) (Q : List Th), (addM Q c ids).1.length ≤ Q.length + ids.length
  | [], Q => Nat.le_refl _
  | x :: xs, Q => by
    unfold addM
    split
    · split
      · simp
      · have := addM_len c xs (Q ++ [(x, c)])
        rw [List.length_append, List.length_singleton] at this
        rw [List.length_cons]; omega
    · simp
theorem addC_len (n : Nat) (Q : List Th) (c : Int) (ids : List Int) : (addC n Q c ids).1.length ≤ Q.length + ids.length := by
  unfold addC
  split
  · simp
  · exact addM_len c ids Q
theorem Rel25.add (c : Nat) (hc : c < n) : ∀ (ids : List Int) (R : List (List Int)) (Q : List Th), Rel25 n R Q → OkQ R → (addR R c ids).2 = (addM Q (c : Int) ids).2 ∧ Rel25 n (addR R c ids).1 (addM Q (c : Int) ids).1
  | [], R, Q, h, _ => ⟨rfl, h⟩
  | x :: xs, R, Q, h, hO => by
    unfold addR addM
    by_cases hx : 0 ≤ x ∧ x < 256
    · rw [if_pos hx, if_pos hx, (h.where' hO x).1]
      cases hb : lkIB Q x with
      | true => exact ⟨rfl, h⟩
      | false =>
        have hw := (h.where' hO x).1
        rw [hb] at hw
        exact Rel25.add c hc xs _ _ (h.put hc hb) (hO.put1 (by rw [h.len]; exact hc) hx ((whB_false R x).1 hw))
    · rw [if_neg hx, if_neg hx]
      exact ⟨rfl, h⟩
theorem Rel25.del (h : Rel25 n R Q) (x : Int) : Rel25 n (del1 R x) (Q.eraseP (·.1 == x)) := by
  rw [eraseP_nd h.nd]
  refine ⟨by simp [del1, h.len], fun c hc => ?_, fun y hy => h.at' y (List.mem_filter.1 hy).1, ?_⟩
  · rw [del1_getD, h.q c hc]
    unfold quL
    rw [List.filter_map, List.filter_filter, List.filter_filter]
    congr 1
    apply List.filter_congr
    intro y _
    simp [Bool.and_comm]
  · exact h.nd.sublist (List.filter_sublist.map _)
theorem Rel25.pop (h : Rel25 n R Q) {k : Nat} (hk : k < n) {x : Int} {xs : List Int} (hq : R.getD k [] = x :: xs) (hO : OkQ R) : Rel25 n (R.set k xs) (Q.eraseP (·.1 == x)) := by
  have e : R.set k xs = del1 R x := by
    have := del1_hit hO (i := k) (a := 0) (x := x) (by rw [h.len]; exact hk) (by rw [hq]; simp) (by simp only [hq, List.getElem_cons_zero])
    rw [← this, hq]; rfl
  rw [e]; exact h.del x
theorem lenTo_rel (h : Rel25 n R Q) : ∀ k, k ≤ n → lenTo R k = (Q.filter fun x => decide (x.2 < (k : Int))).length
  | 0, _ => by
    rw [lenTo_zero, eq_comm, List.length_eq_zero_iff, List.filter_eq_nil_iff]
    intro x hx
    obtain ⟨c, _, h2⟩ := h.at' x hx
    simp; omega
  | k + 1, hk => by
    rw [lenTo_succ R k (by rw [h.len]; omega), lenTo_rel h k (by omega), h.q k (by omega)]
    unfold quL
    rw [List.length_map]
    have : ∀ (L : List Th), (L.filter fun x => decide (x.2 < (k : Int))).length + (L.filter (·.2 == (k : Int))).length = (L.filter fun x => decide (x.2 < ((k + 1 : Nat) : Int))).length := by
      intro L
      induction L with
      | nil => rfl
      | cons y L ih =>
        simp only [List.filter_cons]
        by_cases e : y.2 = (k : Int)
        · have e1 : decide (y.2 < (k : Int)) = false := decide_eq_false (by omega)
          have e2 : (y.2 == (k : Int)) = true := by simpa using e
          have e3 : decide (y.2 < ((k + 1 : Nat) : Int)) = true := decide_eq_true (by omega)
          rw [e1, e2, e3]
          simp only [Bool.false_eq_true, if_false, if_true, List.length_cons]; omega
        · have e2 : (y.2 == (k : Int)) = false := by simpa using e
          by_cases e4 : y.2 < (k : Int)
          · have e1 : decide (y.2 < (k : Int)) = true := decide_eq_true e4
            have e3 : decide (y.2 < ((k + 1 : Nat) : Int)) = true := decide_eq_true (by omega)
            rw [e1, e2, e3]
            simp only [Bool.false_eq_true, if_false, if_true, List.length_cons]; omega
          · have e1 : decide (y.2 < (k : Int)) = false := decide_eq_false e4
            have e3 : decide (y.2 < ((k + 1 : Nat) : Int)) = false := decide_eq_false (by omega)
            rw [e1, e2, e3]
            simp only [Bool.false_eq_true, if_false]; omega
    exact this Q
theorem Rel25.total (h : Rel25 n R Q) : lenTo R n = Q.length := by
  rw [lenTo_rel h n (Nat.le_refl _), List.filter_eq_self.2]
  intro x hx
  obtain ⟨c, hc, h2⟩ := h.at' x hx
  exact decide_eq_true (by omega)
end
/-- Who runs where, and the document's list. -/
structure RunR (fr fo : Nat → Int) (L : List Th) : Prop where
  a : ∀ x ∈ L, ∃ i c : Nat, i < 256 ∧ c < 32 ∧ x = ((i : Int), (c : Int)) ∧ fr i = (c : Int) + 1 ∧ fo c = (i : Int) + 1
  b : ∀ i, i < 256 → fr i = 0 ∨ ∃ c : Nat, c < 32 ∧ fr i = (c : Int) + 1 ∧ ((i : Int), (c : Int)) ∈ L
  d : ∀ c, c < 32 → fo c = 0 ∨ ∃ i : Nat, i < 256 ∧ fo c = (i : Int) + 1 ∧ ((i : Int), (c : Int)) ∈ L
  nd : (L.map (·.1)).Nodup
  nd2 : (L.map (·.2)).Nodup
theorem find2_nd {Q : List Th} (h : (Q.map (·.2)).Nodup) {x : Th} (hx : x ∈ Q) : Q.find? (·.2 == x.2) = some x := by
  induction Q with
  | nil => cases hx
  | cons y Q ih =>
    rw [List.find?_cons]
    rw [List.map_cons, List.nodup_cons] at h
    by_cases e : y.2 = x.2
    · have e1 : (y.2 == x.2) = true := by simpa using e
      rw [e1]
      rcases List.mem_cons.1 hx with rfl | hx
      · rfl
      · exact absurd (List.mem_map.2 ⟨x, hx, e.symm⟩) h.1
    · have e1 : (y.2 == x.2) = false := by simpa using e
      rw [e1]
      rcases List.mem_cons.1 hx with rfl | hx
      · exact absurd rfl e
      · exact ih h.2 hx
section
variable {fr fo : Nat → Int} {L : List Th}
theorem RunR.start : RunR (fun _ => 0) (fun _ => 0) [] := ⟨fun x hx => (by cases hx), fun _ _ => .inl rfl, fun _ _ => .inl rfl, List.nodup_nil, List.nodup_nil⟩
theorem RunR.runs (h : RunR fr fo L) (i : Nat) (hi : i < 256) : (if fr i = 0 then (0 : Int) else wrap64 (fr i - 1)) = lkI L i ∧ (fr i != 0) = lkIB L i := by
  rcases h.b i hi with h0 | ⟨c, hc, h1, h2⟩
  · have hn : ∀ x ∈ L, x.1 ≠ (i : Int) := fun x hx e => by
      obtain ⟨j, c, _, _, rfl, h3, _⟩ := h.a x hx
      have : j = i := Int.ofNat_inj.1 e
      subst this; omega
    rw [h0, lkI_false hn, lkIB_false hn]; exact ⟨rfl, rfl⟩
  · have hf : L.find? (·.1 == (i : Int)) = some ((i : Int), (c : Int)) := find_nd h.nd h2
    rw [h1, if_neg (by omega), show (c : Int) + 1 - 1 = c by omega, wrap_small _ (by omega)]
    refine ⟨by unfold lkI; rw [hf]; rfl, ?_⟩
    unfold lkIB; rw [hf]
    simp; omega
theorem RunR.runs_no (h : RunR fr fo L) (i : Int) (hi : ¬ (0 ≤ i ∧ i < 256)) : lkI L i = 0 ∧ lkIB L i = false := by
  have hn : ∀ x ∈ L, x.1 ≠ i := fun x hx e => by
    obtain ⟨j, c, hj, _, rfl, _⟩ := h.a x hx
    simp only at e; omega
  exact ⟨lkI_false hn, lkIB_false hn⟩
theorem RunR.of (h : RunR fr fo L) (c : Nat) (hc : c < 32) : (if fo c = 0 then (0 : Int) else wrap64 (fo c - 1)) = lkO L c ∧ (fo c != 0) = lkOB L c := by
  rcases h.d c hc with h0 | ⟨i, hi, h1, h2⟩
  · have hn : L.find? (·.2 == (c : Int)) = none := List.find?_eq_none.2 fun x hx => by
      obtain ⟨j, c', _, _, rfl, _, h3⟩ := h.a x hx
      have : ¬ (c' : Int) = (c : Int) := fun e => by
        have : c' = c := by omega
        subst this; omega
      simpa using this
    rw [h0]
    exact ⟨by unfold lkO; rw [hn]; rfl, by unfold lkOB; rw [hn]; rfl⟩
  · have hf : L.find? (·.2 == (c : Int)) = some ((i : Int), (c : Int)) := find2_nd h.nd2 h2
    rw [h1, if_neg (by omega), show (i : Int) + 1 - 1 = i by omega, wrap_small _ (by omega)]
    refine ⟨by unfold lkO; rw [hf]; rfl, ?_⟩
    unfold lkOB; rw [hf]
    simp; omega
theorem RunR.of_no (h : RunR fr fo L) (c : Int) (hc : ¬ (0 ≤ c ∧ c < 32)) : lkO L c = 0 ∧ lkOB L c = false := by
  have hn : L.find? (·.2 == c) = none := List.find?_eq_none.2 fun x hx => by
    obtain ⟨j, c', _, hc', rfl, _⟩ := h.a x hx
    have : ¬ (c' : Int) = c := by omega
    simpa using this
  exact ⟨by unfold lkO; rw [hn]; rfl, by unfold lkOB; rw [hn]; rfl⟩
theorem RunR.begin (h : RunR fr fo L) {i c : Nat} (hi : i < 256) (hc : c < 32) (hf : fr i = 0) (ho : fo c = 0) : RunR (updI fr i ((c : Int) + 1)) (updI fo c ((i : Int) + 1)) (L ++ [((i : Int), (c : Int))]) := by
  have ne : ∀ x ∈ L, x.1 ≠ (i : Int) ∧ x.2 ≠ (c : Int) := fun x hx => by
    obtain ⟨j, k, _, _, rfl, h1, h2⟩ := h.a x hx
    refine ⟨fun e => ?_, fun e => ?_⟩
    · have : j = i := Int.ofNat_inj.1 e
      subst this; omega
    · have : k = c := Int.ofNat_inj.1 e
      subst this; omega
  refine ⟨fun x hx => ?_, fun j hj => ?_, fun k hk => ?_, ?_, ?_⟩
  · rcases List.mem_append.1 hx with hx | hx
    · obtain ⟨j, k, hj, hk, rfl, h1, h2⟩ := h.a x hx
      have := ne _ hx
      refine ⟨j, k, hj, hk, rfl, ?_, ?_⟩
      · unfold updI; rw [if_neg (fun e => this.1 (by rw [e]))]; exact h1
      · unfold updI; rw [if_neg (fun e => this.2 (by rw [e]))]; exact h2
    · obtain rfl := List.mem_singleton.1 hx
      exact ⟨i, c, hi, hc, rfl, by simp [updI], by simp [updI]⟩
  · unfold updI
    by_cases e : j = i
    · subst e; exact .inr ⟨c, hc, by simp, by simp⟩
    · rw [if_neg e]
      rcases h.b j hj with h0 | ⟨k, hk, h1, h2⟩
      · exact .inl h0
      · exact .inr ⟨k, hk, h1, List.mem_append_left _ h2⟩
  · unfold updI
    by_cases e : k = c
    · subst e; exact .inr ⟨i, hi, by simp, by simp⟩
    · rw [if_neg e]
      rcases h.d k hk with h0 | ⟨j, hj, h1, h2⟩
      · exact .inl h0
      · exact .inr ⟨j, hj, h1, List.mem_append_left _ h2⟩
  · rw [List.map_append, List.nodup_append]
    refine ⟨h.nd, by simp, fun a ha b hb e => ?_⟩
    obtain ⟨x, hx, rfl⟩ := List.mem_map.1 ha
    have hb' : b = (i : Int) := by simpa using hb
    exact (ne x hx).1 (by rw [e, hb'])
  · rw [List.map_append, List.nodup_append]
    refine ⟨h.nd2, by simp, fun a ha b hb e => ?_⟩
    obtain ⟨x, hx, rfl⟩ := List.mem_map.1 ha
    have hb' : b = (c : Int) := by simpa using hb
    exact (ne x hx).2 (by rw [e, hb'])
theorem RunR.end' (h : RunR fr fo L) {i c : Nat} (hm : ((i : Int), (c : Int)) ∈ L) : RunR (updI fr i 0) (updI fo c 0) (L.eraseP (·.1 == (i : Int))) := by
  rw [eraseP_nd h.nd]
  have hone : ∀ x ∈ L, x.1 = (i : Int) ∨ x.2 = (c : Int) → x = ((i : Int), (c : Int)) := fun x hx e => by
    obtain ⟨j, k, _, _, rfl, h1, h2⟩ := h.a x hx
    obtain ⟨i', c', _, _, he, h3, h4⟩ := h.a _ hm
    have e1 : i = i' := Int.ofNat_inj.1 (congrArg Prod.fst he)
    have e2 : c = c' := Int.ofNat_inj.1 (congrArg Prod.snd he)
    subst e1; subst e2
    rcases e with e | e
    · have : j = i := Int.ofNat_inj.1 e
      subst this
      have : k = c := by omega
      subst this; rfl
    · have : k = c := Int.ofNat_inj.1 e
      subst this
      have : j = i := by omega
      subst this; rfl
  refine ⟨fun x hx => ?_, fun j hj => ?_, fun k hk => ?_, h.nd.sublist (List.filter_sublist.map _), h.nd2.sublist (List.filter_sublist.map _)⟩
  · obtain ⟨hx, hne⟩ := List.mem_filter.1 hx
    have hne : x.1 ≠ (i : Int) := by simpa using hne
    obtain ⟨j, k, hj, hk, rfl, h1, h2⟩ := h.a x hx
    refine ⟨j, k, hj, hk, rfl, ?_, ?_⟩
    · unfold updI; rw [if_neg (fun e => hne (by rw [e]))]; exact h1
    · unfold updI
      rw [if_neg (fun e => hne (by rw [hone _ hx (.inr (by rw [e]))]))]; exact h2
  · unfold updI
    by_cases e : j = i
    · rw [if_pos e]; exact .inl rfl
    · rw [if_neg e]
      rcases h.b j hj with h0 | ⟨k, hk, h1, h2⟩
      · exact .inl h0
      · exact .inr ⟨k, hk, h1, List.mem_filter.2 ⟨h2, by simp; omega⟩⟩
  · unfold updI
    by_cases e : k = c
    · rw [if_pos e]; exact .inl rfl
    · rw [if_neg e]
      rcases h.d k hk with h0 | ⟨j, hj, h1, h2⟩
      · exact .inl h0
      · refine .inr ⟨j, hj, h1, List.mem_filter.2 ⟨h2, ?_⟩⟩
        have : ¬ (j : Int) = (i : Int) := fun e2 => by
          have := hone _ h2 (.inl e2)
          have : k = c := Int.ofNat_inj.1 (congrArg Prod.snd this)
          exact e this
        simpa using this
end
end Go.Proofs.Ytcggbfpangnllaa
