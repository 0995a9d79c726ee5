/- CallsPlays in plain mathematics: the document's one list against a ring for each CPU. -/
import Derived.Test.YtllnncojafcdoaaRef11d
namespace Go.Proofs.Ytllnncojafcdoaa
open Go.RowKit

theorem pw_all {α : Type} (R : α → α → Prop) : ∀ (l : List α), (∀ a b, R a b) → l.Pairwise R
  | [], _ => .nil
  | _ :: l, h => .cons (fun b _ => h _ b) (pw_all R l h)
/-- The rings of the document's list. -/
def ringL (L : List C3) (c : Nat) : List Cl := (L.filter fun x => x.1 == c).map (·.2)
def ringsL (n : Nat) (L : List C3) : List (List Cl) := (List.range n).map (ringL L)
theorem ringsL_get (n : Nat) (L : List C3) (c : Nat) (h : c < n) : (ringsL n L).getD c [] = ringL L c := by simp [ringsL, List.getD, h]
theorem ringL_len (L : List C3) (c : Nat) : (ringL L c).length = cnt3 L c := by simp [ringL, cnt3]
/-- What holds of the document's list. -/
structure Fit (n : Nat) (last : Int) (L : List C3) : Prop where
  cpu : ∀ x ∈ L, x.1 < n
  gen : ∀ x ∈ L, 0 ≤ x.2.2 ∧ x.2.2 ≤ last
  ord : L.Pairwise fun a b => b.2.2 ≠ 0 → a.2.2 ≠ 0 ∧ a.2.2 ≤ b.2.2
  room : ∀ c, cnt3 L c ≤ 64
  nn : 0 ≤ last
theorem Fit.nil (n : Nat) : Fit n 0 [] := ⟨fun _ h => (by cases h), fun _ h => (by cases h), .nil, fun _ => by simp [cnt3], Int.le_refl _⟩
section
variable {n : Nat} {last : Int} {L : List C3}
theorem cnt3_addN (c : Nat) (ids : List Int) (d : Nat) : cnt3 (addN L c ids) d = cnt3 L d + if d = c then ids.length else 0 := by
  unfold cnt3 addN
  rw [List.filter_append, List.length_append]
  congr 1
  by_cases e : d = c
  · subst e
    rw [if_pos rfl, List.filter_eq_self.2 fun x hx => by obtain ⟨i, _, rfl⟩ := List.mem_map.1 hx; simp, List.length_map]
  · rw [if_neg e, List.filter_eq_nil_iff.2 fun x hx => by obtain ⟨i, _, rfl⟩ := List.mem_map.1 hx; simp [Ne.symm e]]; rfl
theorem Fit.add (h : Fit n last L) (c : Nat) (hc : c < n) (ids : List Int) : Fit n last (add3 L c ids) := by
  unfold add3
  generalize hI : ids.take (64 - cnt3 L c) = I
  have hIl : I.length ≤ 64 - cnt3 L c := by rw [← hI, List.length_take]; omega
  have hm : ∀ x ∈ addN L c I, x ∈ L ∨ (x.1 = c ∧ x.2.2 = 0) := fun x hx => by
    rcases List.mem_append.1 hx with h | h
    · exact .inl h
    · obtain ⟨i, _, rfl⟩ := List.mem_map.1 h; exact .inr ⟨rfl, rfl⟩
  refine ⟨fun x hx => ?_, fun x hx => ?_, ?_, fun d => ?_, h.nn⟩
  · rcases hm x hx with h1 | ⟨h1, _⟩
    · exact h.cpu x h1
    · omega
  · rcases hm x hx with h1 | ⟨_, h1⟩
    · exact h.gen x h1
    · rw [h1]; exact ⟨Int.le_refl _, h.nn⟩
  · unfold addN
    rw [List.pairwise_append]
    refine ⟨h.ord, ?_, fun a _ b hb hb0 => ?_⟩
    · rw [List.pairwise_map]
      exact pw_all _ _ fun _ _ h0 => absurd rfl h0
    · obtain ⟨i, _, rfl⟩ := List.mem_map.1 hb; exact absurd rfl hb0
  · rw [cnt3_addN]
    have := h.room d
    have := h.room c
    split
    · rename_i e; subst e; omega
    · omega
theorem ringsL_add (c : Nat) (hc : c < n) (ids : List Int) : (ringsL n L).set c (addR ((ringsL n L).getD c []) ids) = ringsL n (add3 L c ids) := by
  rw [ringsL_get n L c hc]
  apply List.ext_getElem
  · simp [ringsL]
  · intro i h1 h2
    rw [List.getElem_set]
    simp only [ringsL, List.getElem_map, List.getElem_range]
    unfold addR add3 addN
    rw [ringL_len]
    generalize ids.take (64 - cnt3 L c) = I
    by_cases e : c = i
    · subst e
      rw [if_pos rfl]
      unfold ringL
      rw [List.filter_append, List.map_append]
      congr 1
      rw [List.filter_eq_self.2 fun x hx => by obtain ⟨i, _, rfl⟩ := List.mem_map.1 hx; simp, List.map_map]
      rfl
    · rw [if_neg e]
      unfold ringL
      rw [List.filter_append, List.map_append]
      have hnil : (I.map fun j => ((c, j, 0) : C3)).filter (fun x => x.1 == i) = [] := List.filter_eq_nil_iff.2 fun x hx => by
        obtain ⟨j, _, rfl⟩ := List.mem_map.1 hx
        simpa using e
      rw [hnil]
      simp
theorem Fit.close (h : Fit n last L) (g : Int) (h1 : 1 ≤ g) (h2 : last ≤ g) : Fit n g (close3 g L) := by
  unfold close3
  refine ⟨fun x hx => ?_, fun x hx => ?_, ?_, fun c => ?_, by omega⟩
  · obtain ⟨y, hy, rfl⟩ := List.mem_map.1 hx
    have := h.cpu y hy
    unfold clo3; split <;> exact this
  · obtain ⟨y, hy, rfl⟩ := List.mem_map.1 hx
    have := h.gen y hy
    unfold clo3; split
    · exact ⟨by simp only; omega, by simp only; omega⟩
    · exact ⟨this.1, by omega⟩
  · rw [List.pairwise_map]
    refine h.ord.imp_of_mem fun {a b} ha hb hab => ?_
    have ga := h.gen a ha
    have gb := h.gen b hb
    intro _
    unfold clo3
    by_cases eb : b.2.2 = 0
    · rw [if_pos eb]
      by_cases ea : a.2.2 = 0
      · rw [if_pos ea]; exact ⟨by simp only; omega, Int.le_refl _⟩
      · rw [if_neg ea]; exact ⟨ea, by simp only; omega⟩
    · have := hab eb
      rw [if_neg eb, if_neg this.1]
      exact this
  · have := h.room c
    unfold cnt3 at *
    rw [List.filter_map, List.length_map]
    rw [show ((fun x : C3 => x.1 == c) ∘ clo3 g) = fun x => x.1 == c by
      funext x; simp only [Function.comp, clo3]; split <;> rfl]
    exact this
theorem ringsL_close (g : Int) : closeL g (ringsL n L) = ringsL n (close3 g L) := by
  unfold closeL ringsL
  rw [List.map_map]
  refine List.map_congr_left fun c _ => ?_
  simp only [Function.comp, ringL, close3]
  rw [List.filter_map, List.map_map, List.map_map]
  rw [show ((fun x : C3 => x.1 == c) ∘ clo3 g) = fun x => x.1 == c by
    funext x; simp only [Function.comp, clo3]; split <;> rfl]
  refine List.map_congr_left fun x _ => ?_
  simp only [Function.comp, clo3, clo]
  split <;> rfl
theorem take_filter' {α : Type} (p : α → Bool) : ∀ (l : List α), l.Pairwise (fun a b => p b = true → p a = true) → l.takeWhile p = l.filter p ∧ l.dropWhile p = l.filter fun a => !p a
  | [], _ => ⟨rfl, rfl⟩
  | a :: l, h => by
    rw [List.pairwise_cons] at h
    have ih := take_filter' p l h.2
    by_cases e : p a = true
    · rw [List.takeWhile_cons_of_pos e, List.dropWhile_cons_of_pos e, List.filter_cons_of_pos e, List.filter_cons_of_neg (by simp [e])]
      exact ⟨by rw [ih.1], ih.2⟩
    · have hn : ∀ b ∈ l, p b = false := fun b hb => by
        cases hpb : p b
        · rfl
        · exact absurd (h.1 b hb hpb) e
      rw [List.takeWhile_cons_of_neg e, List.dropWhile_cons_of_neg e, List.filter_cons_of_neg e, List.filter_cons_of_pos (by simpa using e)]
      refine ⟨(List.filter_eq_nil_iff.2 fun b hb => by simp [hn b hb]).symm, ?_⟩
      rw [List.filter_eq_self.2 fun b hb => by simp [hn b hb]]
theorem ringL_ord (h : Fit n last L) (g : Int) (c : Nat) : (ringL L c).Pairwise fun a b => dnB g b = true → dnB g a = true := by
  unfold ringL
  rw [List.pairwise_map]
  refine (h.ord.filter _).imp fun {a b} hab hb => ?_
  simp only [dnB, Bool.and_eq_true, decide_eq_true_eq] at hb ⊢
  have := hab hb.1
  exact ⟨this.1, by omega⟩
theorem tell_ringsL (h : Fit n last L) (g : Int) : tellL g (ringsL n L) = tell3 g L n := by
  unfold tellL ringsL tell3
  rw [List.map_map]
  congr 1
  refine List.map_congr_left fun c _ => ?_
  simp only [Function.comp, dnL, tellC]
  rw [(take_filter' _ _ (ringL_ord h g c)).1]
  unfold ringL
  rw [List.filter_map, List.filter_filter, List.map_map]
  refine congr (congrArg List.map rfl) (List.filter_congr fun x hx => ?_)
  have := h.gen x hx
  simp only [Function.comp, dnB, dn3]
  by_cases e : x.1 = c
  · have : decide (x.2.2 ≠ 0) = decide (0 < x.2.2) := decide_eq_decide.2 (by omega)
    rw [this]; simp [e]
  · have e1 : (x.1 == c) = false := by rw [beq_eq_false_iff_ne]; exact e
    rw [e1]; simp
theorem left_ringsL (h : Fit n last L) (g : Int) : (ringsL n L).map (lfL g) = ringsL n (left3 g L) := by
  unfold ringsL
  rw [List.map_map]
  refine List.map_congr_left fun c _ => ?_
  simp only [Function.comp, lfL]
  rw [(take_filter' _ _ (ringL_ord h g c)).2]
  unfold ringL left3
  rw [List.filter_map, List.filter_filter, List.filter_filter]
  refine congr (congrArg List.map rfl) (List.filter_congr fun x hx => ?_)
  have := h.gen x hx
  simp only [Function.comp, dnB, lf3]
  by_cases e : x.1 = c
  · by_cases e2 : x.2.2 = 0
    · simp [e, e2]
    · by_cases e3 : g < x.2.2
      · simp [e, e2, e3]
      · simp [e, e2, e3]; omega
  · have e1 : (x.1 == c) = false := by rw [beq_eq_false_iff_ne]; exact e
    rw [e1]; simp
theorem Fit.left (h : Fit n last L) (g : Int) : Fit n last (left3 g L) := by
  unfold left3
  refine ⟨fun x hx => h.cpu x (List.mem_filter.1 hx).1, fun x hx => h.gen x (List.mem_filter.1 hx).1, h.ord.filter _, fun c => Nat.le_trans ?_ (h.room c), h.nn⟩
  unfold cnt3
  exact ((List.filter_sublist (l := L) (p := lf3 g)).filter _).length_le
/-! ### All rings together -/
theorem perm_filter_lt (L : List C3) : ∀ n, ((List.range n).map fun c => L.filter fun x => x.1 == c).flatten.Perm (L.filter fun x => decide (x.1 < n))
  | 0 => by simp
  | n + 1 => by
    rw [List.range_succ, List.map_append, List.flatten_append]
    refine (List.Perm.append_right _ (perm_filter_lt L n)).trans ?_
    simp only [List.map_cons, List.map_nil, List.flatten_cons, List.flatten_nil, List.append_nil]
    have := List.filter_append_perm (fun x : C3 => decide (x.1 < n)) (L.filter fun x => decide (x.1 < n + 1))
    rw [List.filter_filter, List.filter_filter] at this
    rw [show (L.filter fun x => decide (x.1 < n) && decide (x.1 < n + 1)) = L.filter fun x => decide (x.1 < n) from List.filter_congr fun x _ => by
      by_cases e : x.1 < n
      · simp [e, show x.1 < n + 1 by omega]
      · simp [e]] at this
    rw [show (L.filter fun x => (!decide (x.1 < n)) && decide (x.1 < n + 1)) = L.filter fun x => x.1 == n from List.filter_congr fun x _ => by
      by_cases e : x.1 = n
      · simp [e]
      · by_cases e2 : x.1 < n
        · simp [e2]; omega
        · simp [show ¬ x.1 < n + 1 by omega, e]] at this
    exact this
theorem ringsL_perm (h : Fit n last L) : (ringsL n L).flatten.Perm (L.map (·.2)) := by
  have h1 := (perm_filter_lt L n).map (fun x : C3 => x.2)
  rw [List.filter_eq_self.2 fun x hx => by simpa using h.cpu x hx, List.map_flatten, List.map_map] at h1
  exact h1
theorem openC_ringsL (h : Fit n last L) : openC (ringsL n L).flatten = open3 L := by
  unfold openC open3
  rw [((ringsL_perm h).filter _).length_eq, List.filter_map, List.length_map]; rfl
theorem len_ringsL (h : Fit n last L) : (ringsL n L).flatten.length = L.length := by
  rw [(ringsL_perm h).length_eq, List.length_map]
theorem newC_ringsL (h : Fit n last L) : newC (ringsL n L).flatten = most3 L := by
  unfold newC most3
  rw [List.Perm.foldl_eq' (ringsL_perm h) (fun x _ y _ z => by show max (max z x.2) y.2 = max (max z y.2) x.2; omega), List.foldl_map]
end
end Go.Proofs.Ytllnncojafcdoaa
