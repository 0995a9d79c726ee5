/- What handles find: the plain part of ArenaFinds. -/
import Derived.Test.YtanidaepfepppaaDoorArM
namespace Go.Proofs.YtanidaepfepppaaDoor

/-- A handle that was told: its slot, its generation, the thing, whether it was freed. -/
structure Ent (α : Type) where
  s : Nat
  g : Nat
  x : α
  gone : Bool
section
variable {α : Type}
structure FindsOk (l : List (Slot α)) (t : List (Ent α)) : Prop where
  slot : ∀ k (h : k < t.length), ∃ hs : t[k].s < l.length, (t[k].gone = true → t[k].g < l[t[k].s].gen) ∧ (t[k].gone = false → l[t[k].s].used = true ∧ l[t[k].s].gen = t[k].g ∧ l[t[k].s].x = t[k].x)
  one : ∀ i j (hi : i < t.length) (hj : j < t.length), t[i].s = t[j].s → t[i].g = t[j].g → i = j
theorem FindsOk.nil (l : List (Slot α)) : FindsOk l [] := ⟨fun _ h => (by cases h), fun _ _ h => (by cases h)⟩
theorem Slot.open_iff (s : Slot α) : s.open = true ↔ s.used = false ∧ s.gen ≤ 255 := by
  unfold Slot.open
  simp
/-- A new handle is none that was told. -/
theorem FindsOk.fresh {l : List (Slot α)} {t : List (Ent α)} (h : FindsOk l t) {i : Nat} (hi : i < l.length) (ho : l[i].open = true) (k : Nat) (hk : k < t.length) : ¬ (t[k].s = i ∧ t[k].g = l[i].gen) := by
  rintro ⟨h1, h2⟩
  obtain ⟨hs, ha, hb⟩ := h.slot k hk
  obtain ⟨u, _⟩ := (Slot.open_iff _).1 ho
  subst h1
  cases hg : t[k].gone with
  | true => have := ha hg; omega
  | false => have := (hb hg).1; rw [u] at this; cases this
/-- One is put. -/
theorem FindsOk.put {l : List (Slot α)} {t : List (Ent α)} (h : FindsOk l t) {i : Nat} (hi : i < l.length) (ho : l[i].open = true) (x : α) : FindsOk (l.set i ⟨l[i].gen, true, x⟩) (t ++ [⟨i, l[i].gen, x, false⟩]) := by
  obtain ⟨u, _⟩ := (Slot.open_iff _).1 ho
  refine ⟨fun k hk => ?_, fun a b ha hb hs hg => ?_⟩
  · rw [List.length_append, List.length_singleton] at hk
    by_cases hkt : k < t.length
    · rw [List.getElem_append_left hkt]
      obtain ⟨hs, h1, h2⟩ := h.slot k hkt
      refine ⟨by rw [List.length_set]; exact hs, ?_⟩
      by_cases e : i = t[k].s
      · have hgone : t[k].gone = true := by
          cases hg : t[k].gone with
          | true => rfl
          | false =>
            have h3 := (h2 hg).1
            simp only [← e] at h3
            rw [u] at h3; cases h3
        have h4 := h1 hgone
        simp only [← e] at h4 ⊢
        rw [List.getElem_set_self]
        exact ⟨fun _ => h4, fun h5 => by rw [hgone] at h5; cases h5⟩
      · rw [List.getElem_set_ne e]
        exact ⟨h1, h2⟩
    · obtain rfl : k = t.length := by omega
      simp only [List.getElem_concat_length]
      refine ⟨by rw [List.length_set]; exact hi, fun h5 => (by cases h5), fun _ => ?_⟩
      rw [List.getElem_set_self]
      exact ⟨rfl, rfl, rfl⟩
  · rw [List.length_append, List.length_singleton] at ha hb
    by_cases hat : a < t.length
    · by_cases hbt : b < t.length
      · rw [List.getElem_append_left hat, List.getElem_append_left hbt] at hs hg
        exact h.one a b hat hbt hs hg
      · obtain rfl : b = t.length := by omega
        rw [List.getElem_append_left hat] at hs hg
        simp only [List.getElem_concat_length] at hs hg
        exact absurd ⟨hs, hg⟩ (h.fresh hi ho a hat)
    · obtain rfl : a = t.length := by omega
      by_cases hbt : b < t.length
      · rw [List.getElem_append_left hbt] at hs hg
        simp only [List.getElem_concat_length] at hs hg
        exact absurd ⟨hs.symm, hg.symm⟩ (h.fresh hi ho b hbt)
      · omega
/-- What a told handle finds. -/
theorem FindsOk.find {l : List (Slot α)} {t : List (Ent α)} (h : FindsOk l t) (k : Nat) (hk : k < t.length) : findE l (t[k].s : Int) (t[k].g : Int) = if t[k].gone = true then 7 else 0 := by
  obtain ⟨hs, h1, h2⟩ := h.slot k hk
  unfold findE
  rw [if_neg (by omega), Int.toNat_natCast, List.getElem?_eq_getElem hs, Option.any_some]
  cases hg : t[k].gone with
  | true =>
    have := h1 hg
    rw [if_neg (by simp only [Bool.and_eq_true, decide_eq_true_eq, not_and]; intro _; omega)]
    rfl
  | false =>
    obtain ⟨h3, h4, _⟩ := h2 hg
    rw [if_pos (by simp only [Bool.and_eq_true, decide_eq_true_eq]; exact ⟨h3, by omega⟩)]
    rfl
/-- A told handle is freed. -/
theorem FindsOk.free {l : List (Slot α)} {t : List (Ent α)} (h : FindsOk l t) (k : Nat) (hk : k < t.length) (hg : t[k].gone = false) (z : α) : FindsOk (freeAt z l t[k].s) (t.set k ⟨t[k].s, t[k].g, t[k].x, true⟩) := by
  obtain ⟨hs, _, h2⟩ := h.slot k hk
  obtain ⟨hu, hgen, _⟩ := h2 hg
  have hf : freeAt z l t[k].s = l.set t[k].s ⟨l[t[k].s].gen + 1, false, z⟩ := modify_set l _ hs _
  rw [hf]
  refine ⟨fun j hj => ?_, fun a b ha hb he1 he2 => ?_⟩
  · rw [List.length_set] at hj
    by_cases e : k = j
    · subst e
      rw [List.getElem_set_self]
      refine ⟨by rw [List.length_set]; exact hs, fun _ => ?_, fun h5 => by cases h5⟩
      rw [List.getElem_set_self]
      show t[k].g < l[t[k].s].gen + 1
      omega
    · rw [List.getElem_set_ne e]
      obtain ⟨hs2, h3, h4⟩ := h.slot j hj
      refine ⟨by rw [List.length_set]; exact hs2, ?_⟩
      by_cases es : t[k].s = t[j].s
      · have hgone : t[j].gone = true := by
          cases hgj : t[j].gone with
          | true => rfl
          | false =>
            obtain ⟨_, h6, _⟩ := h4 hgj
            simp only [← es] at h6
            exact absurd (h.one k j hk hj es (by rw [← hgen, ← h6])) e
        have h7 := h3 hgone
        simp only [← es] at h7 ⊢
        rw [List.getElem_set_self]
        exact ⟨fun _ => by show t[j].g < l[t[k].s].gen + 1; omega, fun h5 => by rw [hgone] at h5; cases h5⟩
      · rw [List.getElem_set_ne es]
        exact ⟨h3, h4⟩
  · rw [List.length_set] at ha hb
    have e1 : ∀ j (hj : j < t.length), ((t.set k ⟨t[k].s, t[k].g, t[k].x, true⟩)[j]'(by rw [List.length_set]; exact hj)).s = t[j].s := fun j hj => by
      rw [List.getElem_set]
      split
      · rename_i e; subst e; rfl
      · rfl
    have e2 : ∀ j (hj : j < t.length), ((t.set k ⟨t[k].s, t[k].g, t[k].x, true⟩)[j]'(by rw [List.length_set]; exact hj)).g = t[j].g := fun j hj => by
      rw [List.getElem_set]
      split
      · rename_i e; subst e; rfl
      · rfl
    rw [e1 a ha, e1 b hb] at he1
    rw [e2 a ha, e2 b hb] at he2
    exact h.one a b ha hb he1 he2
end
end Go.Proofs.YtanidaepfepppaaDoor
