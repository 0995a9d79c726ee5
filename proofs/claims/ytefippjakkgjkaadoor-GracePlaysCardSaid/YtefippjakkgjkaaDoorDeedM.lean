/- Plain mathematics of deeds: what readers did, told from the beginning. -/
import Derived.Test.YtefippjakkgjkaaDoorSectM
namespace Go.Proofs.YtefippjakkgjkaaDoor

def SSt.step (S : SSt) (d : Int × Bool) : SSt := if d.2 then S.exi d.1 else S.ent d.1
def runD (l : List (Int × Bool)) : SSt := l.foldl SSt.step .init
def SSt.stepE (S : SSt) (d : Int × Bool) : Int := if d.2 then S.exiE d.1 else S.entE d.1
/-- Every deed could be done where it stands. -/
def Good (l : List (Int × Bool)) : Prop := ∀ k, (h : k < l.length) → (runD (l.take k)).stepE l[k] = 0
theorem runD_snoc (l : List (Int × Bool)) (d : Int × Bool) : runD (l ++ [d]) = (runD l).step d := by simp [runD, List.foldl_append]
theorem runD_succ (l : List (Int × Bool)) (k : Nat) (h : k < l.length) : runD (l.take (k + 1)) = (runD (l.take k)).step l[k] := by
  rw [List.take_succ_eq_append_getElem h, runD_snoc]
theorem SSt.Ok.step {S : SSt} (h : S.Ok) (d : Int × Bool) : (S.step d).Ok := by unfold SSt.step; split; · exact h.exi _
                                                                                exact h.ent _
theorem runD_ok (l : List (Int × Bool)) : (runD l).Ok := by
  unfold runD
  suffices ∀ (l : List (Int × Bool)) (S : SSt), S.Ok → (l.foldl SSt.step S).Ok from this l _ SSt.init_ok
  intro l
  induction l with
  | nil => intro S h; exact h
  | cons d l ih => intro S h; exact ih _ (h.step d)
theorem SSt.step_st (S : SSt) (d : Int × Bool) : (S.step d).st ≤ S.st + 1 := by
  unfold SSt.step; split
  · rw [SSt.exi_st]; omega
  · exact SSt.ent_st S d.1
theorem runD_st (l : List (Int × Bool)) : (runD l).st ≤ l.length := by
  unfold runD
  suffices ∀ (l : List (Int × Bool)) (S : SSt), (l.foldl SSt.step S).st ≤ S.st + l.length by have := this l .init; simpa [SSt.init] using this
  intro l
  induction l with
  | nil => intro S; simp
  | cons d l ih => intro S; have h1 := ih (S.step d); have h2 := S.step_st d; simp only [List.foldl_cons, List.length_cons]; omega
theorem Good.nil : Good [] := fun k h => absurd h (Nat.not_lt_zero k)
theorem Good.take {l : List (Int × Bool)} (h : Good l) (n : Nat) : Good (l.take n) := by
  intro k hk
  rw [List.length_take] at hk
  have := h k (by omega)
  rw [List.take_take, Nat.min_eq_left (by omega), List.getElem_take]
  exact this
theorem Good.snoc {l : List (Int × Bool)} (h : Good l) (d : Int × Bool) (hd : (runD l).stepE d = 0) : Good (l ++ [d]) := by
  intro k hk
  rw [List.length_append, List.length_singleton] at hk
  by_cases e : k < l.length
  · rw [List.take_append_of_le_length (by omega), List.getElem_append_left e]; exact h k e
  · obtain rfl : k = l.length := by omega
    rw [List.take_left, List.getElem_append_right (Nat.le_refl _)]; simpa using hd
/-- How deep a reader is, as the reference counts. -/
def dTo (l : List (Int × Bool)) (r : Int) : Int := l.foldl (fun n d => if d.1 = r ∧ d.2 = true then n - 1 else if d.1 = r then n + 1 else n) 0
theorem dTo_succ (l : List (Int × Bool)) (r : Int) (k : Nat) (h : k < l.length) : dTo (l.take (k + 1)) r = if l[k].1 = r ∧ l[k].2 = true then dTo (l.take k) r - 1 else if l[k].1 = r then dTo (l.take k) r + 1 else dTo (l.take k) r := by
  unfold dTo; rw [List.take_succ_eq_append_getElem h, List.foldl_append]; rfl
theorem dTo_bound (l : List (Int × Bool)) (r : Int) : ∀ k, k ≤ l.length → -(k : Int) ≤ dTo (l.take k) r ∧ dTo (l.take k) r ≤ k := by
  intro k
  induction k with
  | zero => intro _; simp [dTo]
  | succ k ih =>
    intro hk
    have := ih (by omega)
    rw [dTo_succ l r k hk]
    split
    · omega
    · split <;> omega
def SSt.depI (S : SSt) (r : Int) : Int := if 0 ≤ r ∧ r < 64 then (S.dep r.toNat : Nat) else 0
def SSt.sinI (S : SSt) (r : Int) : Int := if 0 ≤ r ∧ r < 64 then (S.sin r.toNat : Nat) else 0
/-- What a deed that can be done turns. -/
theorem SSt.Ok.stepped {S : SSt} (h : S.Ok) (d : Int × Bool) (hd : S.stepE d = 0) : ∃ k : Nat, d.1 = k ∧ k < 64 ∧
    ((d.2 = true ∧ 0 < S.dep k ∧ (S.step d).st = S.st ∧ ∀ j, (S.step d).dep j = (if k = j then S.dep k - 1 else S.dep j) ∧ (S.step d).sin j = (if k = j ∧ S.dep k = 1 then 0 else S.sin j)) ∨
     (d.2 = false ∧ S.dep k < 8 ∧ (S.step d).st = (if S.dep k = 0 then S.st + 1 else S.st) ∧ ∀ j, (S.step d).dep j = (if k = j then S.dep k + 1 else S.dep j) ∧ (S.step d).sin j = (if k = j ∧ S.dep k = 0 then S.st + 1 else S.sin j))) := by
  obtain ⟨r, o⟩ := d
  simp only [SSt.stepE, SSt.step] at *
  cases o with
  | true =>
    simp only [if_true] at *
    unfold SSt.exiE at hd
    split at hd
    · rename_i hr
      obtain ⟨k, rfl⟩ : ∃ k : Nat, r = k := ⟨r.toNat, by omega⟩
      rw [Int.toNat_natCast] at hd
      have hkl : k < S.rs.length := by rw [h.len]; omega
      split at hd
      · omega
      · rename_i h0
        refine ⟨k, rfl, by omega, .inl ⟨trivial, by omega, SSt.exi_st _ _, fun j => ?_⟩⟩
        unfold SSt.exi
        rw [if_pos hr, Int.toNat_natCast, if_neg h0]
        split
        · rename_i h1
          rw [SSt.dep_set _ _ _ _ _ hkl, SSt.sin_set _ _ _ _ _ hkl]
          refine ⟨?_, ?_⟩
          · split
            · simp only; omega
            · rfl
          · by_cases e : k = j
            · rw [if_pos e, if_pos ⟨e, h1⟩]
            · rw [if_neg e, if_neg (fun x => e x.1)]; rfl
        · rename_i h1
          rw [SSt.dep_set _ _ _ _ _ hkl, SSt.sin_set _ _ _ _ _ hkl]
          refine ⟨?_, ?_⟩
          · split
            · rfl
            · rfl
          · by_cases e : k = j
            · subst e; rw [if_pos rfl, if_neg (fun x => h1 x.2)]
            · rw [if_neg e, if_neg (fun x => e x.1)]; rfl
    · cases hd
  | false =>
    simp only [Bool.false_eq_true, if_false] at *
    unfold SSt.entE at hd
    split at hd
    · rename_i hr
      obtain ⟨k, rfl⟩ : ∃ k : Nat, r = k := ⟨r.toNat, by omega⟩
      rw [Int.toNat_natCast] at hd
      have hkl : k < S.rs.length := by rw [h.len]; omega
      have h8 := h.dep8 k
      split at hd
      · omega
      · rename_i h8'
        refine ⟨k, rfl, by omega, .inr ⟨trivial, by omega, ?_, fun j => ?_⟩⟩
        · unfold SSt.ent
          rw [if_pos hr, Int.toNat_natCast, if_neg h8']
          split <;> rfl
        · unfold SSt.ent
          rw [if_pos hr, Int.toNat_natCast, if_neg h8']
          split
          · rename_i h1
            rw [SSt.dep_set _ _ _ _ _ hkl, SSt.sin_set _ _ _ _ _ hkl]
            refine ⟨?_, ?_⟩
            · split
              · simp only; omega
              · rfl
            · by_cases e : k = j
              · rw [if_pos e, if_pos ⟨e, h1⟩]
              · rw [if_neg e, if_neg (fun x => e x.1)]; rfl
          · rename_i h1
            rw [SSt.dep_set _ _ _ _ _ hkl, SSt.sin_set _ _ _ _ _ hkl]
            refine ⟨?_, ?_⟩
            · split <;> rfl
            · by_cases e : k = j
              · subst e; rw [if_pos rfl, if_neg (fun x => h1 x.2)]
              · rw [if_neg e, if_neg (fun x => e x.1)]; rfl
    · cases hd
theorem dTo_run {l : List (Int × Bool)} (h : Good l) (r : Int) : ∀ k, k ≤ l.length → dTo (l.take k) r = (runD (l.take k)).depI r := by
  intro k
  induction k with
  | zero =>
    intro _
    show (0 : Int) = SSt.init.depI r
    unfold SSt.depI
    rw [SSt.init_dep]; split <;> rfl
  | succ k ih =>
    intro hk
    rw [dTo_succ l r k hk, runD_succ l k hk, ih (by omega)]
    obtain ⟨c, e1, e2, hc⟩ := (runD_ok (l.take k)).stepped l[k] (h k hk)
    unfold SSt.depI
    rcases hc with ⟨e3, e4, _, e5⟩ | ⟨e3, e4, _, e5⟩
    · rw [e1, e3, (e5 _).1]
      by_cases e : (c : Int) = r
      · subst e
        rw [if_pos ⟨rfl, rfl⟩, if_pos (by omega), if_pos (by omega), if_pos (by simp), Int.toNat_natCast]; omega
      · rw [if_neg (fun x => e x.1), if_neg e]
        split
        · rw [if_neg (by omega)]
        · rfl
    · rw [e1, e3, (e5 _).1]
      by_cases e : (c : Int) = r
      · subst e
        rw [if_neg (by simp), if_pos rfl, if_pos (by omega), if_pos (by omega), if_pos (by simp), Int.toNat_natCast]; omega
      · rw [if_neg (fun x => e x.1), if_neg e]
        split
        · rw [if_neg (by omega)]
        · rfl
theorem dTo_all {l : List (Int × Bool)} (h : Good l) (r : Int) : dTo l r = (runD l).depI r := by
  have := dTo_run h r l.length (Nat.le_refl _)
  rwa [List.take_length] at this
end Go.Proofs.YtefippjakkgjkaaDoor
