/- Plain mathematics of the law ScanEnds. -/
import Derived.Test.YtefippjakkgjkaaDoorLaw10
import Derived.Test.YtefippjakkgjkaaDoorMaskQ
namespace Go.Proofs.YtefippjakkgjkaaDoor
open Go.RowKit Go.Shelf

theorem SSt.exi_dep {S : SSt} (h : S.Ok) (k : Nat) (hk : k < 64) (j : Nat) : (S.exi (k : Int)).dep j = if k = j then S.dep j - 1 else S.dep j := by
  have hl : k < S.rs.length := by rw [h.len]; exact hk
  unfold SSt.exi
  rw [if_pos (by omega), Int.toNat_natCast]
  split
  · split
    · rename_i h0 e; subst e; omega
    · rfl
  · split
    · rw [SSt.dep_set _ _ _ _ _ hl]; split
      · rename_i h0 h1 e; subst e; rw [h1]
      · rfl
    · rw [SSt.dep_set _ _ _ _ _ hl]; split
      · rename_i h0 h1 e; subst e; rfl
      · rfl
theorem SSt.ent_st_le (S : SSt) (r : Int) : S.st ≤ (S.ent r).st := by
  unfold SSt.ent
  split
  · split
    · exact Nat.le_refl _
    · split
      · exact Nat.le_succ _
      · exact Nat.le_refl _
  · exact Nat.le_refl _
/-- Every section that is open began behind the stamp b. -/
def Late (b : Nat) (T : SSt) : Prop := ∀ r : Nat, r < 64 → 0 < T.dep r → b < T.sin r
theorem Late.ent {b : Nat} {T : SSt} (h : Late b T) (hok : T.Ok) (hb : b ≤ T.st) (r : Int) : Late b (T.ent r) := by
  unfold SSt.ent
  split
  · rename_i hr
    have hl : r.toNat < T.rs.length := by rw [hok.len]; omega
    split
    · exact h
    · split
      · intro j hj hd
        rw [SSt.dep_set _ _ _ _ _ hl] at hd
        rw [SSt.sin_set _ _ _ _ _ hl]
        split
        · show b < T.st + 1; omega
        · rename_i e; rw [if_neg e] at hd; exact h j hj hd
      · rename_i h8 h0
        intro j hj hd
        rw [SSt.dep_set _ _ _ _ _ hl] at hd
        rw [SSt.sin_set _ _ _ _ _ hl]
        split
        · exact h r.toNat (by omega) (by omega)
        · rename_i e; rw [if_neg e] at hd; exact h j hj hd
  · exact h
theorem Late.look {T : SSt} {c : ScSt} (h : Late c.began T) (hok : T.Ok) (r : Nat) (hr : r < 64) (hb : c.left.testBit r = true) : look T c (r : Int) = { c with left := withoutN c.left [(r : Int)] } := by
  have hB : lookB T c (r : Int) = true := by
    have hs : T.sinI r = (T.sin r : Nat) := by unfold SSt.sinI; rw [if_pos (by omega), Int.toNat_natCast]
    have hh : hasN c.left (r : Int) = true := by simp only [hasN, Int.toNat_natCast, hb, Bool.and_true, decide_eq_true_eq]; omega
    unfold lookB
    rw [hh, hs, Bool.true_and, Bool.not_eq_true', Bool.and_eq_false_iff, decide_eq_false_iff_not, decide_eq_false_iff_not]
    by_cases hd : 0 < T.dep r
    · have := h r hr hd; exact .inr (by omega)
    · have := hok.zero r (by omega); exact .inl (by omega)
  unfold Proofs.YtefippjakkgjkaaDoor.look
  rw [if_pos hB]
theorem lenN_remove (m r : Nat) (hr : r < 64) (hb : m.testBit r = true) : lenN (withoutN m [(r : Int)]) + 1 = lenN m := by
  have e : listN (withoutN m [(r : Int)]) = (listN m).filter (fun j => j != r) := by
    unfold listN
    rw [List.filter_filter]
    apply List.filter_congr
    intro j hj
    rw [testBit_withoutN j (List.mem_range.1 hj), Bool.and_comm]
    congr 1
    by_cases ej : j = r
    · subst ej; simp
    · have : ¬ (j : Int) = (r : Int) := by omega
      simp [ej, this]
  have hm : r ∈ listN m := (mem_listN m r).2 ⟨hr, hb⟩
  have hn : (listN m).Nodup := (listN_sorted m).imp (fun h => Nat.ne_of_lt h)
  have h1 := List.length_erase_of_mem hm
  rw [hn.erase_eq_filter r] at h1
  have := List.length_pos_of_mem hm
  unfold lenN
  rw [e]; omega
theorem Late.pst {T : SSt} {c : ScSt} (h : Late c.began T) (hok : T.Ok) (h0 : 0 < lenN c.left) : lenN (pstep T c).left + 1 = lenN c.left := by
  obtain ⟨j, hj, his, hv⟩ := around_first c.left c.place (by intro e; simp [lenN, e] at h0)
  have hg := listN_get c.left j hj
  unfold Proofs.YtefippjakkgjkaaDoor.pstep
  rw [if_pos his, hv, h.look hok _ hg.1 hg.2]
  exact lenN_remove _ _ hg.1 hg.2
theorem Late.psts {T : SSt} (hok : T.Ok) : ∀ (n : Nat) {c : ScSt}, Late c.began T → lenN (psteps T n c).left = lenN c.left - n
  | 0, _, _ => rfl
  | n + 1, c, h => by
    by_cases h0 : 0 < lenN c.left
    · have h1 := h.pst hok h0
      have h2 := Late.psts hok n (c := pstep T c) (by rw [pstep_began]; exact h)
      rw [psteps, h2]; omega
    · rw [psteps_stop T _ c (around_none _ _ (List.eq_nil_of_length_eq_zero (show lenN c.left = 0 by omega)))]; omega
theorem Late.polled {T : SSt} {c : ScSt} (h : Late c.began T) (hok : T.Ok) (n : Nat) : lenN (poll T c (n : Int)).left = lenN c.left - n := by
  have := Late.psts hok (pollN c (n : Int)) h
  unfold poll
  rw [this]
  unfold pollN
  omega
/-- The first k of a list of readers have left; who is inside was so ahead. -/
structure Outs (m : Nat) (k : Nat) (T : SSt) : Prop where
  gone : ∀ j, j < k → j < lenN m → T.dep ((listN m).getD j 0) = 0
  sub : ∀ r, r < 64 → 0 < T.dep r → m.testBit r = true
theorem Outs.start {S : SSt} (h : S.Ok) : Outs S.m 0 S := by
  refine ⟨fun j hj => absurd hj (Nat.not_lt_zero _), fun r hr hd => ?_⟩
  have := h.bits r hr
  rw [decide_eq_true hd] at this
  simp only [hasN, Int.toNat_natCast, Bool.and_eq_true] at this
  exact this.2
theorem Outs.exi {m k : Nat} {T : SSt} (h : Outs m k T) (hok : T.Ok) (r : Nat) (hr : r < 64) : Outs m k (T.exi (r : Int)) := by
  refine ⟨fun j hj hl => ?_, fun q hq hd => ?_⟩
  · rw [SSt.exi_dep hok r hr]
    have := h.gone j hj hl
    split <;> omega
  · rw [SSt.exi_dep hok r hr] at hd
    refine h.sub q hq ?_
    split at hd <;> omega
theorem Outs.next {m k : Nat} {T : SSt} (h : Outs m k T) (h0 : T.dep ((listN m).getD k 0) = 0) : Outs m (k + 1) T :=
  ⟨fun j hj hl => by
    by_cases e : j = k
    · subst e; exact h0
    · exact h.gone j (by omega) hl, h.sub⟩
theorem Outs.late {m : Nat} {T : SSt} (h : Outs m (lenN m) T) (b : Nat) : Late b T := by
  intro r hr hd
  have hm := (mem_listN m r).2 ⟨hr, h.sub r hr hd⟩
  obtain ⟨j, hj, e⟩ := List.getElem_of_mem hm
  have := h.gone j hj hj
  have e2 : (listN m).getD j 0 = r := by simp [List.getD, hj, e]
  rw [e2] at this
  omega
end Go.Proofs.YtefippjakkgjkaaDoor
