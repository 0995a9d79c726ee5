/- GraceEnds in plain mathematics: how many polls are enough. -/
import Derived.Test.YtefippjakkgjkaaDoorHoldN
import Derived.Test.YtefippjakkgjkaaDoorEndsM
namespace Go.Proofs.YtefippjakkgjkaaDoor
open Go.RowKit

theorem GOk.turn0 {i : Nat} {G : GSt} {d : Nat} (h : GOk i G d) {T : SSt} (ht : Turn G.S T) (hT : T.Ok) (hst : T.st ≤ i) : GOk i { G with S := T } d :=
  ⟨hT, h.len, h.d0, h.b1, h.dn, h.idle, h.busy, h.last, h.d1.turn ht h.d2, Nat.le_trans h.d2 ht.st, hst, fun y hy => ⟨Nat.le_trans (h.scan y hy).1 ht.st, (h.scan y hy).2.1, (h.scan y hy).2.2.turn ht (h.scan y hy).1⟩, h.open', h.half⟩
theorem SSt.exiE_pos {S : SSt} {r : Nat} (hr : r < 64) (h : S.dep r ≠ 0) : S.exiE (r : Int) = 0 := by
  unfold SSt.exiE
  rw [if_pos (by omega), Int.toNat_natCast, if_neg h]
/-- Does nobody want a further generation? -/
def quietQ (G : GSt) : Prop := K.openC G.R.flatten = 0 ∧ G.want ≤ G.began
instance (G : GSt) : Decidable (quietQ G) := by unfold quietQ; infer_instance
/-- How many polls are wanted, when nobody is inside. -/
def rank (G : GSt) : Nat := match G.sc with
  | none => if quietQ G then 0 else 2
  | some y => (if lenN y.2.left ≤ 16 then 1 else (lenN y.2.left + 15) / 16) + (if quietQ G then 0 else 1)
theorem lenN_le (m : Nat) : lenN m ≤ 64 := by
  unfold lenN listN
  have := List.length_filter_le (m.testBit ·) (List.range 64)
  rwa [List.length_range] at this
theorem rank_le (G : GSt) : rank G ≤ 5 := by
  unfold rank
  split
  · split <;> omega
  · rename_i y _
    have := lenN_le y.2.left
    split <;> split <;> omega
/-- Nobody is inside. -/
def Nobody (S : SSt) : Prop := ∀ r : Nat, r < 64 → S.dep r = 0
theorem Nobody.m {S : SSt} (h : Nobody S) (hok : S.Ok) : S.m = 0 := by
  apply Nat.eq_of_testBit_eq
  intro j
  rw [Nat.zero_testBit]
  by_cases hj : j < 64
  · have hb := hok.bits j hj
    rw [h j hj] at hb
    simp only [hasN, Int.toNat_natCast] at hb
    cases ht : S.m.testBit j with
    | false => rfl
    | true =>
      rw [ht, Bool.and_true] at hb
      have h0 : (0 : Int) ≤ (j : Int) ∧ (j : Int) < 64 := by omega
      rw [decide_eq_true h0] at hb
      simp at hb
  · exact testBit_high _ j hok.word (by omega)
theorem Nobody.late {S : SSt} (h : Nobody S) (b : Nat) : Late b S := fun r hr hd => by have := h r hr; omega
theorem closed_open (g : Int) (hg : g ≠ 0) (R : List (List K.Cl)) : K.openC (K.closeL g R).flatten = 0 := by
  unfold K.openC
  rw [List.length_eq_zero_iff, List.filter_eq_nil_iff]
  intro c hc
  obtain ⟨l, hl, hc⟩ := List.mem_flatten.1 hc
  obtain ⟨zs, hz, rfl⟩ := closeL_mem hl
  obtain ⟨q, hq, rfl⟩ := List.mem_map.1 hc
  unfold K.clo
  by_cases e : q.2 = 0
  · rw [if_pos e]; simpa using hg
  · rw [if_neg e]; simpa using e
theorem openC_zero {l : List K.Cl} (h : K.openC l = 0) : ∀ c ∈ l, c.2 ≠ 0 := by
  unfold K.openC at h
  rw [List.length_eq_zero_iff, List.filter_eq_nil_iff] at h
  intro c hc e
  exact h c hc (by simp [e])
theorem lf_open {g : Int} {R : List (List K.Cl)} (hg : 0 < g) (hh : ∀ xs ∈ R, Half g xs) : K.openC (R.map (K.lfL g)).flatten = K.openC R.flatten := by
  induction R with
  | nil => rfl
  | cons xs R ih =>
    have ih := ih fun x hx => hh x (List.mem_cons_of_mem _ hx)
    obtain ⟨A, B, rfl, hA, hB⟩ := hh xs List.mem_cons_self
    unfold K.openC at ih ⊢
    rw [List.map_cons, List.flatten_cons, List.flatten_cons, List.filter_append, List.filter_append, List.length_append, List.length_append, ih, (half_split hg hA hB).2, List.filter_append, List.length_append]
    have : A.filter (fun c => decide (c.2 = 0)) = [] := by
      rw [List.filter_eq_nil_iff]; intro c hc; rw [hA c hc]; simp; omega
    rw [this]; simp
section
variable {i d : Nat} {G : GSt}
theorem lookS_want (G : GSt) : G.lookS.1.want = G.want ∧ G.lookS.1.began = G.began ∧ G.lookS.1.S = G.S := by
  rcases look_cases G with ⟨_, e⟩ | ⟨y, hs, ⟨h0, e⟩ | ⟨_, e⟩⟩ <;> rw [e] <;> exact ⟨rfl, rfl, rfl⟩
theorem begS_want (G : GSt) (x : Nat) : (G.begS x).want = G.want ∧ G.began ≤ (G.begS x).began ∧ (G.begS x).S = G.S ∧ (G.begS x).R.flatten.length = G.R.flatten.length := by
  rcases beg_cases G x with ⟨e, _⟩ | ⟨_, _, e⟩ <;> rw [e]
  · exact ⟨rfl, Int.le_refl _, rfl, rfl⟩
  · refine ⟨rfl, (by show G.began ≤ G.began + 1; omega), rfl, ?_⟩
    have := congrArg List.length (closeL_fst (G.began + 1) G.R)
    rwa [List.length_map, List.length_map] at this
theorem lookS_len (G : GSt) : G.lookS.2.length + G.lookS.1.R.flatten.length = G.R.flatten.length := by
  have hp := (tell_perm G.began G.R).length_eq
  rw [List.length_append, List.length_map, List.length_map] at hp
  rcases look_cases G with ⟨_, e⟩ | ⟨y, hs, ⟨h0, e⟩ | ⟨_, e⟩⟩ <;> rw [e]
  · exact Nat.zero_add _
  · exact hp
  · exact Nat.zero_add _
theorem rank_beg (h : GOk i G d) (hN : Nobody G.S) (hs : G.sc = none) (hw : G.want ≤ G.began + 1) (_hq : ¬ quietQ G) (x : Nat) : rank (G.beg x) = 1 := by
  have hd := h.d0; have hid := h.idle hs
  have hq2 : quietQ (G.beg x) := ⟨closed_open _ (by omega) _, hw⟩
  have e : rank (G.beg x) = (if lenN G.S.m ≤ 16 then 1 else (lenN G.S.m + 15) / 16) + (if quietQ (G.beg x) then 0 else 1) := rfl
  rw [e, if_pos hq2, hN.m h.sok]
  rfl
theorem rank_none {G : GSt} (hs : G.sc = none) : rank G = if quietQ G then 0 else 2 := by unfold rank; rw [hs]
theorem rank_some {G : GSt} {y : Nat × ScSt} (hs : G.sc = some y) : rank G = (if lenN y.2.left ≤ 16 then 1 else (lenN y.2.left + 15) / 16) + (if quietQ G then 0 else 1) := by unfold rank; rw [hs]
theorem begS_none (G : GSt) (hs : G.sc = none) (x : Nat) : G.begS x = if quietQ G then G else G.beg x := by
  unfold GSt.begS
  by_cases hq : quietQ G
  · rw [if_pos (.inr hq), if_pos hq]
  · rw [if_neg hq, if_neg]
    rintro (h | h)
    · rw [hs] at h; cases h
    · exact hq h
theorem begS_some (G : GSt) {y : Nat × ScSt} (hs : G.sc = some y) (x : Nat) : G.begS x = G := by
  unfold GSt.begS
  rw [if_pos (.inl (by rw [hs]; rfl))]
/-- **A poll goes on.** -/
theorem rank_poll (h : GOk i G d) (hN : Nobody G.S) (hw : G.want ≤ G.began + 1) (x : Nat) : rank (G.lookS.1.begS x) ≤ rank G - 1 := by
  rcases look_cases G with ⟨hs, e⟩ | ⟨y, hs, ⟨h0, e⟩ | ⟨h0, e⟩⟩
  · rw [e, begS_none G hs, rank_none hs]
    by_cases hq : quietQ G
    · rw [if_pos hq, if_pos hq, rank_none hs, if_pos hq]; exact Nat.zero_le _
    · rw [if_neg hq, if_neg hq, rank_beg h hN hs hw hq]; decide
  · have hb := h.busy y hs
    have hd := h.d0
    have hov := h.over hs h0
    have hop := lf_open (g := G.began) (by omega) (h.half y hs)
    have hqq : quietQ { G with sc := none, done := G.began, R := G.R.map (K.lfL G.began) } ↔ quietQ G := by
      unfold quietQ; simp only [hop]
    rw [e, begS_none _ rfl, rank_some hs]
    by_cases hq : quietQ G
    · rw [if_pos (hqq.2 hq), rank_none rfl, if_pos (hqq.2 hq)]; exact Nat.zero_le _
    · rw [if_neg (fun hh => hq (hqq.1 hh)), rank_beg hov hN rfl hw (fun hh => hq (hqq.1 hh)), if_neg hq]
      split <;> omega
  · have hp := (hN.late y.2.began).polled h.sok 16
    rw [show ((16 : Nat) : Int) = 16 from rfl] at hp
    rw [hp] at h0
    rw [e, begS_some _ (y := (y.1, poll G.S y.2 16)) rfl, rank_some (y := (y.1, poll G.S y.2 16)) rfl, rank_some hs]
    have hqq : quietQ { G with sc := some (y.1, poll G.S y.2 16) } ↔ quietQ G := Iff.rfl
    rw [show lenN (poll G.S y.2 16).left = lenN y.2.left - 16 from hp, if_neg (show ¬ lenN y.2.left ≤ 16 by omega)]
    by_cases hq : quietQ G
    · rw [if_pos (hqq.2 hq), if_pos hq]; split <;> omega
    · rw [if_neg (fun hh => hq (hqq.1 hh)), if_neg hq]; split <;> omega
/-- What holds in the end. -/
theorem rank_end (h : GOk i G d) (h0 : rank G = 0) : G.sc = none ∧ G.R.flatten = [] ∧ G.want ≤ G.done := by
  cases hs : G.sc with
  | some y => rw [rank_some hs] at h0; split at h0 <;> omega
  | none =>
    rw [rank_none hs] at h0
    by_cases hq : quietQ G
    · refine ⟨rfl, ?_, by rw [h.idle hs]; exact hq.2⟩
      apply List.eq_nil_iff_forall_not_mem.2
      intro c hc
      obtain ⟨l, hl, hcl⟩ := List.mem_flatten.1 hc
      exact openC_zero hq.1 c hc (h.open' hs l hl c hcl)
    · rw [if_neg hq] at h0; cases h0
/-- What holds while GraceEnds goes. -/
structure EOk (i : Nat) (G : GSt) (d called told : Nat) : Prop where
  ok : GOk i G d
  sum : called = told + G.R.flatten.length
  le : called ≤ 60
  want : G.want ≤ G.began + 1
theorem getD_le (R : List (List K.Cl)) (c : Nat) : (R.getD c []).length ≤ R.flatten.length := by
  by_cases h : c < R.length
  · have e : R.getD c [] = R[c] := by simp [List.getD, h]
    rw [e]
    have := List.sublist_flatten_of_mem (List.getElem_mem h)
    exact this.length_le
  · have e : R.getD c [] = [] := by simp [List.getD, h]
    rw [e]; exact Nat.zero_le _
variable {called told : Nat}
theorem EOk.turn (h : EOk i G d called told) {T : SSt} (ht : Turn G.S T) (hT : T.Ok) : EOk (i + 1) { G with S := T } d called told := ⟨h.ok.turn ht hT, h.sum, h.le, h.want⟩
theorem EOk.exi (h : EOk i G d called told) (k : Nat) (hk : k < 64) : EOk i { G with S := G.S.exi (k : Int) } d called told :=
  ⟨h.ok.turn0 (Turn.exi h.ok.sok k hk) (h.ok.sok.exi k) (by rw [SSt.exi_st]; exact h.ok.st), h.sum, h.le, h.want⟩
theorem EOk.room (h : EOk i G d called told) (c : Nat) : (G.R.getD c []).length < 64 := by
  have h1 := getD_le G.R c
  have h2 := h.sum; have h3 := h.le
  omega
theorem EOk.call (h : EOk i G d called told) (c : Nat) (hc : c < 4) (id : Int) (hl : called < 60) : EOk (i + 1) { G with R := G.R.set c (K.addR (G.R.getD c []) [id]) } d (called + 1) told := by
  rw [addR_one _ _ (h.room c)]
  refine ⟨(h.ok.call c hc id).up, ?_, hl, h.want⟩
  have := (set_perm (R := G.R) (c := c) (by rw [h.ok.len]; exact hc) (id, 0)).length_eq
  rw [List.length_cons] at this
  have h2 := h.sum
  show called + 1 = told + (G.R.set c (G.R.getD c [] ++ [(id, 0)])).flatten.length
  omega
theorem EOk.ticket (h : EOk i G d called told) : EOk (i + 1) { G with want := G.began + 1 } d called told := ⟨(h.ok.want _).up, h.sum, h.le, Int.le_refl _⟩
theorem EOk.poll (h : EOk i G d called told) (x : Nat) : ∃ d', EOk (i + 1) (G.lookS.1.begS x) d' called (told + G.lookS.2.length) := by
  obtain ⟨d', h1, _⟩ := h.ok.lookd
  have h2 := lookS_len G
  have h3 := begS_want G.lookS.1 x
  have h4 := lookS_want G
  have h5 := h.sum; have h6 := h.want
  refine ⟨d', h1.begS x, ?_, h.le, ?_⟩
  · rw [h3.2.2.2]; omega
  · rw [h3.1, h4.1]; have := h3.2.1; rw [h4.2.1] at this; omega
theorem EOk.tell (h : EOk i G d called told) : G.lookS.2.length ≤ 60 := by
  have h2 := lookS_len G; have h5 := h.sum; have h6 := h.le; omega
theorem EOk.start : EOk 0 (GSt.new 4) 0 0 0 := ⟨HOk.start.ok, rfl, by decide, by decide⟩
end
end Go.Proofs.YtefippjakkgjkaaDoor
