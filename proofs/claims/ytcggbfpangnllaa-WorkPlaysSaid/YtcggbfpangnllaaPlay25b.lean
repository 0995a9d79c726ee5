/- PendPlays: each function of the program, told by the document's lists. -/
import Derived.Test.YtcggbfpangnllaaPlay25
namespace Go.Proofs.Ytcggbfpangnllaa
open Go.RowKit i64

/-- What holds of the program while PendPlays goes: it stands as the document's lists say. -/
def PR (w : World) (p rb cap n : Nat) (pp bb : Nat → Nat) (Q Rn : List Th) (W : World) : Prop :=
  ∃ (fr fo : Nat → Int) (R : List (List Int)), PI w p rb cap n pp bb fr fo R W ∧ Rel25 n R Q ∧ RunR fr fo Rn
section
variable {w W W' : World} {p rb cap n : Nat} {pp bb : Nat → Nat} {Q Rn : List Th} {R : List (List Int)} {rest : List Value}
theorem PR.kept (h : PR w p rb cap n pp bb Q Rn W) (hk : Keeps W W') : PR w p rb cap n pp bb Q Rn W' := by
  obtain ⟨fr, fo, R, h1, h2, h3⟩ := h; exact ⟨fr, fo, R, h1.kept hk, h2, h3⟩
theorem PR.keeps (h : PR w p rb cap n pp bb Q Rn W) : Keeps w W := by obtain ⟨fr, fo, R, h1, h2, h3⟩ := h; exact h1.keeps
theorem PR.new (h : PR w p rb cap n pp bb Q Rn W) : ∀ k, Foot p rb n pp bb k → w.heap.size ≤ k := by obtain ⟨fr, fo, R, h1, h2, h3⟩ := h; exact h1.new
theorem PR.foot_lt (h : PR w p rb cap n pp bb Q Rn W) : ∀ k, Foot p rb n pp bb k → k < W.heap.size := by obtain ⟨fr, fo, R, h1, h2, h3⟩ := h; exact h1.at'.foot_lt
theorem PR.setM {M : Nat} (h : PR w p rb cap n pp bb Q Rn W) (hM : w.heap.size ≤ M) (hn : ¬ Foot p rb n pp bb M) (cs : Array Value) : PR w p rb cap n pp bb Q Rn (W.setRow M cs) := by
  obtain ⟨fr, fo, R, h1, h2, h3⟩ := h
  have hC : Chg (fun x => x = M) W (W.setRow M cs) := Chg.setRow _ rfl
  exact ⟨fr, fo, R, ⟨h1.at'.chg hC (fun x hx e => hn (e ▸ hx)), h1.ok, h1.new, Chg.keeps hC h1.keeps (fun x hx e => by omega)⟩, h2, h3⟩
theorem Rel25.out (h : Rel25 n R Q) (c : Int) (hc : c < 0 ∨ (n : Int) ≤ c) : quL Q c = [] := by
  unfold quL
  rw [List.map_eq_nil_iff, List.filter_eq_nil_iff]
  intro x hx
  obtain ⟨k, hk, h2⟩ := h.at' x hx
  have : ¬ x.2 = c := by omega
  simpa using this
theorem Rel25.qL (h : Rel25 n R Q) (hA : PendAt W p rb cap n pp bb rest R) (c : Int) : qL R c = quL Q c := by
  by_cases hc : c < 0 ∨ (n : Int) ≤ c
  · rw [qL_out hA c hc, h.out c hc]
  · obtain ⟨k, rfl⟩ : ∃ k : Nat, c = k := ⟨c.toNat, by omega⟩
    rw [qL_nat, h.q k (by omega)]
theorem PR.start {n : Nat} (h1 : 1 ≤ n) (h2 : n ≤ 64) (w : World) : Calls Try.prog 28 #[.int .i64 n] w fun e w' => ∃ p rb cap pp bb, e = .returned (.tuple #[.pointer (some ⟨p, 0, none⟩), .int .i64 0]) ∧ PR w p rb cap n pp bb [] [] w' := by
  refine (PI.start h1 h2 w).mono ?_
  rintro e w' ⟨p, rb, cap, pp, bb, he, hP⟩
  exact ⟨p, rb, cap, pp, bb, he, _, _, _, hP, Rel25.start n, RunR.start⟩
theorem PR.add (h : PR w p rb cap n pp bb Q Rn W) (c a b : Int) (sb : Nat) (hsb : sb = W.heap.size) :
    Calls Try.prog 32 #[.pointer (some ⟨p, 0, none⟩), .int .i64 c, .slice (some ⟨sb, 0, none⟩) 2 2] (W.alloc (.cells #[.int .i64 a, .int .i64 b] 3)) fun e W' => e = .returned (.int .i64 (addC n Q c [a, b]).2) ∧ PR w p rb cap n pp bb (addC n Q c [a, b]).1 Rn W' ∧ Chg (Foot p rb n pp bb) (W.alloc (.cells #[.int .i64 a, .int .i64 b] 3)) W' := by
  subst hsb
  obtain ⟨fr, fo, R, h1, h2, h3⟩ := h
  have hk := h1.kept (Keeps.alloc W (.cells #[.int .i64 a, .int .i64 b] 3))
  by_cases hc : c < 0 ∨ (n : Int) ≤ c
  · refine (padd_out hk.at' c hc _).mono ?_
    rintro e W' ⟨rfl, rfl⟩
    unfold addC
    rw [if_pos hc]
    exact ⟨rfl, ⟨fr, fo, R, hk, h2, h3⟩, Chg.refl _ _⟩
  · obtain ⟨k, rfl⟩ : ∃ k : Nat, c = k := ⟨c.toNat, by omega⟩
    have hv : Ints (W.alloc (.cells #[.int .i64 a, .int .i64 b] 3)) (.slice (some ⟨W.heap.size, 0, none⟩) 2 2) [a, b] := ints_new W 3 [a, b] (by simp [maxLen])
    obtain ⟨e1, e2⟩ := Rel25.add k (by omega) [a, b] R Q h2 h1.ok
    refine (padd_any hk.at' hk.ok k (by omega) _ [a, b] hv (fun x hx _ hf => ?_)).mono ?_
    · have := h1.at'.foot_lt x hf
      simp [Value.ownBlock] at hx
      omega
    · rintro e W' ⟨he, ha, ho, hC⟩
      unfold addC
      rw [if_neg hc]
      exact ⟨by rw [he, e1], ⟨fr, fo, _, hk.chg ha ho hC, e2, h3⟩, hC⟩
theorem eraseP_gone (h : (Q.map (·.1)).Nodup) (x : Int) : lkIB (Q.eraseP (·.1 == x)) x = false := by
  rw [eraseP_nd h]
  refine lkIB_false fun y hy => ?_
  have := (List.mem_filter.1 hy).2
  simpa using this
theorem PR.del (h : PR w p rb cap n pp bb Q Rn W) (a : Int) (sb : Nat) (hsb : sb = W.heap.size) :
    Calls Try.prog 39 #[.pointer (some ⟨p, 0, none⟩), .slice (some ⟨sb, 0, none⟩) 2 2] (W.alloc (.cells #[.int .i64 a, .int .i64 a] 3)) fun e W' => e = .returned (.int .i64 (if lkIB Q a then 1 else 0)) ∧ PR w p rb cap n pp bb (Q.eraseP (·.1 == a)) Rn W' ∧ Chg (Foot p rb n pp bb) (W.alloc (.cells #[.int .i64 a, .int .i64 a] 3)) W' := by
  subst hsb
  obtain ⟨fr, fo, R, h1, h2, h3⟩ := h
  have hk := h1.kept (Keeps.alloc W (.cells #[.int .i64 a, .int .i64 a] 3))
  have hv : Ints (W.alloc (.cells #[.int .i64 a, .int .i64 a] 3)) (.slice (some ⟨W.heap.size, 0, none⟩) 2 2) [a, a] := ints_new W 3 [a, a] (by simp [maxLen])
  have hd := h2.del a
  have hO := h1.ok.del1 a
  have hb : whB (del1 R a) a = false := by rw [(hd.where' hO a).1, eraseP_gone h2.nd]
  have e1 : delR R [a, a] = del1 R a := by
    show del1 (del1 R a) a = _
    rw [del1_same hb]
  have e2 : delN R [a, a] = if lkIB Q a then 1 else 0 := by
    rw [← (h2.where' h1.ok a).1]
    show (if whB R a then 1 else 0) + ((if whB (del1 R a) a then 1 else 0) + 0) = _
    rw [hb]; simp
  refine (pdel_any hk.at' hk.ok _ [a, a] hv (fun x hx _ hf => ?_)).mono ?_
  · have := h1.at'.foot_lt x hf
    simp [Value.ownBlock] at hx
    omega
  · rintro e W' ⟨he, ha, hC⟩
    rw [e1] at ha
    rw [e2] at he
    refine ⟨?_, ⟨fr, fo, _, hk.chg ha hO hC, hd, h3⟩, hC⟩
    rw [he]; cases lkIB Q a <;> rfl
theorem PR.begin (h : PR w p rb cap n pp bb Q Rn W) (c x : Int) :
    Calls Try.prog 34 #[.pointer (some ⟨p, 0, none⟩), .int .i64 c, .int .i64 x] W fun e W' => e = .returned (.tuple #[.int .i64 (begM n Q Rn c x).2.1, .int .i64 (begM n Q Rn c x).2.2]) ∧ PR w p rb cap n pp bb (begM n Q Rn c x).1.1 (begM n Q Rn c x).1.2 W' ∧ Chg (Foot p rb n pp bb) W W' := by
  have h0 := h
  obtain ⟨fr, fo, R, h1, h2, h3⟩ := h
  unfold begM
  by_cases hr : c < 0 ∨ (n : Int) ≤ c ∨ x < 0 ∨ 31 < x
  · rw [if_pos hr]
    by_cases hc : c < 0 ∨ (n : Int) ≤ c
    · refine (begin_cpu h1.at' c x hc).mono ?_
      rintro e W' ⟨rfl, rfl⟩
      exact ⟨rfl, h0, Chg.refl _ _⟩
    · obtain ⟨k, rfl⟩ : ∃ k : Nat, c = k := ⟨c.toNat, by omega⟩
      refine (begin_ctx h1.at' k (by omega) x (by omega)).mono ?_
      rintro e W' ⟨rfl, rfl⟩
      exact ⟨rfl, h0, Chg.refl _ _⟩
  · rw [if_neg hr]
    obtain ⟨k, rfl⟩ : ∃ k : Nat, c = k := ⟨c.toNat, by omega⟩
    obtain ⟨t, rfl⟩ : ∃ t : Nat, x = t := ⟨x.toNat, by omega⟩
    have hk : k < n := by omega
    have ht : t < 32 := by omega
    have hof := (h3.of t ht).2
    cases hb : lkOB Rn t with
    | true =>
      rw [hb] at hof
      have hpos : 0 < fo t := by
        rcases h3.d t ht with h4 | ⟨i, hi, h4, _⟩
        · rw [h4] at hof; cases hof
        · omega
      rw [if_pos rfl]
      refine (begin_twice h1.at' k t hk ht hpos).mono ?_
      rintro e W' ⟨rfl, rfl⟩
      exact ⟨rfl, h0, Chg.refl _ _⟩
    | false =>
      rw [hb] at hof
      have hz : fo t = 0 := by simpa using hof
      rw [if_neg (by decide)]
      have hq := h2.q k hk
      cases hQ : quL Q (k : Int) with
      | nil =>
        rw [hQ] at hq
        refine (begin_none h1.at' k t hk ht hz hq).mono ?_
        rintro e W' ⟨rfl, rfl⟩
        exact ⟨rfl, h0, Chg.refl _ _⟩
      | cons y ys =>
        rw [hQ] at hq
        have hy := h1.ok.rng k y (by rw [hq]; simp)
        obtain ⟨i, rfl⟩ : ∃ i : Nat, y = i := ⟨y.toNat, by omega⟩
        have hi : i < 256 := by omega
        have hrn := (h3.runs i hi).2
        simp only
        cases hl : lkIB Rn i with
        | true =>
          rw [hl] at hrn
          have hne : fr i ≠ 0 := by simpa using hrn
          rw [if_pos rfl]
          refine (begin_busy h1.at' k t i ys hk ht hz hi hq hne).mono ?_
          rintro e W' ⟨rfl, hK⟩
          exact ⟨rfl, h0.kept hK, Chg.of_keeps hK⟩
        | false =>
          rw [hl] at hrn
          have hne : fr i = 0 := by simpa using hrn
          rw [if_neg (by decide)]
          refine (begin_yes h1.at' k t i ys hk ht hz hi hq hne).mono ?_
          rintro e W' ⟨rfl, ha, hC⟩
          exact ⟨rfl, ⟨_, _, _, h1.chg ha (h1.ok.pop hq) hC, h2.pop hk hq h1.ok, h3.begin hi ht hne hz⟩, hC⟩
theorem PR.end' (h : PR w p rb cap n pp bb Q Rn W) (c : Int) :
    Calls Try.prog 37 #[.pointer (some ⟨p, 0, none⟩), .int .i64 c] W fun e W' => e = .returned (.tuple #[.int .i64 (endM Rn c).2.1, .int .i64 (endM Rn c).2.2]) ∧ PR w p rb cap n pp bb Q (endM Rn c).1 W' ∧ Chg (Foot p rb n pp bb) W W' := by
  have h0 := h
  obtain ⟨fr, fo, R, h1, h2, h3⟩ := h
  unfold endM
  cases hb : lkOB Rn c with
  | true =>
    rw [if_pos rfl]
    by_cases hc : 0 ≤ c ∧ c < 32
    · obtain ⟨t, rfl⟩ : ∃ t : Nat, c = t := ⟨c.toNat, by omega⟩
      have ht : t < 32 := by omega
      have hof := h3.of t ht
      rw [hb] at hof
      rcases h3.d t ht with h4 | ⟨i, hi, h4, hm⟩
      · rw [h4] at hof; exact absurd hof.2 (by decide)
      · have e1 : lkO Rn t = (i : Int) := by
          rw [← hof.1, h4, if_neg (by omega), show (i : Int) + 1 - 1 = i by omega, wrap_small _ (by omega)]
        rw [e1]
        refine (pend_yes h1.at' t i ht hi h4).mono ?_
        rintro e W' ⟨rfl, ha, hC⟩
        have hC2 : Chg (Foot p rb n pp bb) W W' := hC.mono fun _ _ hs => .inl hs
        exact ⟨rfl, ⟨_, _, _, h1.chg ha h1.ok hC2, h2, h3.end' hm⟩, hC2⟩
    · rw [(h3.of_no c hc).2] at hb; cases hb
  | false =>
    rw [if_neg (by decide)]
    refine (pend_no h1.at' c ?_).mono ?_
    · by_cases hc : 0 ≤ c ∧ c < 32
      · obtain ⟨t, rfl⟩ : ∃ t : Nat, c = t := ⟨c.toNat, by omega⟩
        have hof := (h3.of t (by omega)).2
        rw [hb] at hof
        exact .inr ⟨t, by omega, rfl, by simpa using hof⟩
      · exact .inl hc
    · rintro e W' ⟨rfl, rfl⟩
      exact ⟨rfl, h0, Chg.refl _ _⟩
theorem PR.where' (h : PR w p rb cap n pp bb Q Rn W) (a : Int) : Calls Try.prog 42 #[.pointer (some ⟨p, 0, none⟩), .int .i64 a] W fun e W' => e = .returned (.tuple #[.int .i64 (lkI Q a), .bool (lkIB Q a)]) ∧ Keeps W W' := by
  obtain ⟨fr, fo, R, h1, h2, h3⟩ := h
  obtain ⟨e1, e2⟩ := h2.where' h1.ok a
  rw [← e1, ← e2]
  exact where_any h1.at' a
theorem PR.runs (h : PR w p rb cap n pp bb Q Rn W) (a : Int) : Calls Try.prog 36 #[.pointer (some ⟨p, 0, none⟩), .int .i64 a] W fun e W' => e = .returned (.tuple #[.int .i64 (lkI Rn a), .bool (lkIB Rn a)]) ∧ W = W' := by
  obtain ⟨fr, fo, R, h1, h2, h3⟩ := h
  by_cases ha : 0 ≤ a ∧ a < 256
  · obtain ⟨i, rfl⟩ : ∃ i : Nat, a = i := ⟨a.toNat, by omega⟩
    obtain ⟨e1, e2⟩ := h3.runs i (by omega)
    rw [← e1, ← e2]
    exact runs_any h1.at' i (by omega)
  · obtain ⟨e1, e2⟩ := h3.runs_no a ha
    rw [e1, e2]
    exact runs_no p W a ha
theorem PR.of (h : PR w p rb cap n pp bb Q Rn W) (a : Int) : Calls Try.prog 33 #[.pointer (some ⟨p, 0, none⟩), .int .i64 a] W fun e W' => e = .returned (.tuple #[.int .i64 (lkO Rn a), .bool (lkOB Rn a)]) ∧ W = W' := by
  obtain ⟨fr, fo, R, h1, h2, h3⟩ := h
  by_cases ha : 0 ≤ a ∧ a < 32
  · obtain ⟨i, rfl⟩ : ∃ i : Nat, a = i := ⟨a.toNat, by omega⟩
    obtain ⟨e1, e2⟩ := h3.of i (by omega)
    rw [← e1, ← e2]
    exact of_any h1.at' i (by omega)
  · obtain ⟨e1, e2⟩ := h3.of_no a ha
    rw [e1, e2]
    exact of_no p W a ha
theorem PR.ready (h : PR w p rb cap n pp bb Q Rn W) (c : Int) : Calls Try.prog 51 #[.pointer (some ⟨p, 0, none⟩), .int .i64 c] W fun e W' => e = .returned (.tuple #[.int .i64 (rdI Q c), .bool (rdB Q Rn c)]) ∧ Keeps W W' := by
  obtain ⟨fr, fo, R, h1, h2, h3⟩ := h
  have hq := h2.qL h1.at' c
  unfold rdI rdB
  cases hQ : quL Q c with
  | nil =>
    rw [hQ] at hq
    refine (ready_no h1.at' c hq).mono ?_
    rintro e W' ⟨rfl, rfl⟩
    exact ⟨rfl, Keeps.refl _⟩
  | cons y ys =>
    rw [hQ] at hq
    by_cases hc : c < 0 ∨ (n : Int) ≤ c
    · rw [h2.out c hc] at hQ; cases hQ
    · obtain ⟨k, rfl⟩ : ∃ k : Nat, c = k := ⟨c.toNat, by omega⟩
      rw [qL_nat] at hq
      have hy := h1.ok.rng k y (by rw [hq]; simp)
      obtain ⟨i, rfl⟩ : ∃ i : Nat, y = i := ⟨y.toNat, by omega⟩
      have hrn := (h3.runs i (by omega)).2
      simp only
      rw [← hrn]
      exact ready_any h1.at' k (by omega) i ys hq (by omega)
theorem PR.queue_out (h : PR w p rb cap n pp bb Q Rn W) (c : Int) (hc : c < 0 ∨ (n : Int) ≤ c) : quL Q c = [] := by
  obtain ⟨fr, fo, R, h1, h2, h3⟩ := h
  exact h2.out c hc
/-- All that the law holds: the program, and the document's lists in the block M. -/
structure PM (w : World) (p rb cap n : Nat) (pp bb : Nat → Nat) (M : Nat) (vq vr : Value) (Q Rn : List Th) (W : World) : Prop where
  pr : PR w p rb cap n pp bb Q Rn W
  bm : Blk W M 54 (pdC n vq vr)
  pd : PD (fun b => Foot p rb n pp bb b ∨ b = M) W vq vr Q Rn
  new : w.heap.size ≤ M
  nf : ¬ Foot p rb n pp bb M
variable {M : Nat} {vq vr uq ur : Value} {Q' Rn' : List Th} {W2 W3 W4 : World}
theorem PM.kept (h : PM w p rb cap n pp bb M vq vr Q Rn W) (hk : Keeps W W') : PM w p rb cap n pp bb M vq vr Q Rn W' := ⟨h.pr.kept hk, h.bm.keeps hk, h.pd.kept hk, h.new, h.nf⟩
theorem PM.hZ (h : PM w p rb cap n pp bb M vq vr Q Rn W) : ∀ b, (Foot p rb n pp bb b ∨ b = M) → b < W.heap.size := by
  rintro b (hb | rfl)
  · exact h.pr.foot_lt b hb
  · exact h.bm.lt
theorem PM.next (h : PM w p rb cap n pp bb M vq vr Q Rn W) (hk : Keeps W W2) (hp : PD (fun b => Foot p rb n pp bb b ∨ b = M) W2 uq ur Q' Rn') (hk2 : Keeps W2 W3) (hr : PR w p rb cap n pp bb Q' Rn' W4) (hC : Chg (Foot p rb n pp bb) W3 W4) :
    PM w p rb cap n pp bb M uq ur Q' Rn' (W4.setRow M (pdC n uq ur).toArray) := by
  have hp4 := (hp.kept hk2).chg hC (fun b hb => .inl hb)
  have hM : Chg (fun x => x = M) W4 (W4.setRow M (pdC n uq ur).toArray) := Chg.setRow _ rfl
  exact ⟨hr.setM h.new h.nf _, (((h.bm.keeps hk).keeps hk2).chg hC h.nf).setRow _, hp4.chg hM (fun b hb => .inr hb), h.new, h.nf⟩
theorem begM_len (c x : Int) : (begM n Q Rn c x).1.1.length ≤ Q.length ∧ (begM n Q Rn c x).1.2.length ≤ Rn.length + 1 := by
  unfold begM
  split
  · exact ⟨Nat.le_refl _, Nat.le_succ _⟩
  · split
    · exact ⟨Nat.le_refl _, Nat.le_succ _⟩
    · split
      · exact ⟨Nat.le_refl _, Nat.le_succ _⟩
      · split
        · exact ⟨Nat.le_refl _, Nat.le_succ _⟩
        · exact ⟨List.length_eraseP_le, by simp⟩
theorem endM_len (c : Int) : (endM Rn c).1.length ≤ Rn.length := by
  unfold endM
  split
  · exact List.length_eraseP_le
  · exact Nat.le_refl _
end
end Go.Proofs.Ytcggbfpangnllaa
