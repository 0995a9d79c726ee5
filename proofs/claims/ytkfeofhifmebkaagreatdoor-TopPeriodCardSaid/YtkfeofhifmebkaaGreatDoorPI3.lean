/- The tops: a verified evaluator of the program (PI3). -/
import Derived.Test.YtkfeofhifmebkaaGreatDoorPI1
import Derived.Test.YtkfeofhifmebkaaGreatDoorPI2
import Derived.Test.YtkfeofhifmebkaaGreatDoorPD
set_option maxRecDepth 100000
namespace Go.Ev
open Go Go.Proofs
/-! TopPeriod: the intrinsics' soundness -/
section
variable {P : Program} {E E' : Env} {base : Nat} {ν ν1 : Nat → Int}
theorem Sim.env' (hg : E'.glob = E.glob) {σ : Sg} {st : St} {w : World} (h : Sim P E ν base σ st w) : Sim P E' ν base σ st w :=
  ⟨h.fresh, h.blk, h.inj, fun g cs e => h.glob g cs (by rw [← hg]; exact e), h.size⟩
/-- a closed call, in other numbers -/
theorem CallLands.closed2 (hg : E'.glob = E.glob) (hf : GlobFree E) {f : FuncId} {args args' : List SV} {v v' : SV} {st' : St} (h : CallLands P E' ν1 base f args' ⟨.leaf, 0⟩ v' st') (ha : ∀ σ L, RepL ν σ args L → RepL ν1 (fun _ => none) args' L) (hv : ∀ σ V, Rep ν1 σ v' V → ∀ τ, Rep ν τ v V) (st : St) :
    CallLands P E ν base f args st v st := by
  refine ⟨h.1, fun σ w Args n R hs hA hR => h.2 (fun _ => none) w Args n R ?_ (ha σ _ hA) (fun σ' w' V go hV => ?_)⟩
  · exact ⟨fun _ _ => rfl, fun n b e => (by rw [getT_leaf] at e; cases e), fun n m b c bl z y e => (by rw [getT_leaf] at e; cases e), fun g cs e => by
      rw [hg] at e
      obtain ⟨h1, C, t, f, h2, h3⟩ := hs.glob g cs e
      exact ⟨h1, C, t, f, h2, freeL_ok (hf g cs e) h3⟩, hs.size⟩
  have hk : ∀ b, b < w.heap.size → w'.heap[b]? = w.heap[b]? := fun b hb => go.1.keep b hb (fun n c z e => by rw [getT_leaf] at e; cases e)
  have hk' : ∀ b o, w.heap[b]? = some o → w'.heap[b]? = some o := fun b o e => by rw [hk b (Array.getElem?_eq_some_iff.1 e).1]; exact e
  refine hR σ w' V ⟨⟨fun _ _ => rfl, Nat.le_refl _, go.1.size, fun b hb _ => hk b hb, fun n c b z hn e => .inl ⟨n, c, z, hn, e⟩, go.1.os, go.1.tape, go.1.output⟩, ?_⟩ (hv σ' V hV σ)
  refine ⟨hs.fresh, fun n b e => ?_, hs.inj, fun g cs e => ?_, Nat.le_trans hs.size go.1.size⟩
  · obtain ⟨bl, z, o, h1, h2, h3, h4⟩ := hs.blk n b e
    exact ⟨bl, z, o, h1, h2, hk' _ _ h3, h4⟩
  · obtain ⟨h1, C, t, f, h2, h3⟩ := hs.glob g cs e
    exact ⟨h1, C, t, f, hk' _ _ h2, h3⟩
/-- behind a call that looks at a part, and leaves it as it was: names are used up alone -/
theorem Goes.frame (hg : E'.glob = E.glob) {sL st s'L : St} (hsub : SubSt sL st) (hsame : ∀ n b, getT sL.heap n = some b → getT s'L.heap n = some b) {N1 : Nat} (hN : s'L.next ≤ N1) {σ σ' : Sg} {w w' : World} (hs : Sim P E ν base σ st w)
    (go : Goes P E' ν base σ sL w σ' s'L w') : Goes P E ν base σ st w σ' ⟨st.heap, N1⟩ w' := by
  have e : ∀ n, n < st.next → σ' n = σ n := fun n hn => go.1.same n (by rw [hsub.next]; exact hn)
  have nlt : ∀ n c, getT st.heap n = some c → n < st.next := fun n c h => by
    obtain ⟨bl, z, o, q1, _⟩ := hs.blk n c h
    exact hs.lt q1
  have le : σ.le σ' := fun n p h => by rw [e n (hs.lt h)]; exact h
  refine ⟨⟨e, by have := go.1.next; rw [hsub.next] at this; exact Nat.le_trans this hN, go.1.size, fun b hb hu => go.1.keep b hb fun n c z h1 h2 => hu n c z (hsub.heap n c h1) h2,
    fun n c b z h1 h2 => .inl ⟨n, c, z, h1, by rw [← e n (nlt n c h1)]; exact h2⟩, go.1.os, go.1.tape, go.1.output⟩, fun n hn => go.2.fresh n (Nat.le_trans hN hn), fun n b h => ?_, fun n m b c bl z y h1 h2 s1 s2 => ?_, fun g cs h => ?_, go.2.size⟩
  · cases hL : getT sL.heap n with
    | some b' =>
      have hb' := hsub.heap n b' hL
      rw [h] at hb'; cases hb'
      exact go.2.blk n b (hsame n b hL)
    | none =>
      obtain ⟨bl, z, o, q1, q2, q3, q4⟩ := hs.blk n b h
      refine ⟨bl, z, o, le _ _ q1, q2, ?_, q4.mono le⟩
      rw [go.1.keep bl (Array.getElem?_eq_some_iff.1 q3).1 fun m c y h1 h2 => ?_]
      · exact q3
      · have := hs.inj m n c b bl y z (hsub.heap m c h1) h h2 q1
        subst this
        rw [h1] at hL; cases hL
  · rw [e n (nlt n b h1)] at s1
    rw [e m (nlt m c h2)] at s2
    exact hs.inj n m b c bl z y h1 h2 s1 s2
  · exact go.2.glob g cs (by rw [hg]; exact h)
theorem CallLands.frame (hg : E'.glob = E.glob) {f : FuncId} {args : List SV} {v v' : SV} {sL st s'L : St} (h : CallLands P E' ν base f args sL v' s'L) (hsub : SubSt sL st) (hsame : ∀ n b, getT sL.heap n = some b → getT s'L.heap n = some b) {N1 : Nat} (hN : s'L.next ≤ N1) (hv : ∀ σ V, Rep ν σ v' V → Rep ν σ v V) :
    CallLands P E ν base f args st v ⟨st.heap, N1⟩ :=
  ⟨h.1, fun σ w Args n R hs hA hR => h.2 σ w Args n R ((hs.env' hg).sub hsub) hA fun σ' w' V go hV => hR σ' w' V (go.frame hg hsub hsame hN hs) (hv σ' V hV)⟩
end
theorem allP_at {n : Nat} {f : Nat → Bool} (h : allP n f = true) : ∀ {k : Nat}, k < n → f k = true := by
  induction n with
  | zero => intro k hk; omega
  | succ n ih =>
    intro k hk
    simp only [allP] at h
    split at h
    · rename_i g
      by_cases e : k = n
      · rw [e]; exact g
      · exact ih h (by omega)
    · cases h
/-- what the intrinsics want of the numbers -/
structure NuP (ν : Nat → Int) : Prop where
  log : LogN ν
  p : 1 ≤ ν 10 ∧ ν 10 ≤ 62
  s : ∃ s : Nat, s < 64 ∧ ν 23 = (s : Int) ∧ ν 24 = pw s
  s2 : ∃ s : Nat, s < 64 ∧ ν 25 = (s : Int) ∧ ν 26 = pw s
theorem i2g {E : Env} (hg : E.glob = glob0f) {ν : Nat → Int} {base : Nat} {g : FuncId} {x : IX} (hx : intr2 g = some x) {args : List SV} {st : St} {k : SV → St → R} {fb : Unit → R} {out} (h : x.run args st k fb = .ok out) :
    (∃ v st', k v st' = .ok out ∧ CallLands Tryz.prog E ν base g args st v st') ∨ fb () = .ok out := by
  unfold intr2 at hx
  split at hx
  · cases hx; exact fieldsI_ok hg h
  · cases hx; exact itoaI_ok hg h
  · cases hx; exact joinI_ok h
  · cases hx
theorem globF {E : Env} (hg : E.glob = glob0f) : GlobFree E := fun g cs e => glob0_free g cs (by rw [hg] at e; exact e)
theorem arSelf {base : Nat} {s : Nat} {y : Int} {b : Bool} (hb : b = !decide ((s : Int) < y)) : SelfOk Tryz.prog (envAr s b) (fun i => if i = 1 then y else 0) base (selfN (envAr s b) 100000) := by
  refine selfN_ok (eok (fun op k x j z v e => ?_) (fun k j x v e => by cases e) (fun a j b e => by cases e)) (fun g x hx => by cases hx) _
  unfold arSym at e
  split at e
  · split at e
    · cases e
    · rename_i g
      have g := eqK2_ok g; subst g
      split at e
      · rename_i i
        split at e
        · rename_i g1
          have g1 := Nat.eq_of_beq_eq_true g1; subst g1
          split at e
          · rename_i n
            split at e
            · rename_i g2
              have g2 := eqI_ok g2
              cases e
              subst g2
              exact symGeq (by simpa [SInt.val] using hb)
            · cases e
          · cases e
        · cases e
      · cases e
  · cases e
theorem around_at {E : Env} (hg : E.glob = glob0f) {ν : Nat → Int} {base : Nat} {a b : Nat} {s : Nat} (hs : s < 64) (ha : ν a = pw s) (hb : ν b = (s : Int)) (y : SInt) (st : St) :
    CallLands Tryz.prog E ν base 399 [.int .u64 (.atom a), .int .i64 y] st (.tup [.int .i64 (.atom b), .bool true]) st := by
  have h1 := allP_at ar_all hs
  have h2 : arOk s (!decide ((s : Int) < y.val ν)) = true := by
    split at h1
    · rename_i g
      cases !decide ((s : Int) < y.val ν)
      · exact h1
      · exact g
    · cases h1
  obtain ⟨out, h3⟩ := isOkB_ok h2
  obtain ⟨v, st', h4, h5⟩ := (arSelf (base := base) (y := y.val ν) rfl).call h3
  split at h4
  · rename_i g
    have g := beqSV_ok _ _ g; subst g
    refine h5.closed2 (E' := envAr s _) hg.symm (globF hg) (fun σ L hL => ?_) (fun σ V hV τ => ?_) st
    · simp only [RepL, Rep, SInt.val] at hL ⊢
      obtain ⟨V, Us, rfl, rfl, V2, Us2, rfl, rfl, rfl⟩ := hL
      exact ⟨_, _, rfl, by rw [ha]; rfl, _, _, rfl, by simp, rfl⟩
    · simp only [RepL, Rep, SInt.val] at hV ⊢
      rw [hb]; exact hV
  · cases h4
theorem aroundI_ok {E : Env} (hg : E.glob = glob0f) {ν : Nat → Int} (hν : NuP ν) {base : Nat} {args : List SV} {st : St} {k : SV → St → R} {fb : Unit → R} {out} (h : aroundI.run args st k fb = .ok out) :
    (∃ v st', k v st' = .ok out ∧ CallLands Tryz.prog E ν base 399 args st v st') ∨ fb () = .ok out := by
  unfold aroundI at h
  dsimp only at h
  split at h
  · rename_i x y
    split at h
    · rename_i i
      split at h
      · rename_i g
        have g := Nat.eq_of_beq_eq_true g; subst g
        obtain ⟨s, s1, s2, s3⟩ := hν.s
        exact .inl ⟨_, st, h, around_at hg s1 s3 s2 y st⟩
      · split at h
        · rename_i g
          have g := Nat.eq_of_beq_eq_true g; subst g
          obtain ⟨s, s1, s2, s3⟩ := hν.s2
          exact .inl ⟨_, st, h, around_at hg s1 s3 s2 y st⟩
        · exact .inr h
    · rename_i n
      split at h
      · rename_i g
        have g := eqI_ok g; subst g
        refine .inl ⟨_, st, h, ?_⟩
        obtain ⟨out', h3⟩ := isOkB_ok ar_z
        obtain ⟨v, st', h4, h5⟩ := (sf2_ok (ν := fun i => if i = 1 then y.val ν else 0) (base := base)).call h3
        split at h4
        · rename_i g
          have g := beqSV_ok _ _ g; subst g
          refine h5.closed2 (E' := E2) hg.symm (globF hg) (fun σ L hL => ?_) (fun σ V hV τ => ?_) st
          · simp only [RepL, Rep, SInt.val] at hL ⊢
            obtain ⟨V, Us, rfl, rfl, V2, Us2, rfl, rfl, rfl⟩ := hL
            exact ⟨_, _, rfl, rfl, _, _, rfl, by simp, rfl⟩
          · simp only [RepL, Rep, SInt.val] at hV ⊢
            exact hV
        · cases h4
      · exact .inr h
  · exact .inr h

theorem tup3_ok {v : SV} (h : tup3 v = true) {ν ν' : Nat → Int} {σ τ : Sg} {V : Value} (hV : Rep ν σ v V) : Rep ν' τ (.tup [.any, .any, .any]) V := by
  unfold tup3 at h
  split at h
  · rename_i a b c
    split at h
    · rename_i g1
      split at h
      · rename_i g2
        simp only [Rep, RepL] at hV ⊢
        obtain ⟨C, rfl, V1, U1, e1, r1, V2, U2, rfl, r2, V3, U3, rfl, r3, rfl⟩ := hV
        exact ⟨C, rfl, _, _, e1, one1_ok g1 r1, _, _, rfl, one1_ok g2 r2, _, _, rfl, one1_ok h r3, rfl⟩
      · cases h
    · cases h
  · cases h
theorem endB_ok {b : Bool} {st : St} {out} (h : endB b st = .ok out) : b = true := by
  unfold endB at h
  split at h
  · rfl
  · cases h
theorem helperI_ok {E : Env} (hg : E.glob = glob0f) {ν : Nat → Int} (hν : NuP ν) {base : Nat} {args : List SV} {st : St} {k : SV → St → R} {fb : Unit → R} {out} (h : helperI.run args st k fb = .ok out) :
    (∃ v st', k v st' = .ok out ∧ CallLands Tryz.prog E ν base 294 args st v st') ∨ fb () = .ok out := by
  unfold helperI at h
  dsimp only at h
  split at h
  · rename_i i
    split at h
    · rename_i g
      have g := Nat.eq_of_beq_eq_true g; subst g
      refine .inl ⟨_, st, h, ?_⟩
      obtain ⟨p1, p2⟩ := hν.p
      by_cases hp : ν 10 ≤ 16
      · obtain ⟨p, hpe⟩ : ∃ p : Nat, ν 10 = ((p + 1 : Nat) : Int) := ⟨(ν 10).toNat - 1, by omega⟩
        have h1 := allP_at hl_all (k := p + 1) (by omega)
        obtain ⟨out', h3⟩ := isOkB_ok (show hlOk (p + 1) = true from h1)
        obtain ⟨v, st', h4, h5⟩ := (sf2_ok (ν := ν) (base := base)).call h3
        have h4 := endB_ok h4
        refine h5.closed2 (E' := E2) hg.symm (globF hg) (fun σ L hL => ?_) (fun σ V hV τ => tup3_ok h4 hV) st
        simp only [RepL, Rep, SInt.val] at hL ⊢
        obtain ⟨V, Us, rfl, rfl, rfl⟩ := hL
        exact ⟨_, _, rfl, by rw [hpe]; rfl, rfl⟩
      · obtain ⟨out', h3⟩ := isOkB_ok hl_hi
        have hS : SelfOk Tryz.prog envHi ν base (selfN envHi 100000) := by
          refine selfN_ok (eok (fun op k x j y v e => rSym_ok (fun r hr => by cases hr) (fun g hg => ?_) hν.log e) (fun k j x v e => by cases e) (fun a j b e => by cases e)) (fun g x hx _ _ _ _ _ hr => i2g rfl hx hr) _
          have := List.mem_singleton.1 hg
          subst this
          dsimp only
          omega
        obtain ⟨v, st', h4, h5⟩ := hS.call h3
        have h4 := endB_ok h4
        refine h5.closed2 (E' := envHi) hg.symm (globF hg) (fun σ L hL => ?_) (fun σ V hV τ => tup3_ok h4 hV) st
        simp only [RepL, Rep, SInt.val] at hL ⊢
        exact hL
    · exact .inr h
  · exact .inr h
theorem eqS2_ok {x y : SV} (h : eqS2 x y = true) : x = y := by
  unfold eqS2 at h
  split at h
  · split at h
    · split at h
      · rename_i g1
        split at h
        · rename_i g2
          split at h
          · rename_i g3
            rw [Nat.eq_of_beq_eq_true g1, Nat.eq_of_beq_eq_true g2, beqSI_ok g3, beqON_ok h]
          · cases h
        · cases h
      · cases h
    · cases h
  · exact beqSV_ok _ _ h
theorem eqS2s_ok : ∀ {l m : List SV}, eqS2s l m = true → l = m := by
  intro l
  induction l with
  | nil => intro m h; cases m with
    | nil => rfl
    | cons => cases h
  | cons a l ih =>
    intro m h
    cases m with
    | nil => cases h
    | cons b m =>
      simp only [eqS2s] at h
      split at h
      · rename_i g; rw [eqS2_ok g, ih h]
      · cases h
theorem eqB2_ok {x y : AB} (h : eqB2 x y = true) : x = y := by
  unfold eqB2 at h
  split at h
  · split at h
    · split at h
      · rename_i g; rw [Nat.eq_of_beq_eq_true g, eqS2s_ok h]
      · cases h
    · cases h
  · split at h
    · split at h
      · rename_i g; rw [Nat.eq_of_beq_eq_true g, eqS2s_ok h]
      · cases h
    · cases h
  · cases h
theorem sameAt_ok {st : St} : ∀ {l : List (Nat × AB)}, sameAt l st = true → ∀ n b, (n, b) ∈ l → getT st.heap n = some b := by
  intro l
  induction l with
  | nil => intro _ n b h; cases h
  | cons p l ih =>
    intro h n b hm
    obtain ⟨m, c⟩ := p
    simp only [sameAt] at h
    split at h
    · rename_i d hd
      split at h
      · rename_i g
        rcases List.mem_cons.1 hm with e | hm
        · cases e; rw [hd, eqB2_ok g]
        · exact ih h n b hm
      · cases h
    · cases h
theorem progV_ok {v : SV} (h : progV v = true) {ν : Nat → Int} {σ : Sg} {V : Value} (hV : Rep ν σ v V) : Rep ν σ (.tup [.agg [.any, .any], .any]) V := by
  unfold progV at h
  split at h
  · split at h
    · rename_i g1
      split at h
      · rename_i g2
        simp only [Rep, RepL] at hV ⊢
        obtain ⟨C, rfl, V1, U1, e1, ⟨D, rfl, V3, U3, e3, r3, V4, U4, rfl, r4, rfl⟩, V2, U2, rfl, r2, rfl⟩ := hV
        exact ⟨C, rfl, _, _, e1, ⟨D, rfl, _, _, e3, one1_ok g1 r3, _, _, rfl, one1_ok g2 r4, rfl⟩, _, _, rfl, one1_ok h r2, rfl⟩
      · cases h
    · cases h
  · cases h
theorem progC_ok {E : Env} (hg : E.glob = glob0f) {ν : Nat → Int} (hν : NuP ν) {lo hi : Int} (h1 : lo ≤ ν 10) (h2 : ν 10 ≤ hi) {base : Nat} {args : List SV} {l : List (Nat × AB)} {sL st : St} (hl : ∀ n b, getT sL.heap n = some b → (n, b) ∈ l) (hsub : SubSt sL st) (h : progC lo hi args l sL = true) :
    CallLands Tryz.prog E ν base 439 args st (.tup [.agg [.any, .any], .any]) ⟨st.heap, st.next + 1000⟩ := by
  have hS : SelfOk Tryz.prog (clE lo hi) ν base (clS lo hi) := by
    refine selfN_ok (eok (fun op k x j y v e => rSym_ok (fun r hr => ?_) (fun g hg => ?_) hν.log e) (fun k j x v e => by cases e) (fun a j b e => by cases e)) (fun g x hx _ _ _ _ _ hr => i2g rfl hx hr) _
    · unfold clR at hr
      split at hr
      · rename_i g
        have g := eqI_ok g
        have := List.mem_singleton.1 hr
        subst this
        simp only [RlOk, rl, rlV, SInt.val]
        exact symEql (by rw [decide_eq_true (by omega)])
      · cases hr
    · have := List.mem_singleton.1 hg
      subst this
      exact ⟨h1, h2⟩
  obtain ⟨out', h3⟩ := isOkB_ok h
  obtain ⟨v, st', h4, h5⟩ := hS.call h3
  split at h4
  · rename_i g1
    split at h4
    · rename_i g2
      split at h4
      · rename_i g3
        refine h5.frame (E' := clE lo hi) hg.symm hsub (fun n b e => sameAt_ok g2 n b (hl n b e)) ?_ (fun σ V hV => progV_ok g1 hV)
        rw [← hsub.next]; exact Nat.le_of_ble_eq_true g3
      · cases h4
    · cases h4
  · cases h4
theorem setTK_R {t : T AB} {n : Nat} {v : Option AB} {k : T AB → R} {out} (h : setTK t n v k = .ok out) : ∃ t', k t' = .ok out ∧ ∀ m, getT t' m = if m = n then v else getT t m := by
  obtain ⟨t', e, s⟩ := setTK_spec t n v k
  exact ⟨t', by rw [← e]; exact h, s⟩
theorem progI_ok {E : Env} (hg : E.glob = glob0f) {ν : Nat → Int} (hν : NuP ν) {base : Nat} {args : List SV} {st : St} {k : SV → St → R} {fb : Unit → R} {out} (h : progI.run args st k fb = .ok out) :
    (∃ v st', k v st' = .ok out ∧ CallLands Tryz.prog E ν base 439 args st v st') ∨ fb () = .ok out := by
  unfold progI at h
  dsimp only at h
  split at h
  case h_2 => exact .inr h
  rename_i kb o i
  split at h
  case h_2 => exact .inr h
  rename_i g
  have g := Nat.eq_of_beq_eq_true g; subst g
  split at h
  case h_2 => exact .inr h
  rename_i K hK
  split at h
  case h_2 => exact .inr h
  rename_i pb hpb
  split at h
  case h_2 => exact .inr h
  rename_i B hB
  split at h
  case h_2 => exact .inr h
  rename_i cb hcb
  split at h
  case h_2 => exact .inr h
  rename_i C hC
  unfold progK at h
  obtain ⟨hp, nx⟩ := st
  dsimp only at h hK hB hC
  have h0 := setTK_R h; clear h; obtain ⟨t1, h, s1⟩ := h0
  have h0 := setTK_R h; clear h; obtain ⟨t2, h, s2⟩ := h0
  have h0 := setTK_R h; clear h; obtain ⟨t3, h, s3⟩ := h0
  split at h
  case h_2 => exact .inr h
  rename_i hok
  rw [forceN_eq] at h
  refine .inl ⟨_, _, h, ?_⟩
  have key : ∀ n b, getT t3 n = some b → (n, b) ∈ [(kb, K), (pb, B), (cb, C)] ∧ getT hp n = some b := by
    intro n b e
    rw [s3, s2, s1, getT_leaf] at e
    split at e
    · rename_i q; cases e; subst q; exact ⟨by simp, hC⟩
    · split at e
      · rename_i q; cases e; subst q; exact ⟨by simp, hB⟩
      · split at e
        · rename_i q; cases e; subst q; exact ⟨by simp, hK⟩
        · cases e
  have hl : ∀ n b, getT (⟨t3, nx⟩ : St).heap n = some b → (n, b) ∈ [(kb, K), (pb, B), (cb, C)] := fun n b e => (key n b e).1
  have hsub : SubSt ⟨t3, nx⟩ ⟨hp, nx⟩ := ⟨rfl, fun n b e => (key n b e).2⟩
  unfold prog3 at hok
  obtain ⟨p1, p2⟩ := hν.p
  split at hok
  case h_2 => cases hok
  rename_i c1
  split at hok
  case h_2 => cases hok
  rename_i c2
  by_cases q1 : ν 10 ≤ 1
  · exact progC_ok hg hν (lo := 1) (hi := 1) (by omega) q1 hl hsub c1
  · by_cases q2 : ν 10 ≤ 15
    · exact progC_ok hg hν (lo := 2) (hi := 15) (by omega) q2 hl hsub c2
    · exact progC_ok hg hν (lo := 16) (hi := 62) (by omega) (by omega) hl hsub hok
theorem intrP_ok {E : Env} (hg : E.glob = glob0f) {ν : Nat → Int} (hν : NuP ν) {base : Nat} {g : FuncId} {x : IX} (hx : intrP g = some x) {args : List SV} {st : St} {k : SV → St → R} {fb : Unit → R} {out} (h : x.run args st k fb = .ok out) :
    (∃ v st', k v st' = .ok out ∧ CallLands Tryz.prog E ν base g args st v st') ∨ fb () = .ok out := by
  unfold intrP at hx
  split at hx
  · cases hx; exact aroundI_ok hg hν h
  · cases hx; exact helperI_ok hg hν h
  · cases hx; exact progI_ok hg hν h
  · exact i2g hg hx h
theorem nuP {q : Pn} (h : q.Ok) : NuP q.V := by
  have h1 := h.P1
  refine ⟨logN_ok h, by rw [Pn.v10]; omega, ⟨_, Nat.mod_lt _ (by decide), Pn.v23 q, Pn.v24 q⟩, ⟨_, Nat.mod_lt _ (by decide), Pn.v25 q, Pn.v26 q⟩⟩
theorem envP_glob (ph : Nat) : (envP ph).glob = glob0f := rfl
/-- the evaluator's word, at each of the phases -/
theorem sfP_ok {ph : Nat} {q : Pn} (h : q.Ok) (hr : ∀ r ∈ rulesP ph, RlOk Tryz.prog q.V r) {base : Nat} : EOk Tryz.prog (envP ph) q.V ∧ IntrOk Tryz.prog (envP ph) q.V base ∧ SelfOk Tryz.prog (envP ph) q.V base (sfP ph) := by
  have h1 : EOk Tryz.prog (envP ph) q.V := eokP hr (rngs_ok h) (logN_ok h) (convsP_ok q)
  have h2 : IntrOk Tryz.prog (envP ph) q.V base := fun g x hx _ _ _ _ _ hr => intrP_ok rfl (nuP h) hx hr
  exact ⟨h1, h2, selfN_ok h1 h2 _⟩
end Go.Ev
