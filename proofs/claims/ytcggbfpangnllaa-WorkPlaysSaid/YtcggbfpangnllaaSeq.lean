/- Regions that draw their order, whose calls of functions stand one behind the other, whatever they hand back; all else only reads. One walk of the text's order serves every order. -/
import Derived.Test.YtcggbfpangnllaaQuiet
import Derived.Test.YtcggbfpangnllaaStr
namespace Go.Proofs.Ytcggbfpangnllaa
open Go.RowKit

/-- No operation that calls a function of the program. -/
def plainOp : Op → Bool
  | .call c => match c.callee with
    | .builtin .len => true
    | .builtin .cap => true
    | .builtin .min => true
    | .builtin .max => true
    | _ => false
  | _ => true
theorem run_v {P : Program} {s : Sem Value} {w w' : World} {f : FuncId} {args : Array Value} : (do pure (Next.value (← s)) : Sem Next).run P w ≠ .ok (.enter f args) w' := by
  simp only [Sem.run_bind]
  cases s.run P w <;> simp [Result.andThen]
theorem run_u {P : Program} {s : Sem Unit} {w w' : World} {f : FuncId} {args : Array Value} : (do s; pure Next.skip : Sem Next).run P w ≠ .ok (.enter f args) w' := by
  simp only [Sem.run_bind]
  cases s.run P w <;> simp [Result.andThen]
theorem run_g {α : Type} {P : Program} {s : Sem α} {g : α → Next} {w w' : World} {f : FuncId} {args : Array Value} (hg : ∀ x, g x ≠ .enter f args) : (do pure (g (← s)) : Sem Next).run P w ≠ .ok (.enter f args) w' := by
  simp only [Sem.run_bind]
  cases s.run P w <;> simp [Result.andThen]
  intro h
  exact absurd h (hg _)
theorem run_panic {P : Program} {e : RuntimeError} {w w' : World} {n : Next} : (runtimePanic e : Sem Next).run P w ≠ .ok n w' := by
  unfold runtimePanic
  simp only [Sem.run_bind]
  cases program.run P w with
  | halt => simp [Result.andThen]
  | ok p w1 =>
    cases e <;> simp [Result.andThen, goPanic]
    all_goals
      intro hh
      split at hh
      · split at hh
        · cases hh
        · cases hh
      · cases hh
theorem plain_enter {P : Program} {o : Oper} {ρ : Operand → Value} {w w' : World} {f : FuncId} {args : Array Value} (h : plainOp o.op = true) : (execOp ρ o).run P w ≠ .ok (.enter f args) w' := by
  unfold execOp
  cases hop : o.op <;> simp only [hop, plainOp] at h ⊢
  all_goals first
    | exact run_v
    | exact run_u
    | exact run_g (fun _ => by simp)
    | simp
    | skip
  case nilCheck =>
    split
    · exact run_panic
    · exact run_panic
    · exact run_panic
    · split
      · exact run_panic
      · simp only [Sem.run_bind]
        cases program.run P w with
        | halt => simp [Result.andThen]
        | ok p w1 =>
          simp only [Result.andThen]
          cases (nilAhead _ _ _ _).run P w1 with
          | halt => simp
          | ok b w2 =>
            simp only
            split
            · simp
            · simp only [Sem.run_map]
              cases (unsupported _ : Sem PUnit).run P w2 <;> simp [Result.andThen]
      · simp
    · simp
  case call c =>
    cases hc : c.callee <;> simp only [hc] at h
    case builtin b =>
      simp only [resolve, hc, Sem.run_pure, Result.andThen]
      cases b <;> simp only at h
      all_goals first
        | (exact absurd h (by decide))
        | (simp only [invoke, builtin]; exact run_v)
    all_goals exact absurd h (by simp)
  case recv =>
    cases (underlying _).run P w with
    | halt => simp [Result.andThen]
    | ok d w1 =>
      simp only [Result.andThen]
      split
      · simp only [Sem.run_map]
        cases (zeroValue _).run P w1 <;> simp [Result.andThen]
      · simp [stuck]

/-- What is asked behind operations that end as they should. -/
def onNormal (K : Act → World → Prop) : Exit → Act → World → Prop
  | .normal, a, w => K a w
  | _, _, _ => False
def noneW : World → Prop := fun _ => False
section
variable {P : Program} {ops : Array Oper} {C : World → Prop} {md : Region.Mode} {S : List Nat}

/-- One operation: a call (S), as it comes; another: one value, in every world of the class. -/
def seqOp (P : Program) (ops : Array Oper) (C : World → Prop) (S : List Nat) (i : Nat) (K : Act → World → Prop) (a : Act) (w : World) : Prop :=
  match ops[i]? with
  | none => K a w
  | some o =>
    if S.contains i then wpList P ops (onNormal fun a' w' => C w' ∧ K a' w') [o] a w
    else if Region.wanted o (yielded ops a.tmps) then ∃ v, (∀ w', C w' → o.quietAt P a noneW w' v) ∧ K (a.put o.dst v) w
    else K (a.put o.dst undef) w
/-- Whatever order is picked. -/
def wpAnyW (P : Program) (md : Region.Mode) (ops : Array Oper) (C : World → Prop) (S : List Nat) (Q : Act → World → Prop) : Nat → Array Bool → Act → World → Prop
  | 0, listed, a, w => Region.ready md ops listed = [] ∧ Q a w
  | fuel + 1, listed, a, w => (Region.ready md ops listed = [] → Q a w) ∧
    ∀ i ∈ Region.ready md ops listed, seqOp P ops C S i (wpAnyW P md ops C S Q fuel (listed.setIfInBounds i true)) a w
/-- The text's order. -/
def wpSeq (P : Program) (ops : Array Oper) (C : World → Prop) (S : List Nat) (Q : Act → World → Prop) : Nat → List Oper → Act → World → Prop
  | _, [], a, w => Q a w
  | k, o :: rest, a, w =>
    if S.contains k then wpList P ops (onNormal fun a' w' => C w' ∧ wpSeq P ops C S Q (k + 1) rest a' w') [o] a w
    else if Region.wanted o (yielded ops a.tmps) then ∃ v, (∀ w', C w' → o.quietAt P a noneW w' v) ∧ wpSeq P ops C S Q (k + 1) rest (a.put o.dst v) w
    else wpSeq P ops C S Q (k + 1) rest (a.put o.dst undef) w

theorem noLetsOut {K : Act → World → Prop} : ¬ LetsOut (onNormal K) := fun ⟨_, _, h⟩ => h
/-- A single operation, taken apart. -/
theorem list_one {o : Oper} {K : Act → World → Prop} {a : Act} {w : World} : wpList P ops (onNormal K) [o] a w ↔
    (if Region.wanted o (yielded ops a.tmps) then o.wp P a w K (onNormal K) else K (a.put o.dst undef) w) := by
  unfold wpList
  split
  · constructor
    · rintro (h | ⟨_, h⟩)
      · exact h
      · exact absurd h noLetsOut
    · exact .inl
  · exact Iff.rfl
theorem wp_mono2 {o : Oper} {a : Act} {w : World} {K K' : Act → World → Prop} {Q' : Exit → Act → World → Prop} (h : ∀ a w, K a w → K' a w) (hh : o.wp P a w K (onNormal K)) : o.wp P a w K' Q' := by
  unfold Oper.wp at *
  generalize (execOp a.eval o).run P w = r at *
  cases r with
  | ok n w' =>
    cases n <;> simp only [Oper.upon] at hh ⊢ <;>
      first
        | exact h _ _ hh
        | exact Calls.mono hh (fun e w'' he => by cases e <;> first | exact h _ _ he | exact absurd he noLetsOut | exact he.elim)
        | exact Rows.mono hh (fun _ _ he => h _ _ he)
  | halt x w' => cases x <;> simp only [Oper.upon] at hh ⊢ <;> exact hh.elim
/-- .. whatever it comes to, its frame is the old one with one slot written. -/
theorem wp_put2 {o : Oper} {a b : Act} {w : World} {K K' : Act → World → Prop} (he : execOp b.eval o = execOp a.eval o) (hd : b.defers = a.defers)
    (hK : ∀ ds u w', K (({ a with defers := ds } : Act).put o.dst u) w' → K' (({ b with defers := ds } : Act).put o.dst u) w') (h : o.wp P a w K (onNormal K)) : o.wp P b w K' (onNormal K') := by
  have hK0 : ∀ u w', K (a.put o.dst u) w' → K' (b.put o.dst u) w' := fun u w' h => by
    have := hK a.defers u w' h
    rwa [← hd] at this
  unfold Oper.wp at *
  rw [he]
  generalize (execOp a.eval o).run P w = r at *
  cases r with
  | ok n w' =>
    cases n <;> simp only [Oper.upon] at h ⊢
    case value u => exact hK0 u w' h
    case skip => exact hK0 undef w' h
    case defer d' => rw [hd]; exact hK (d' :: a.defers) undef w' h
    case enter f args =>
      exact Calls.mono h (fun e w'' he => by
        cases e with
        | returned u => exact hK0 u w'' he
        | panicked c => exact he.elim
        | outgrown => exact absurd he noLetsOut)
    case row r args => exact Rows.mono h (fun u w'' he => hK0 u w'' he)
    all_goals exact h
  | halt x w' => cases x <;> simp only [Oper.upon] at h ⊢ <;> exact h.elim
/-- .. and it comes to something. -/
theorem wp_some {o : Oper} {a : Act} {w : World} {K : Act → World → Prop} (h : o.wp P a w K (onNormal K)) : ∃ ds u w', K (({ a with defers := ds } : Act).put o.dst u) w' := by
  unfold Oper.wp at *
  generalize (execOp a.eval o).run P w = r at *
  cases r with
  | ok n w' =>
    cases n <;> simp only [Oper.upon] at h
    case value u => exact ⟨a.defers, u, w', h⟩
    case skip => exact ⟨a.defers, undef, w', h⟩
    case defer d' => exact ⟨_, undef, w', h⟩
    case enter f args =>
      obtain ⟨e, w'', _, hR, _⟩ := h []
      cases e with
      | returned u => exact ⟨a.defers, u, w'', hR⟩
      | panicked c => exact hR.elim
      | outgrown => exact absurd hR noLetsOut
    case row r args =>
      obtain ⟨u, w'', hR, _⟩ := h default []
      exact ⟨a.defers, u, w'', hR⟩
  | halt x w' => cases x <;> simp only [Oper.upon] at h <;> exact h.elim

/-- An operation that yields v in every world of the class. -/
def YieldsW (P : Program) (ops : Array Oper) (C : World → Prop) (o : Oper) (v : Value) (a : Act) : Prop :=
  (Region.wanted o (yielded ops a.tmps) = true ∧ ∀ w, C w → o.quietAt P a noneW w v) ∨ (Region.wanted o (yielded ops a.tmps) = false ∧ v = undef)
theorem YieldsW.of_same {o : Oper} {v : Value} {a a' : Act} (hy : YieldsW P ops C o v a) (he : execOp a'.eval o = execOp a.eval o) (hw : Region.wanted o (yielded ops a'.tmps) = Region.wanted o (yielded ops a.tmps)) : YieldsW P ops C o v a' := by
  unfold YieldsW Oper.quietAt at *
  rw [he, hw]
  exact hy
theorem quiet_one {o : Oper} {a : Act} {w : World} {u v : Value} (h : o.quietAt P a noneW w u) (k : o.quietAt P a noneW w v) : u = v := by
  unfold Oper.quietAt at *
  generalize (execOp a.eval o).run P w = r at *
  cases r with
  | ok n w' =>
    cases n <;> simp only [Oper.quietUpon] at h k
    case value x => exact h.2.symm.trans k.2
    case skip => exact h.2.trans k.2.symm
    case enter f args => obtain ⟨_, _, _, hR, _⟩ := h.2 []; exact hR.2.elim
  | halt x w' => simp only [Oper.quietUpon] at h
theorem YieldsW.one {o : Oper} {u v : Value} {a : Act} {w : World} (hC : C w) (h : YieldsW P ops C o u a) (k : YieldsW P ops C o v a) : u = v := by
  rcases h with ⟨h1, h2⟩ | ⟨h1, h2⟩ <;> rcases k with ⟨k1, k2⟩ | ⟨k1, k2⟩
  · exact quiet_one (h2 w hC) (k2 w hC)
  · rw [h1] at k1; cases k1
  · rw [h1] at k1; cases k1
  · rw [h2, k2]
theorem seqOp_quiet {i : Nat} {o : Oper} {K : Act → World → Prop} {a : Act} {w : World} (hi : ops[i]? = some o) (hS : S.contains i = false) : seqOp P ops C S i K a w ↔ ∃ v, YieldsW P ops C o v a ∧ K (a.put o.dst v) w := by
  unfold seqOp YieldsW
  simp only [hi, hS, Bool.false_eq_true, if_false]
  cases hw : Region.wanted o (yielded ops a.tmps)
  · simp only [Bool.false_eq_true, if_false, false_and, true_and, false_or]
    exact ⟨fun h => ⟨undef, rfl, h⟩, fun ⟨v, hv, h⟩ => by rw [hv] at h; exact h⟩
  · simp only [if_true, true_and, Bool.true_eq_false, false_and, or_false]
theorem seqOp_call {i : Nat} {o : Oper} {K : Act → World → Prop} {a : Act} {w : World} (hi : ops[i]? = some o) (hS : S.contains i = true) : seqOp P ops C S i K a w ↔ wpList P ops (onNormal fun a' w' => C w' ∧ K a' w') [o] a w := by
  unfold seqOp
  simp only [hi, hS, if_true]

theorem seqOp_mono {i : Nat} {K K' : Act → World → Prop} {a : Act} {w : World} (hK : ∀ a w, K a w → K' a w) (h : seqOp P ops C S i K a w) : seqOp P ops C S i K' a w := by
  cases ho : ops[i]? with
  | none => unfold seqOp at *; simp only [ho] at h ⊢; exact hK _ _ h
  | some o =>
    cases hS : S.contains i with
    | true =>
      rw [seqOp_call ho hS, list_one] at h ⊢
      split
      · rename_i hw; rw [if_pos hw] at h
        exact wp_put2 rfl rfl (fun ds u w' hh => ⟨hh.1, hK _ _ hh.2⟩) h
      · rename_i hw; rw [if_neg hw] at h
        exact ⟨h.1, hK _ _ h.2⟩
    | false =>
      rw [seqOp_quiet ho hS] at h ⊢
      obtain ⟨v, h1, h2⟩ := h
      exact ⟨v, h1, hK _ _ h2⟩
theorem wpAny_of_W {Q : Act → World → Prop} {Q' : Exit → Act → World → Prop} (hQ : ∀ a w, Q a w → Q' .normal a w) : ∀ (fuel : Nat) (listed : Array Bool) (a : Act) (w : World), C w → wpAnyW P md ops C S Q fuel listed a w → wpAny P md ops Q' fuel listed a w
  | 0, _, _, _, _, h => ⟨h.1, hQ _ _ h.2⟩
  | fuel + 1, listed, a, w, hC, h => ⟨fun h0 => hQ _ _ (h.1 h0), fun i hi => by
    have h1 := h.2 i hi
    obtain ⟨_, o, ho, _⟩ := mem_ready.1 hi
    unfold wpOp
    simp only [ho]
    cases hS : S.contains i with
    | true =>
      rw [seqOp_call ho hS, list_one] at h1
      split
      · rename_i hw; rw [if_pos hw] at h1
        exact .inl (wp_mono2 (fun a w hh => wpAny_of_W hQ fuel _ a w hh.1 hh.2) h1)
      · rename_i hw; rw [if_neg hw] at h1
        exact wpAny_of_W hQ fuel _ _ _ h1.1 h1.2
    | false =>
      rw [seqOp_quiet ho hS] at h1
      obtain ⟨v, hy, h2⟩ := h1
      rcases hy with ⟨hw, hq⟩ | ⟨hw, rfl⟩
      · rw [if_pos hw]
        refine .inl ?_
        have h3 := hq w hC
        unfold Oper.quietAt at h3
        unfold Oper.wp
        generalize (execOp a.eval o).run P w = r at *
        cases r with
        | ok n w' =>
          cases n <;> simp only [Oper.quietUpon] at h3 <;> simp only [Oper.upon]
          case value u => obtain ⟨e1, e2⟩ := h3; rw [e1, e2]; exact wpAny_of_W hQ fuel _ _ _ hC h2
          case skip => obtain ⟨e1, e2⟩ := h3; rw [e1, ← e2]; exact wpAny_of_W hQ fuel _ _ _ hC h2
          case enter f args => obtain ⟨_, _, _, hR, _⟩ := h3.2 []; exact hR.2.elim
        | halt x w' => simp only [Oper.quietUpon] at h3
      · rw [if_neg (by rw [hw]; exact Bool.false_ne_true)]
        exact wpAny_of_W hQ fuel _ _ _ hC h2⟩

def NoSel (ops : Array Oper) : Prop := ∀ (j : Nat) (o : Oper) (cs : Array SelectCase) (b : Bool), ops[j]? = some o → o.op ≠ .select cs b
theorem seqOp_put (hsel : NoSel ops) {i j : Nat} {oi oj : Oper} {v : Value} (hi : ops[i]? = some oi) (hj : ops[j]? = some oj) (hap : oi.apart ops oj = true) {K : Act → World → Prop} {a : Act} {w : World}
    (hy : YieldsW P ops C oi v a) (h : seqOp P ops C S j K (a.put oi.dst v) w) : seqOp P ops C S j (fun a' w' => YieldsW P ops C oi v a' ∧ K (a'.put oi.dst v) w') a w := by
  obtain ⟨h1, h2, h3⟩ := Oper.apart_spec hap
  have keep : ∀ (b : Act) (ds : List Deferred) (u : Value), YieldsW P ops C oi v b → YieldsW P ops C oi v (({ b with defers := ds } : Act).put oj.dst u) := fun b ds u hy =>
    hy.of_same ((execOp_put oi (fun cs b => hsel i oi cs b hi) ({ b with defers := ds } : Act) oj.dst u h3).trans rfl) ((wanted_put oi ({ b with defers := ds } : Act) oj.dst u h3).trans rfl)
  have hex := execOp_put oj (fun cs b => hsel j oj cs b hj) a oi.dst v h1
  have hwa := wanted_put oj a oi.dst v h1
  cases hS : S.contains j with
  | true =>
    rw [seqOp_call hj hS, list_one] at h ⊢
    rw [hwa] at h
    split
    · rename_i hw; rw [if_pos hw] at h
      refine wp_put2 hex.symm (by cases oi.dst <;> rfl) (fun ds u w' hh => ⟨hh.1, keep a ds u hy, ?_⟩) h
      rw [Act.put_comm ({ a with defers := ds } : Act) u v (fun d hd he => h2 d he hd)]
      have e : (({ a with defers := ds } : Act).put oi.dst v) = ({ a.put oi.dst v with defers := ds } : Act) := by cases oi.dst <;> rfl
      rw [e]; exact hh.2
    · rename_i hw; rw [if_neg hw] at h
      refine ⟨h.1, keep a a.defers undef hy, ?_⟩
      rw [Act.put_comm a undef v (fun d hd he => h2 d he hd)]
      exact h.2
  | false =>
    rw [seqOp_quiet hj hS] at h ⊢
    obtain ⟨u, hu, hK⟩ := h
    refine ⟨u, hu.of_same hex.symm hwa.symm, keep a a.defers u hy, ?_⟩
    rw [Act.put_comm a u v (fun d hd he => h2 d he hd)]
    exact hK
theorem wpAnyW_first (hsel : NoSel ops) {Q : Act → World → Prop} {i : Nat} {oi : Oper} {v : Value} (hi : ops[i]? = some oi) (hSi : S.contains i = false) :
    ∀ (fuel : Nat) (listed : Array Bool) (a : Act) (w : World),
      (∀ j oj, ops[j]? = some oj → j ≠ i → listed.getD j true = false → (∀ e ∈ oj.after, Region.binds md e = true → e.on ≠ i) → oi.apart ops oj = true) →
      i ∈ Region.ready md ops listed → YieldsW P ops C oi v a →
      wpAnyW P md ops C S Q fuel (listed.setIfInBounds i true) (a.put oi.dst v) w → wpAnyW P md ops C S Q (fuel + 1) listed a w := by
  intro fuel
  induction fuel with
  | zero =>
    intro listed a w _ hr hy H
    refine ⟨fun h => (by rw [h] at hr; cases hr), fun j hj => ?_⟩
    by_cases hji : j = i
    · subst hji; exact (seqOp_quiet hi hSi).2 ⟨v, hy, H⟩
    · have := ready_mono hj hji
      rw [H.1] at this
      cases this
  | succ fuel ih =>
    intro listed a w hfree hr hy H
    refine ⟨fun h => (by rw [h] at hr; cases hr), fun j hj => ?_⟩
    by_cases hji : j = i
    · subst hji; exact (seqOp_quiet hi hSi).2 ⟨v, hy, H⟩
    · have h1 := H.2 j (ready_mono hj hji)
      obtain ⟨hjun, oj, hoj, hall⟩ := mem_ready.1 hj
      have hnot : ∀ e ∈ oj.after, Region.binds md e = true → e.on ≠ i := fun e he hb heq => by
        have h1 := hall e he hb
        rw [heq, getD_both (mem_ready.1 hr).1] at h1
        cases h1
      have h2 := seqOp_put hsel hi hoj (hfree j oj hoj hji hjun hnot) hy h1
      have hfree' : ∀ k ok, ops[k]? = some ok → k ≠ i → (listed.setIfInBounds j true).getD k true = false →
          (∀ e ∈ ok.after, Region.binds md e = true → e.on ≠ i) → oi.apart ops ok = true := fun k ok hk hki hun hno => by
        refine hfree k ok hk hki ?_ hno
        by_cases hjk : j = k
        · subst hjk; exact hjun
        · rw [getD_set_ne true hjk] at hun; exact hun
      refine seqOp_mono (fun a' w' h3 => ih (listed.setIfInBounds j true) a' w' hfree' (ready_mono hr (Ne.symm hji)) h3.1 ?_) h2
      rw [Array.setIfInBounds_comm _ _ hji]
      exact h3.2
/-- Each other call waits for one that has not come up. -/
def WaitS (md : Region.Mode) (ops : Array Oper) (S : List Nat) (i : Nat) (listed : Array Bool) : Prop :=
  ∀ j, S.contains j = true → j ≠ i → listed.getD j true = false → ∀ oj, ops[j]? = some oj → ∃ e ∈ oj.after, Region.binds md e = true ∧ S.contains e.on = true ∧ listed.getD e.on true = false
theorem WaitS.not {i j : Nat} {listed : Array Bool} (h : WaitS md ops S i listed) (hji : j ≠ i) (hr : j ∈ Region.ready md ops listed) : S.contains j = false := by
  obtain ⟨hun, oj, hoj, hall⟩ := mem_ready.1 hr
  cases hS : S.contains j with
  | false => rfl
  | true =>
    obtain ⟨e, he, hb, _, hu⟩ := h j hS hji hun oj hoj
    have := hall e he hb
    rw [getD_both hu] at this; cases this
theorem WaitS.set {i j : Nat} {listed : Array Bool} (h : WaitS md ops S i listed) (hj : S.contains j = false) : WaitS md ops S i (listed.setIfInBounds j true) := by
  intro k hk hki hun ok hok
  have hne : ∀ m, S.contains m = true → j ≠ m := fun m hm e => by subst e; rw [hj] at hm; cases hm
  rw [getD_set_ne true (hne k hk)] at hun
  obtain ⟨e, he, hb, hS, hu⟩ := h k hk hki hun ok hok
  exact ⟨e, he, hb, hS, by rw [getD_set_ne true (hne _ hS)]; exact hu⟩
theorem wpAnyW_call (hsel : NoSel ops) {Q : Act → World → Prop} {i : Nat} {oi : Oper} (hi : ops[i]? = some oi) (hSi : S.contains i = true) :
    ∀ (fuel : Nat) (listed : Array Bool) (a : Act) (w : World), C w →
      (∀ j oj, ops[j]? = some oj → j ≠ i → listed.getD j true = false → (∀ e ∈ oj.after, Region.binds md e = true → e.on ≠ i) → oi.apart ops oj = true) → WaitS md ops S i listed →
      i ∈ Region.ready md ops listed →
      wpList P ops (onNormal fun a' w' => C w' ∧ wpAnyW P md ops C S Q fuel (listed.setIfInBounds i true) a' w') [oi] a w → wpAnyW P md ops C S Q (fuel + 1) listed a w := by
  have wits : ∀ {K : Act → World → Prop} {a : Act} {w : World}, wpList P ops (onNormal K) [oi] a w → ∃ ds u w', K (({ a with defers := ds } : Act).put oi.dst u) w' := fun {K a w} h => by
    rw [list_one] at h
    split at h
    · exact wp_some h
    · exact ⟨a.defers, undef, w, h⟩
  intro fuel
  induction fuel with
  | zero =>
    intro listed a w _ _ _ hr H
    refine ⟨fun h => (by rw [h] at hr; cases hr), fun j hj => ?_⟩
    by_cases hji : j = i
    · subst hji; exact (seqOp_call hi hSi).2 H
    · obtain ⟨_, _, _, _, h0, _⟩ := wits H
      have := ready_mono hj hji
      rw [h0] at this
      cases this
  | succ fuel ih =>
    intro listed a w hC hfree hwait hr H
    refine ⟨fun h => (by rw [h] at hr; cases hr), fun j hj => ?_⟩
    by_cases hji : j = i
    · subst hji; exact (seqOp_call hi hSi).2 H
    · have hSj := hwait.not hji hj
      obtain ⟨hjun, oj, hoj, hall⟩ := mem_ready.1 hj
      have hnot : ∀ e ∈ oj.after, Region.binds md e = true → e.on ≠ i := fun e he hb heq => by
        have h1 := hall e he hb
        rw [heq, getD_both (mem_ready.1 hr).1] at h1
        cases h1
      obtain ⟨h1, h2, h3⟩ := Oper.apart_spec (hfree j oj hoj hji hjun hnot)
      have back : ∀ (ds : List Deferred) (u v : Value), YieldsW P ops C oj v (({ a with defers := ds } : Act).put oi.dst u) → YieldsW P ops C oj v a := fun ds u v hy =>
        hy.of_same ((execOp_put oj (fun cs b => hsel j oj cs b hoj) ({ a with defers := ds } : Act) oi.dst u h1).symm) ((wanted_put oj ({ a with defers := ds } : Act) oi.dst u h1).symm)
      obtain ⟨ds0, u0, w0, _, hW0⟩ := wits H
      obtain ⟨vj, hy0, _⟩ := (seqOp_quiet hoj hSj).1 (hW0.2 j (ready_mono hj hji))
      have hyj := back _ _ _ hy0
      refine (seqOp_quiet hoj hSj).2 ⟨vj, hyj, ih (listed.setIfInBounds j true) (a.put oj.dst vj) w hC (fun k ok hk hki hun hno => ?_) (hwait.set hSj) (ready_mono hr (Ne.symm hji)) ?_⟩
      · refine hfree k ok hk hki ?_ hno
        by_cases hjk : j = k
        · subst hjk; exact hjun
        · rw [getD_set_ne true hjk] at hun; exact hun
      · have hex := execOp_put oi (fun cs b => hsel i oi cs b hi) a oj.dst vj h3
        have hwa := wanted_put oi a oj.dst vj h3
        have step : ∀ (ds : List Deferred) (u : Value) (w' : World), wpAnyW P md ops C S Q (fuel + 1) (listed.setIfInBounds i true) (({ a with defers := ds } : Act).put oi.dst u) w' →
            wpAnyW P md ops C S Q fuel ((listed.setIfInBounds j true).setIfInBounds i true) (({ a.put oj.dst vj with defers := ds } : Act).put oi.dst u) w' := fun ds u w' hW => by
          obtain ⟨v2, hy2, hW2⟩ := (seqOp_quiet hoj hSj).1 (hW.2 j (ready_mono hj hji))
          obtain rfl := YieldsW.one hC (back _ _ _ hy2) hyj
          rw [Act.put_comm ({ a with defers := ds } : Act) u v2 h2] at hW2
          have e : (({ a with defers := ds } : Act).put oj.dst v2) = ({ a.put oj.dst v2 with defers := ds } : Act) := by cases oj.dst <;> rfl
          rw [e] at hW2
          rw [Array.setIfInBounds_comm _ _ hji]
          exact hW2
        rw [list_one] at H ⊢
        rw [hwa]
        split
        · rename_i hw; rw [if_pos hw] at H
          exact wp_put2 hex (by cases oj.dst <;> rfl) (fun ds u w' hh => ⟨hh.1, step ds u w' hh.2⟩) H
        · rename_i hw; rw [if_neg hw] at H
          refine ⟨H.1, ?_⟩
          have := step a.defers undef w H.2
          have e : ({ a.put oj.dst vj with defers := a.defers } : Act) = a.put oj.dst vj := by cases oj.dst <;> rfl
          rwa [e] at this
/-- The calls stand one behind the other: each waits for the one ahead of it. -/
def chainS (md : Region.Mode) (ops : Array Oper) : List Nat → Bool
  | p :: j :: r => decide (p < j) && ((ops[j]?).map fun o => o.after.any fun e => Region.binds md e && e.on == p).getD false && chainS md ops (j :: r)
  | _ => true
theorem chainS_lt : ∀ {S : List Nat} {p : Nat}, chainS md ops (p :: S) = true → ∀ j ∈ S, p < j
  | [], _, _, _, hj => by cases hj
  | q :: S, p, h, j, hj => by
    simp only [chainS, Bool.and_eq_true, decide_eq_true_eq] at h
    rcases List.mem_cons.1 hj with rfl | hj
    · exact h.1.1
    · have := chainS_lt h.2 j hj; omega
theorem chainS_spec : ∀ {S : List Nat}, chainS md ops S = true → ∀ j ∈ S, ∀ k ∈ S, k < j → ∃ p ∈ S, k ≤ p ∧ p < j ∧ ∀ oj, ops[j]? = some oj → ∃ e ∈ oj.after, Region.binds md e = true ∧ e.on = p
  | [], _, _, hj, _, _, _ => by cases hj
  | [p], _, j, hj, k, hk, hkj => by
    rw [List.mem_singleton] at hj hk; omega
  | p :: q :: S, h, j, hj, k, hk, hkj => by
    have hlt := chainS_lt h
    simp only [chainS, Bool.and_eq_true, decide_eq_true_eq] at h
    have hlt2 := chainS_lt h.2
    rcases List.mem_cons.1 hj with e1 | hj1
    · rcases List.mem_cons.1 hk with e2 | hk1
      · omega
      · have := hlt k hk1; omega
    · rcases List.mem_cons.1 hj1 with e1 | hj2
      · refine ⟨p, by simp, ?_, by omega, fun oj hoj => ?_⟩
        · rcases List.mem_cons.1 hk with e2 | hk1
          · omega
          · rcases List.mem_cons.1 hk1 with e3 | hk2
            · omega
            · have := hlt2 k hk2; omega
        · have h1 := h.1.2
          rw [← e1, hoj] at h1
          simp only [Option.map_some, Option.getD_some, Array.any_eq_true', Bool.and_eq_true, beq_iff_eq] at h1
          obtain ⟨e, he, hb, ho⟩ := h1
          exact ⟨e, he, hb, ho⟩
      · rcases List.mem_cons.1 hk with e2 | hk1
        · obtain ⟨r, hr, hr2, hr3, hr4⟩ := chainS_spec h.2 j hj1 q (by simp) (hlt2 j hj2)
          exact ⟨r, List.mem_cons_of_mem _ hr, by omega, hr3, hr4⟩
        · obtain ⟨r, hr, hr2, hr3, hr4⟩ := chainS_spec h.2 j hj1 k hk1 hkj
          exact ⟨r, List.mem_cons_of_mem _ hr, hr2, hr3, hr4⟩
theorem wpAnyW_lex {Q : Act → World → Prop} (hsel : NoSel ops) (hc : chainS md ops S = true) : ∀ (l : List Oper) (k : Nat) (listed : Array Bool) (a : Act) (w : World), C w → (∀ j, l[j]? = ops[k + j]?) → listed.size = ops.size → (∀ j, listed.getD j true = false ↔ k ≤ j ∧ j < ops.size) →
    Region.lexFrom md ops l.length k listed = true → wpSeq P ops C S Q k l a w → wpAnyW P md ops C S Q l.length listed a w
  | [], _, _, _, _, _, _, _, _, hB, h => ⟨by simpa [Region.lexFrom] using hB, h⟩
  | o :: l, k, listed, a, w, hC, hl, hsz, hL, hB, h => by
    have h0 : ops[k]? = some o := by simpa using (hl 0).symm
    have hks : k < ops.size := (Array.getElem?_eq_some_iff.1 h0).1
    simp only [List.length_cons, Region.lexFrom, Bool.and_eq_true] at hB
    obtain ⟨⟨hr, hf⟩, hB'⟩ := hB
    have hl' : ∀ j, l[j]? = ops[k + 1 + j]? := fun j => by have := hl (j + 1); simpa [Nat.add_assoc, Nat.add_comm 1 j] using this
    have hsz' : (listed.setIfInBounds k true).size = ops.size := by rw [Array.size_setIfInBounds]; exact hsz
    have hL' : ∀ j, (listed.setIfInBounds k true).getD j true = false ↔ k + 1 ≤ j ∧ j < ops.size := fun j => by
      by_cases e : k = j
      · subst e
        have : (listed.setIfInBounds k true).getD k true = true := by simp [show k < listed.size by omega]
        rw [this]
        exact ⟨fun h => (by cases h), fun h => by omega⟩
      · rw [getD_set_ne true e, hL j]; omega
    unfold wpSeq at h
    cases hS : S.contains k with
    | true =>
      simp only [hS, if_true] at h
      refine wpAnyW_call hsel h0 hS l.length listed a w hC (Region.free_spec h0 hf) (fun j hj hjk hun oj hoj => ?_) (by simpa using hr) ?_
      · have hkj : k < j := by have := (hL j).1 hun; omega
        obtain ⟨p, hp, hkp, hpj, hpe⟩ := chainS_spec hc j (by simpa using hj) k (by simpa using hS) hkj
        obtain ⟨e, he, hb, ho⟩ := hpe oj hoj
        have hjs : j < ops.size := (Array.getElem?_eq_some_iff.1 hoj).1
        exact ⟨e, he, hb, by rw [ho]; simpa using hp, (hL _).2 (by rw [ho]; omega)⟩
      · rw [list_one] at h ⊢
        split
        · rename_i hw; rw [if_pos hw] at h
          exact wp_put2 rfl rfl (fun ds u w' hh => ⟨hh.1, wpAnyW_lex hsel hc l (k + 1) _ _ _ hh.1 hl' hsz' hL' hB' hh.2⟩) h
        · rename_i hw; rw [if_neg hw] at h
          exact ⟨h.1, wpAnyW_lex hsel hc l (k + 1) _ _ _ h.1 hl' hsz' hL' hB' h.2⟩
    | false =>
      simp only [hS, Bool.false_eq_true, if_false] at h
      have h' : ∃ v, YieldsW P ops C o v a ∧ wpSeq P ops C S Q (k + 1) l (a.put o.dst v) w := by
        split at h
        · rename_i hw
          obtain ⟨v, hq, hK⟩ := h
          exact ⟨v, .inl ⟨hw, hq⟩, hK⟩
        · rename_i hw
          exact ⟨undef, .inr ⟨by simpa using hw, rfl⟩, h⟩
      obtain ⟨v, hy, hK⟩ := h'
      exact wpAnyW_first hsel h0 hS l.length listed a w (Region.free_spec h0 hf) (by simpa using hr) hy (wpAnyW_lex hsel hc l (k + 1) _ _ _ hC hl' hsz' hL' hB' hK)
/-- **The law.** S: the places of the calls. The world is one of C all along. -/
theorem region_seq {id : Nat} {Q : Exit → Act → World → Prop} {a : Act} {w : World} {l : List Oper} (S : List Nat) (C : World → Prop) (hm : P.follows .mixedOrders = true) (hB : (Region.lexB .any l.toArray && chainS .any l.toArray S) = true) (hC : C { w with drawn := w.drawn + 1 })
    (h : wpSeq P l.toArray C S (Q .normal) 0 l a { w with drawn := w.drawn + 1 }) : (Code.region id l.toArray true).wp P Q a w := by
  simp only [Region.lexB, Bool.and_eq_true] at hB
  refine wp_region_any hm (wpAny_of_W (C := C) (S := S) (Q := Q .normal) (fun _ _ h => h) _ _ _ _ hC ?_)
  have := wpAnyW_lex (md := .any) (Region.noSelect_spec hB.1.1) hB.2 l 0 (Array.replicate l.toArray.size false) a _ hC (by simp) (by simp) (fun j => ?_) (by simpa using hB.1.2) h
  · simpa using this
  · by_cases hj : j < l.length
    · simp [hj]
    · simp [hj]
/-- Operations that only read, one behind the other. -/
theorem wpSeq_quiet {Q : Act → World → Prop} {w : World} : ∀ (n k : Nat) (l : List Oper) (a : Act), (l.take n).all (fun o => plainOp o.op) = true → (∀ j, k ≤ j → j < k + n → S.contains j = false) → n ≤ l.length →
    wpQuiet P ops C (fun a' => wpSeq P ops C S Q (k + n) (l.drop n) a' w) (l.take n) a → wpSeq P ops C S Q k l a w
  | 0, k, l, a, _, _, _, h => by simpa [wpQuiet] using h
  | n + 1, k, [], a, _, _, hn, _ => by simp at hn
  | n + 1, k, o :: l, a, hp, hS, hn, h => by
    simp only [List.take_succ_cons, List.all_cons, Bool.and_eq_true] at hp
    simp only [List.take_succ_cons, List.drop_succ_cons, wpQuiet] at h
    unfold wpSeq
    rw [if_neg (by rw [hS k (by omega) (by omega)]; exact Bool.false_ne_true)]
    have hrec : ∀ a', wpQuiet P ops C (fun a' => wpSeq P ops C S Q (k + (n + 1)) (l.drop n) a' w) (l.take n) a' → wpSeq P ops C S Q (k + 1) l a' w := fun a' h' =>
      wpSeq_quiet n (k + 1) l a' hp.2 (fun j h1 h2 => hS j (by omega) (by omega)) (by simpa using hn) (by rw [show k + 1 + n = k + (n + 1) by omega]; exact h')
    split
    · rename_i hw
      rw [if_pos hw] at h
      obtain ⟨v, hq, hK⟩ := h
      refine ⟨v, fun w' hw' => ?_, hrec _ hK⟩
      have h3 := hq w' hw'
      unfold Oper.quietAt at h3 ⊢
      have hpe := fun f args w'' => plain_enter (P := P) (o := o) (ρ := a.eval) (w := w') (w' := w'') (f := f) (args := args) hp.1
      generalize (execOp a.eval o).run P w' = r at *
      cases r with
      | ok n w' =>
        cases n <;> simp only [Oper.quietUpon] at h3 ⊢
        case value u => exact h3
        case skip => exact h3
        case enter f args => exact absurd rfl (hpe f args w')
      | halt x w' => simp only [Oper.quietUpon] at h3
    · rename_i hw
      rw [if_neg hw] at h
      exact hrec _ h
/-- .. with one check. -/
theorem wpSeq_reads {Q : Act → World → Prop} {w : World} {k : Nat} {l : List Oper} {a : Act} (n : Nat) (h : (((l.take n).all fun o => plainOp o.op) && ((List.range' k n).all fun j => !S.contains j) && decide (n ≤ l.length)) = true)
    (hq : wpQuiet P ops C (fun a' => wpSeq P ops C S Q (k + n) (l.drop n) a' w) (l.take n) a) : wpSeq P ops C S Q k l a w := by
  simp only [Bool.and_eq_true, decide_eq_true_eq] at h
  refine wpSeq_quiet n k l a h.1.1 (fun j h1 h2 => ?_) h.2 hq
  have := List.all_eq_true.1 h.1.2 j (List.mem_range'_1.2 ⟨h1, h2⟩)
  simpa using this
/-- A call. -/
theorem wpSeq_call {Q : Act → World → Prop} {a : Act} {w : World} {k : Nat} {o : Oper} {l : List Oper} (hS : S.contains k = true) (h : wpList P ops (onNormal fun a' w' => C w' ∧ wpSeq P ops C S Q (k + 1) l a' w') [o] a w) : wpSeq P ops C S Q k (o :: l) a w := by
  unfold wpSeq
  rw [if_pos hS]; exact h
theorem wpSeq_nil {Q : Act → World → Prop} {a : Act} {w : World} {k : Nat} (h : Q a w) : wpSeq P ops C S Q k [] a w := h
/-- A call's end: the world, and what follows. -/
theorem seq_on {K : Act → World → Prop} {a : Act} {w0 w : World} (h : Keeps w0 w) (k : K a w) : onNormal (fun a' w' => (∃ x : After w0, w' = x.now) ∧ K a' w') .normal a w := ⟨⟨⟨w, h⟩, rfl⟩, k⟩
/-- The law, the worlds behind w being the class. -/
theorem region_seqA {id : Nat} {Q : Exit → Act → World → Prop} {a : Act} {w : World} {l : List Oper} (S : List Nat) (hm : P.follows .mixedOrders = true) (hB : (Region.lexB .any l.toArray && chainS .any l.toArray S) = true)
    (h : ∀ x : After w, wpSeq P l.toArray (fun w' => ∃ x : After w, w' = x.now) S (Q .normal) 0 l a x.now) : (Code.region id l.toArray true).wp P Q a w :=
  region_seq S _ hm hB ⟨After.drew w, rfl⟩ (h (After.drew w))
end
end Go.Proofs.Ytcggbfpangnllaa
