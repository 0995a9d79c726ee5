/- Chains: for whom, and for whom that one. -/
import Derived.Test.YtacdmiafppmabaaDoorWaitA
import Derived.Test.YtacdmiafppmabaaDoorIter
import Derived.Test.YtacdmiafppmabaaDoorMaskI
namespace Go.Proofs.YtacdmiafppmabaaDoor
open Go.RowKit Go.Shelf
attribute [local go_sem] Oper.semAt_some

theorem chainI_cons {f : WS} (h : WOk f) {c : Int} (hc : whomB f c = true) : ∃ b : Nat, whomV f c = b ∧ b < 32 ∧ chainI f c = b :: chainI f (b : Int) := by
  unfold whomB at hc
  unfold whomV
  cases hw : whom f c with
  | none => rw [hw] at hc; cases hc
  | some b =>
    have hw2 := hw
    unfold whom at hw
    split at hw
    · rename_i h0
      refine ⟨b, rfl, (h.dom _ _ hw).2, ?_⟩
      rw [chainI_nat]
      unfold chainI
      rw [if_pos h0, chainW_cons h hw]
    · cases hw
theorem chainI_end {f : WS} {c : Int} (hc : whomB f c = false) : chainI f c = [] := by
  refine chainI_none ?_
  unfold whomB at hc
  cases hw : whom f c with
  | none => rfl
  | some b => rw [hw] at hc; cases hc
/-- How many are still to come. -/
def mW (f : WS) (b is : Value) : Nat := match is with
  | .bool true => (chainI f (intOf b)).length + 1
  | _ => 0
theorem mW_eq {f : WS} (h : WOk f) (c : Int) : mW f (.int .i64 (whomV f c)) (.bool (whomB f c)) = (chainI f c).length := by
  cases hc : whomB f c with
  | false => rw [chainI_end hc]; rfl
  | true =>
    obtain ⟨b, h1, _, h2⟩ := chainI_cons h hc
    rw [h2, h1]
    simp [mW, intOf]
set_option maxRecDepth 100000 in
set_option maxHeartbeats 1000000 in
/-- **chain's function.** -/
theorem chain1_in (l B B2 n₀ p n : Nat) (bo : Option Nat) (f : WS) (a : Int) (ha : -9223372036854775808 ≤ a ∧ a ≤ 9223372036854775807) (J Jx : List Nat → World → Prop) (W : World)
    (hY : ∀ pre x W1, J pre W1 → pre.length < (chainI f a).length → YieldAt Fence.wide 7 Tryd.prog l #[.int .i64 (x : Nat)] W1 fun e W' =>
      (e = .returned (.bool true) ∧ J (pre ++ [x]) W' ∧ KeepB n₀ B W1 W') ∨ (e = .returned (.bool false) ∧ Jx (pre ++ [x]) W'))
    (hB : Boxed W B 51 (.pointer (some ⟨p, 0, none⟩))) (hB2 : Boxed W B2 3 (.int .i64 a)) (hn : ∀ k, WF p bo k → k < n₀) (hA : WaitsAt W p bo n f) (h0 : J [] W) :
    CallsIn Fence.wide 8 Tryd.prog 35 #[.func (.yield l) #[] #[], .pointer (some ⟨B, 0, none⟩), .pointer (some ⟨B2, 0, none⟩)] W fun e W' => (∃ v, e = .returned v) ∧
      ((∃ ys, ys = chainI f a ∧ J ys W') ∨ (∃ pre, pre <+: chainI f a ∧ Jx pre W')) := by
  have hBc := hB.cell
  have hB2c := hB2.cell
  have hok := hA.ok
  have hfo := for_any hA a ha
  have hstart : ∃ c : Int, c = a ∧ (-9223372036854775808 ≤ c ∧ c ≤ 9223372036854775807) ∧ chainI f a = [] ++ chainI f c := ⟨a, rfl, ha, rfl⟩
  have hlen := chainI_len hok a
  refine callsIn_of_wp Tryd.func35 rfl trivial ?_ rfl
  simp only [Tryd.ntmps35, List.size_toArray, List.length_cons, List.length_nil, Nat.reduceAdd, Nat.reduceSub, Array.replicate_succ, Array.replicate_zero, List.push_toArray, List.append_toArray, List.nil_append, List.cons_append]
  gi_wp2_with (refine ⟨trivial, ?_⟩; gi_at_call 9; refine (callsIn_wide.2 hfo).mono ?_; rintro e w' ⟨rfl, rfl⟩)
  clear hfo
  gi_loopw [4, 5] (fun bv iv wr => ∃ (pre : List Nat) (c : Int), bv = .int .i64 (whomV f c) ∧ iv = .bool (whomB f c) ∧ chainI f a = pre ++ chainI f c ∧ KeepB n₀ B W wr ∧ J pre wr) (fun bv iv _ => mW f bv iv)
  case atStart => exact ⟨[], a, rfl, rfl, rfl, KeepB.refl _ _ _, h0⟩
  case round =>
    obtain ⟨pre, c, rfl, rfl, hca, hbel, hJs⟩ := hrel
    cases hc : whomB f c with
    | true =>
      obtain ⟨b, hbv, hb32, hcc⟩ := chainI_cons hok hc
      have hmm := mW_eq hok c
      have hmb := mW_eq hok (b : Int)
      rw [hc, hcc, List.length_cons] at hmm
      rw [hcc] at hca
      have hy0 := hY pre b wr hJs (by rw [hca, List.length_append, List.length_cons]; omega)
      have hca2 : chainI f a = (pre ++ [b]) ++ chainI f (b : Int) := by rw [hca]; simp
      have hf3 := fun (W3 : World) (hk : KeepB n₀ B W W3) => for_any (hA.below hk.1 hn) (b : Int) ⟨by omega, by omega⟩
      have hB3 := fun (W3 : World) (hk : KeepB n₀ B W W3) => (hk.2 _ _ hB).cell
      rw [hbv] at hmm ⊢
      replace hca2 := Lib.hid hca2
      replace hca := Lib.hid hca
      replace hmm := Lib.hid hmm
      replace hmb := Lib.hid hmb
      replace hY := Lib.hid hY
      replace hf3 := Lib.hid hf3
      replace hB3 := Lib.hid hB3
      clear hcc hbv hc
      obtain ⟨fn, tmps, assign, body, hy, hRd⟩ := hy0
      gi_wp2
      refine hRd.mono ?_
      rintro e W3 (⟨rfl, hJ3, hk3⟩ | ⟨rfl, hJx3⟩)
      · have hk4 := hbel.trans hk3
        have hB4 := hB3.out W3 hk4
        have hf4 := hf3.out W3 hk4
        obtain ⟨V, hV⟩ : ∃ V, V = whomV f (b : Int) := ⟨_, rfl⟩
        obtain ⟨T, hT⟩ : ∃ T, T = whomB f (b : Int) := ⟨_, rfl⟩
        rw [← hV, ← hT] at hf4
        replace hV := Lib.hid hV
        replace hT := Lib.hid hT
        gi_wp2_with (refine ⟨trivial, ?_⟩; gi_at_call 9; refine (callsIn_wide.2 hf4).mono ?_; rintro e w' ⟨rfl, rfl⟩)
        go_roundw
        case rel => exact ⟨pre ++ [b], b, by rw [hV.out], by rw [hT.out], hca2.out, hk4, hJ3⟩
        case measure => rw [hV.out, hT.out, hmb.out]; have := hmm.out; omega
      · gi_wp2
        refine bodyPost_ret (results_none rfl _ _ _) rfl ?_
        exact ⟨⟨_, rfl⟩, .inr ⟨pre ++ [b], ⟨chainI f (b : Int), hca2.out.symm⟩, hJx3⟩⟩
    | false =>
      rw [chainI_end hc, List.append_nil] at hca
      replace hca := Lib.hid hca
      gi_wp2
      go_end0
      exact ⟨⟨_, rfl⟩, .inl ⟨_, rfl, by rw [hca.out]; exact hJs⟩⟩

theorem chain_stops (B B2 n₀ p n : Nat) (bo : Option Nat) (f : WS) (a : Int) (ha : -9223372036854775808 ≤ a ∧ a ≤ 9223372036854775807) (w : World) (hB : Boxed w B 51 (.pointer (some ⟨p, 0, none⟩))) (hB2 : Boxed w B2 3 (.int .i64 a)) (hn : ∀ k, WF p bo k → k < n₀) (hA : WaitsAt w p bo n f) :
    SeqStopsK Fence.wide 8 Tryd.prog 35 #[.pointer (some ⟨B, 0, none⟩), .pointer (some ⟨B2, 0, none⟩)] (fun x : Nat => #[Value.int .i64 (x : Int)]) (KeepB n₀ B) (fun ys => ys = chainI f a) (fun pre => pre <+: chainI f a) (chainI f a).length w := fun l J Jx W hW _ _ hY h0 =>
  chain1_in l B B2 n₀ p n bo f a ha J Jx W hY ((hW.block B hB.lt).trans hB) ((hW.block B2 hB2.lt).trans hB2) hn (hA.keeps hW) h0

set_option maxHeartbeats 400000 in
theorem chainFn_any (q a : Value) (hq : ∃ x, q = .pointer x) (ha : ∃ x, a = .int .i64 x) (w : World) :
    Calls Tryd.prog 26 #[q, a] w fun e w' => e = .returned (.func (.func 35) #[] #[.pointer (some ⟨w.heap.size, 0, none⟩), .pointer (some ⟨w.heap.size + 1, 0, none⟩)]) ∧ (w.alloc (.cells #[q] 51)).alloc (.cells #[a] 3) = w' := by
  obtain ⟨x, rfl⟩ := hq
  obtain ⟨y, rfl⟩ := ha
  go_enter Tryd.func26, Tryd.ntmps26
  go_wp2
  go_ret
  exact ⟨rfl, rfl⟩
set_option maxRecDepth 100000 in
set_option maxHeartbeats 2000000 in
/-- **Chain**, in new memory. -/
theorem chain_any {p n : Nat} {bo : Option Nat} {f : WS} {w : World} (hA : WaitsAt w p bo n f) (a : Int) (ha : -9223372036854775808 ≤ a ∧ a ≤ 9223372036854775807) :
    Calls Tryd.prog 8 #[.pointer (some ⟨p, 0, none⟩), .int .i64 a] w fun e w' => ∃ v, e = .returned v ∧ w'.ownsRow w.heap.size 3 1 v (chainI f a).length (natInts (chainI f a)) ∧ Keeps w w' := by
  have hlt := hA.lt
  have hlen := chainI_len hA.ok a
  refine (callsIn_wide (n := 9)).1 ?_
  refine callsIn_of_wp_marks Tryd.func8 rfl trivial ?_ rfl
  simp only [Tryd.ntmps8, List.size_toArray, List.length_cons, List.length_nil, Nat.reduceAdd, Nat.reduceSub, Array.replicate_succ, Array.replicate_zero, List.push_toArray, List.append_toArray, List.nil_append, List.cons_append]
  gi_wp2_with (refine ⟨trivial, ?_⟩; gi_at_call 26; refine (callsIn_wide.2 (chainFn_any _ _ ⟨_, rfl⟩ ⟨_, rfl⟩ _)).mono ?_; rintro e w' ⟨rfl, rfl⟩)
  have bO := Boxed.new w 29 (.slice none 0 0)
  have bM := Boxed.new (w.alloc (.cells #[.slice none 0 0] 29)) 51 (.pointer (some ⟨p, 0, none⟩))
  have bA := Boxed.new ((w.alloc (.cells #[.slice none 0 0] 29)).alloc (.cells #[.pointer (some ⟨p, 0, none⟩)] 51)) 3 (.int .i64 a)
  simp only [World.size_alloc] at bM bA
  have hB0 : Below w.heap.size w (((w.alloc (.cells #[.slice none 0 0] 29)).alloc (.cells #[.pointer (some ⟨p, 0, none⟩)] 51)).alloc (.cells #[.int .i64 a] 3)) := (((Below.refl _ w).alloc (Nat.le_refl _) _).alloc (by simp) _).alloc (by simp; omega) _
  refine iter_ruleB w (w.heap.size + 1) (gf := 35) (lb := #[.pointer (some ⟨w.heap.size + 1, 0, none⟩), .pointer (some ⟨w.heap.size + 1 + 1, 0, none⟩)]) rfl (enters_of Tryd.func35 (by kernel_rfl) rfl)
    (chain_stops (w.heap.size + 1) (w.heap.size + 1 + 1) w.heap.size p n bo f a ha _ (bM.alloc _) bA hlt (hA.keeps hB0)) (Below.refl _ _) hB0 (fun _ => rfl)
    (fun pre W => ∃ v, Boxed W w.heap.size 29 v ∧ W.ownsRow w.heap.size 3 1 v pre.length (natInts pre) ∧ Boxed W (w.heap.size + 1) 51 (.pointer (some ⟨p, 0, none⟩)))
    (fun c pre W => False)
    (fun pre => Stays.ex fun v => (Stays.boxed _ _ _ _).and (Stays.row.and (Stays.boxed _ _ _ _)))
    (fun c pre => Stays.pure _ _)
    ⟨_, (bO.alloc _).alloc _, World.ownsRow_nil _ _ _ _, bM.alloc _⟩
    ?a1 ?assign ?body ?done ?stop
  case assign =>
    intro l x W K hK
    gi_wp2
    exact hK
  case body =>
    rintro l pre x W hb hlt ⟨v, hv, hrow, hbx⟩
    have hc := hv.cell
    gi_wp2_with (gi_at_builtin; refine app1In rfl _ _ 29 3 (.int .i64 0) 8 rfl Tryd.underlying29 infoInt rfl w.heap.size _ _ _ rfl hrow _ rfl rfl (by unfold maxLen; omega) (by omega) hb.size ?_; intro g cap w1 hown' hgrow hbel; obtain ⟨hv1, hv2, hr2, hk2, hb2⟩ := hv.appended (by decide) hrow hb.size (Nat.le_refl _) hown' hgrow; have hc1 := hv1.cell; have hf1 := hv1.frozen; have hbx1 := ((hbx.alloc (.cells #[.int .i64 (x : Int)] 3)).kept hgrow (hbx.not_row (by decide) hrow)).other (B' := w.heap.size) (by omega) (.slice (some ⟨g, 0, none⟩) (pre.length + 1) cap))
    refine ⟨⟨hk2.from _, hb2, _, hv2, ?_, hbx1⟩, hb2, fun t u hq => ?_⟩
    · rw [List.length_append, natInts, List.map_append]
      exact hr2
    · have e := (show W.heap[w.heap.size + 1]? = _ from hbx).symm.trans (show W.heap[w.heap.size + 1]? = _ from hq)
      simp only [Option.some.injEq, Obj.cells.injEq] at e
      obtain ⟨e1, e2, _⟩ := e
      have e3 : Value.pointer (some ⟨p, 0, none⟩) = u := by simpa using e1
      subst e2 e3
      exact hbx1
  case done =>
    rintro D W hD hb ⟨v, hv, hrow, _⟩ hK
    have hc := hv.cell
    gi_wp2
    refine ret_marks hK rfl (v := v) ?_ ⟨v, rfl, ownsRow_putObj hrow _ hK rfl, hb.putObj _ (by simp at hD; omega) hK⟩
    exact results_tmp (fn := Tryd.f8) rfl _ _ _
  case stop =>
    rintro D c pre W hD hpre hb h hK
    exact h.elim
end Go.Proofs.YtacdmiafppmabaaDoor
