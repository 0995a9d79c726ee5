/- such's iterator over a log. -/
import Derived.Test.YtedfkonpkmckbaaDoorLogC
namespace Go.Proofs.YtedfkonpkmckbaaDoor
open Go.RowKit Go.Shelf
attribute [local go_sem] Oper.semAt_some

/-- The events that p takes (of a place and an event). -/
def selF (p : Nat → EvS → Bool) (l : List EvS) : List EvS := (l.zipIdx.filter (fun x => p x.2 x.1)).map (·.1)
theorem selF_take (p : Nat → EvS → Bool) (l : List EvS) (k : Nat) (h : k < l.length) : selF p (l.take (k + 1)) = selF p (l.take k) ++ (if p k l[k] = true then [l[k]] else []) := by
  unfold selF
  rw [List.take_succ_eq_append_getElem h, List.zipIdx_append, List.filter_append, List.map_append]
  congr 1
  rw [List.length_take, Nat.min_eq_left (Nat.le_of_lt h)]
  simp only [List.zipIdx_cons, List.zipIdx_nil, List.filter_cons, List.filter_nil, Nat.zero_add]
  split <;> rfl
theorem selF_pre (p : Nat → EvS → Bool) (l : List EvS) (k : Nat) : selF p (l.take k) <+: selF p l := by
  unfold selF
  conv => rhs; rw [← List.take_append_drop k l]
  rw [List.zipIdx_append, List.filter_append, List.map_append]
  exact List.prefix_append _ _
theorem KeepR.rowS {n O sz m : Nat} {e : TypeId} {W W' : World} {v : Value} {els : List (List Value)} (h : KeepR n O W W') (hr : RowS sz m e W v els) (ha : ∀ b, v.ownBlock = some b → ApartR W O b) : RowS sz m e W' v els := by
  refine ⟨?_, hr.2⟩
  obtain ⟨hl, hr⟩ := hr.1
  refine ⟨hl, hr.imp id ?_⟩
  rintro ⟨g, cap, cur, rfl, h3, h4, h5⟩
  exact ⟨g, cap, cur, rfl, h3, h.cells g _ (ha g rfl).1 (ha g rfl).2 h4 rfl, h5⟩
theorem KeepR.log {n O m q : Nat} {W W' : World} {evs : List EvS} {lost : Int} {v : Value} (h : KeepR n O W W') (hL : LogAt W m q evs lost v) (hq : ApartR W O q) (ha : ∀ b, v.ownBlock = some b → ApartR W O b) : LogAt W' m q evs lost v :=
  ⟨h.blk hL.hdr hq, h.rowS hL.row ha, hL.ne, hL.le⟩
set_option maxRecDepth 100000 in
set_option maxHeartbeats 2000000 in
/-- **such's function.** -/
theorem such1_in (l B B2 n₀ O m q : Nat) (evs : List EvS) (lost : Int) (v : Value) (p : Nat → EvS → Bool) (fcl : Nat) (lb : Array Value) (J Jx : List EvS → World → Prop) (W : World)
    (hY : ∀ pre x W1, J pre W1 → pre.length < (selF p evs).length → YieldAt Fence.wide 7 Tryd.prog l #[evV x] W1 fun e W' =>
      (e = .returned (.bool true) ∧ J (pre ++ [x]) W' ∧ KeepR n₀ O W1 W') ∨ (e = .returned (.bool false) ∧ Jx (pre ++ [x]) W'))
    (hJk : ∀ pre W1 W2, J pre W1 → Keeps W1 W2 → J pre W2)
    (hf : ∀ wr, KeepR n₀ O W wr → ∀ (k : Nat) (x : EvS), Calls Tryd.prog fcl (#[.int .i64 (k : Int), evV x] ++ lb) wr fun r w' => r = .returned (.bool (p k x)) ∧ Keeps wr w')
    (he : ∀ args w, (callFunc fcl args).run Tryd.prog w = .ok (.enter fcl args) w)
    (hB : Boxed W B 50 (.pointer (some ⟨q, 0, none⟩))) (hB2 : Boxed W B2 60 (.func (.func fcl) #[] lb)) (haB2 : ApartR W O B2) (haq : ApartR W O q) (hav : ∀ b, v.ownBlock = some b → ApartR W O b)
    (hOl : O < W.heap.size) (hn : n₀ ≤ W.heap.size) (hL : LogAt W m q evs lost v) (h4 : evs.length ≤ 4096) (h0 : J [] W) :
    CallsIn Fence.wide 8 Tryd.prog 41 #[.func (.yield l) #[] #[], .pointer (some ⟨B, 0, none⟩), .pointer (some ⟨B2, 0, none⟩)] W fun e W' => (∃ v, e = .returned v) ∧
      ((∃ ys, ys = selF p evs ∧ J ys W') ∨ (∃ pre, pre <+: selF p evs ∧ Jx pre W')) := by
  have hBc := hB.cell
  obtain ⟨vq, vc, rfl⟩ := hL.slice
  have c0 : W.cell? ⟨q, 0, none⟩ = some (.slice vq evs.length vc) := hL.hdr.cell 0 (by simp)
  have hKR0 : KeepR n₀ O W W := KeepR.refl hn hOl
  replace hY := Lib.hid hY
  replace hJk := Lib.hid hJk
  replace hf := Lib.hid hf
  replace hB2 := Lib.hid hB2
  replace hL := Lib.hid hL
  replace haB2 := Lib.hid haB2
  replace haq := Lib.hid haq
  replace hav := Lib.hid hav
  replace hKR0 := Lib.hid hKR0
  clear hB
  refine callsIn_of_wp Tryd.func41 rfl trivial ?_ rfl
  simp only [Tryd.ntmps41, List.size_toArray, List.length_cons, List.length_nil, Nat.reduceAdd, Nat.reduceSub, Array.replicate_succ, Array.replicate_zero, List.push_toArray, List.append_toArray, List.nil_append, List.cons_append]
  gi_wp2
  gi_loopw [13] (fun i wr => ∃ k : Nat, k ≤ evs.length ∧ i = .int .i64 k ∧ KeepR n₀ O W wr ∧ J (selF p (evs.take k)) wr) (fun i _ => evs.length - (intOf i).toNat)
  case atStart => exact ⟨0, Nat.zero_le _, rfl, hKR0.out, h0⟩
  case round =>
    clear c0 hBc h0 hKR0
    obtain ⟨k, hk, rfl, hKR, hJs⟩ := hrel
    by_cases hlt : k < evs.length
    · have hltI := Int.ofNat_lt.2 hlt
      obtain ⟨q', c', hv', _, _, hcell⟩ := (hKR.rowS hL.out.row hav.out).slcs.get
      obtain ⟨cb, off, hq', hcell⟩ := hcell k (by rw [List.length_map]; exact hlt)
      simp only [Value.slice.injEq] at hv'
      obtain rfl : vq = some ⟨cb, off, none⟩ := hv'.1.trans hq'
      have e0 : (evs.map evC).getD k [] = evC evs[k] := by simp [List.getD, hlt]
      rw [e0] at hcell
      have y0 := hcell 0 (by decide)
      have y1 := hcell 1 (by decide)
      have y2 := hcell 2 (by decide)
      have y3 := hcell 3 (by decide)
      have y4 := hcell 4 (by decide)
      clear hcell hv' hq' e0
      have hsc := selF_take p evs k hlt
      have hpr := selF_pre p evs (k + 1)
      have hlp := hpr.length_le
      generalize selF p (evs.take k) = pre at *
      generalize hx1 : evs[k] = e at *
      obtain ⟨t, kd, a, b, n⟩ := e
      simp only [evC, List.getD_cons_zero, List.getD_cons_succ, Nat.add_zero] at y0 y1 y2 y3 y4
      have hKa := Keeps.alloc wr (.cells #[.int .u64 (t : Int), .int .i64 kd, .int .i64 a, .int .i64 b, .int .u64 (n : Int)] 28)
      have hKR2 := hKR.trans (KeepR.of_keeps hKa (Nat.le_trans hn hKR.below.size) (Nat.lt_of_lt_of_le hOl hKR.below.size))
      have cF := (hKR2.boxed hB2.out haB2.out).cell
      have hcl := hf.out _ hKR2 k ⟨t, kd, a, b, n⟩
      have hJ2 := hJk.out _ _ _ hJs hKa
      replace hKR2 := Lib.hid hKR2
      replace hcl := Lib.hid hcl
      replace hJ2 := Lib.hid hJ2
      replace hsc := Lib.hid hsc
      replace hpr := Lib.hid hpr
      replace hlp := Lib.hid hlp
      clear hKR hJs hKa
      have hAb := Blk.new wr 28 [.int .u64 (t : Int), .int .i64 kd, .int .i64 a, .int .i64 b, .int .u64 (n : Int)]
      replace hAb := Lib.hid hAb
      gi_wp2
      refine ⟨trivial, ?_⟩
      refine (callsIn_wide.2 hcl.out).mono ?_
      rintro r W3 ⟨rfl, hK3⟩
      have hKR3 := hKR2.out.trans (KeepR.of_keeps hK3 (Nat.le_trans hn hKR2.out.below.size) (Nat.lt_of_lt_of_le hOl hKR2.out.below.size))
      have hJ3 := hJk.out _ _ _ hJ2.out hK3
      obtain ⟨z0, z1, z2, z3, z4⟩ := evBlk (hAb.out.keeps hK3)
      cases hpk : p k ⟨t, kd, a, b, n⟩ with
      | false =>
        rw [hpk] at hsc
        replace hsc := hsc.out
        simp only [Bool.false_eq_true, if_false, List.append_nil] at hsc
        replace hsc := Lib.hid hsc
        replace hKR3 := Lib.hid hKR3
        replace hJ3 := Lib.hid hJ3
        clear hpr hcl hK3 hJ2 hKR2 hAb y0 y1 y2 y3 y4 cF z0 z1 z2 z3 z4
        gi_wp2
        refine ⟨fun f h => (nomatch h), ?_⟩
        gi_wp2
        go_roundw
        case rel => exact ⟨k + 1, by omega, by go_num, hKR3.out, by rw [hsc.out]; exact hJ3.out⟩
        case measure => (simp [intOf]; try omega)
      | true =>
        rw [hpk] at hsc
        replace hsc := hsc.out
        simp only [if_true] at hsc
        have hpr' := hpr.out
        have hlp' := hlp.out
        rw [hsc] at hpr' hlp'
        rw [List.length_append, List.length_singleton] at hlp'
        have hy0 := hY.out pre ⟨t, kd, a, b, n⟩ W3 hJ3 (by omega)
        obtain ⟨fn, tmps, assign, body, hy, hRd⟩ := hy0
        replace hRd := Lib.hid hRd
        replace hpr' := Lib.hid hpr'
        replace hsc := Lib.hid hsc
        replace hKR3 := Lib.hid hKR3
        clear hlp hlp' hpr hcl hK3 hJ3 hJ2 hKR2 hAb y0 y1 y2 y3 y4 cF
        gi_wp2
        refine hRd.out.mono ?_
        rintro e W4 (⟨rfl, hJ4, hk4⟩ | ⟨rfl, hJx4⟩)
        · have hKR4 := Lib.hid (hKR3.out.trans hk4)
          replace hJ4 := Lib.hid hJ4
          clear hk4 hKR3 z0 z1 z2 z3 z4
          gi_wp2
          go_roundw
          case rel => exact ⟨k + 1, by omega, by go_num, hKR4.out, by rw [hsc.out]; exact hJ4.out⟩
          case measure => (simp [intOf]; try omega)
        · gi_wp2
          refine bodyPost_ret (results_none rfl _ _ _) rfl ?_
          exact ⟨⟨_, rfl⟩, .inr ⟨_, hpr'.out, hJx4⟩⟩
    · obtain rfl : k = evs.length := by omega
      rw [List.take_length] at hJs
      replace hJs := Lib.hid hJs
      gi_wp2
      go_end0
      exact ⟨⟨_, rfl⟩, .inl ⟨_, rfl, hJs.out⟩⟩
end Go.Proofs.YtedfkonpkmckbaaDoor
