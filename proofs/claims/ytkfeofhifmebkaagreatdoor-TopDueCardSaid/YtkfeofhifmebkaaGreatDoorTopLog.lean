/- The events of a log that lies at a place within a block, told from one on: (*event.Log).After. -/
import Derived.Test.YtkfeofhifmebkaaGreatDoorIterG
import Derived.Test.YtkfeofhifmebkaaGreatDoorMut
import Derived.Test.YtkfeofhifmebkaaGreatDoorQuietRow
import Derived.BigRegion
import Derived.BigQuiet
import Derived.Deep.DeepCutAuto
import Derived.Deep.CutBlock
import Derived.Maps.AppendAt
namespace Go.Proofs.YtkfeofhifmebkaaGreatDoor
open Go.RowKit Go.Shelf
attribute [local go_sem] Oper.semAt_some

/-- An event: its five cells. -/
structure Ev5 where
  t : Int
  k : Int
  a : Int
  b : Int
  n : Int
def ev5C (e : Ev5) : List Value := [.int .u64 e.t, .int .i64 e.k, .int .i64 e.a, .int .i64 e.b, .int .u64 e.n]
abbrev ev5V (e : Ev5) : Value := .agg #[.int .u64 e.t, .int .i64 e.k, .int .i64 e.a, .int .i64 e.b, .int .u64 e.n]
theorem infoEv : (Tryz.prog.info? 34).map (fun i => (i.zero, i.size, i.bytes)) = some (some (.agg #[.int .u64 0, .int .i64 0, .int .i64 0, .int .i64 0, .int .u64 0]), 5, 40) := by kernel_rfl
theorem ev5C_one (e : Ev5) : ∀ y ∈ ev5C e, y.oneCell' = true := by
  intro y hy; simp only [ev5C, List.mem_cons, List.not_mem_nil, or_false] at hy
  rcases hy with rfl | rfl | rfl | rfl | rfl <;> rfl
theorem rowS_chg {W W' : World} {v : Value} {sz m : Nat} {e : TypeId} {els : List (List Value)} {D : Nat → Prop} (h : RowS sz m e W v els) (hc : Chg D W W') (h2 : ∀ b, v.ownBlock = some b → ¬ D b) : RowS sz m e W' v els := by
  refine ⟨?_, h.2⟩
  obtain ⟨hl, hr⟩ := h.1
  refine ⟨hl, hr.imp id ?_⟩
  rintro ⟨g, cap, cur, rfl, h3, h4, h5⟩
  exact ⟨g, cap, cur, rfl, h3, (hc.block g (Array.getElem?_eq_some_iff.1 h4).1 (h2 g rfl)).trans h4, h5⟩
/-- The cells of an event's block. -/
theorem evBlk {W : World} {A : Nat} {t n kd a b : Int} (h : Blk W A 34 [.int .u64 t, .int .i64 kd, .int .i64 a, .int .i64 b, .int .u64 n]) :
    W.cell? ⟨A, 0, none⟩ = some (.int .u64 t) ∧ W.cell? ⟨A, 1, none⟩ = some (.int .i64 kd) ∧ W.cell? ⟨A, 2, none⟩ = some (.int .i64 a) ∧ W.cell? ⟨A, 3, none⟩ = some (.int .i64 b) ∧ W.cell? ⟨A, 4, none⟩ = some (.int .u64 n) :=
  ⟨h.cell 0 (by simp), h.cell 1 (by simp), h.cell 2 (by simp), h.cell 3 (by simp), h.cell 4 (by simp)⟩
/-- A log at place o of block q: its events in a row v. -/
structure LogO (W : World) (q o : Nat) (evs : List Ev5) (v : Value) : Prop where
  hdr : W.cell? ⟨q, o, none⟩ = some v
  row : RowS 5 0 34 W v (evs.map ev5C)
theorem LogO.keeps {W W' : World} {q o : Nat} {evs : List Ev5} {v : Value} (h : LogO W q o evs v) (hk : Keeps W W') : LogO W' q o evs v :=
  ⟨(hk.cell (p := ⟨q, o, none⟩) (cell_lt h.hdr)).trans h.hdr, rowS_chg (D := fun _ => False) h.row (Chg.of_keeps hk) fun _ _ h => h⟩
theorem LogO.lt {W : World} {q o : Nat} {evs : List Ev5} {v : Value} (h : LogO W q o evs v) : ∀ b, v.ownBlock = some b → b < W.heap.size := by
  intro b hb
  rcases h.row.1.2 with ⟨rfl, _⟩ | ⟨g, cap, cur, rfl, _, h4, _⟩
  · simp [Value.ownBlock] at hb
  · simp [Value.ownBlock] at hb; subst hb; exact (Array.getElem?_eq_some_iff.1 h4).1
theorem LogO.slice {W : World} {q o : Nat} {evs : List Ev5} {v : Value} (h : LogO W q o evs v) : ∃ p cap, v = .slice p evs.length cap := by
  obtain ⟨p, cap, hv, _⟩ := h.row.slcs.get
  exact ⟨p, cap, by simpa using hv⟩
set_option maxHeartbeats 400000 in
theorem such28_any (q : Option Addr) (f : Fn) (xs lb : Array Value) (w : World) :
    Calls Tryz.prog 53 #[.pointer q, .func f xs lb] w fun e w' => e = .returned (.func (.func 80) #[] #[.pointer (some ⟨w.heap.size, 0, none⟩), .pointer (some ⟨w.heap.size + 1, 0, none⟩)]) ∧ (w.alloc (.cells #[.pointer q] 128)).alloc (.cells #[.func f xs lb] 132) = w' := by
  go_enter Tryz.func53, Tryz.ntmps53
  go_wp2
  go_ret
  exact ⟨rfl, rfl⟩
theorem after1_any {w : World} {B : Nat} {n : Int} (k : Int) (e : Ev5) (h : Boxed w B 3 (.int .i64 n)) :
    Calls Tryz.prog 54 #[.int .i64 k, ev5V e, .pointer (some ⟨B, 0, none⟩)] w fun r w' => r = .returned (.bool (decide (n ≤ k))) ∧ Keeps w w' := by
  obtain ⟨t, kd, a, b, m⟩ := e
  have hk := Keeps.alloc w (.cells #[.int .u64 t, .int .i64 kd, .int .i64 a, .int .i64 b, .int .u64 m] 34)
  have hc := (h.alloc (.cells #[.int .u64 t, .int .i64 kd, .int .i64 a, .int .i64 b, .int .u64 m] 34)).cell
  replace hk := Lib.hid hk
  clear h
  go_enter Tryz.func54, Tryz.ntmps54
  go_wp2_with fail
  go_ret
  exact ⟨rfl, hk.out⟩
/-- The events that p takes (of a place and an event). -/
def selF (p : Nat → Ev5 → Bool) (l : List Ev5) : List Ev5 := (l.zipIdx.filter (fun x => p x.2 x.1)).map (·.1)
theorem selF_take (p : Nat → Ev5 → Bool) (l : List Ev5) (k : Nat) (h : k < l.length) : selF p (l.take (k + 1)) = selF p (l.take k) ++ (if p k l[k] = true then [l[k]] else []) := by
  unfold selF
  rw [List.take_succ_eq_append_getElem h, List.zipIdx_append, List.filter_append, List.map_append]
  congr 1
  rw [List.length_take, Nat.min_eq_left (Nat.le_of_lt h)]
  simp only [List.zipIdx_cons, List.zipIdx_nil, List.filter_cons, List.filter_nil, Nat.zero_add]
  split <;> rfl
theorem selF_pre (p : Nat → Ev5 → Bool) (l : List Ev5) (k : Nat) : selF p (l.take k) <+: selF p l := by
  unfold selF
  conv => rhs; rw [← List.take_append_drop k l]
  rw [List.zipIdx_append, List.filter_append, List.map_append]
  exact List.prefix_append _ _
theorem KeepR.rowS {n O sz m : Nat} {e : TypeId} {W W' : World} {v : Value} {els : List (List Value)} (h : KeepR n O W W') (hr : RowS sz m e W v els) (ha : ∀ b, v.ownBlock = some b → ApartR W O b) : RowS sz m e W' v els := by
  refine ⟨?_, hr.2⟩
  obtain ⟨hl, hr⟩ := hr.1
  refine ⟨hl, hr.imp id ?_⟩
  rintro ⟨g, cap, cur, rfl, h3, h4, h5⟩
  exact ⟨g, cap, cur, rfl, h3, h.cells g _ (ha g rfl).1 (ha g rfl).2 h4 rfl, h5⟩
set_option maxRecDepth 100000 in
set_option maxHeartbeats 2000000 in
/-- **such's function.** -/
theorem such1_in (l B B2 n₀ O q o : Nat) (evs : List Ev5) (v : Value) (p : Nat → Ev5 → Bool) (fcl : Nat) (lb : Array Value) (J Jx : List Ev5 → World → Prop) (W : World)
    (hY : ∀ pre x W1, J pre W1 → pre.length < (selF p evs).length → YieldAt Fence.wide 7 Tryz.prog l #[ev5V x] W1 fun e W' =>
      (e = .returned (.bool true) ∧ J (pre ++ [x]) W' ∧ KeepR n₀ O W1 W') ∨ (e = .returned (.bool false) ∧ Jx (pre ++ [x]) W'))
    (hJk : ∀ pre W1 W2, J pre W1 → Keeps W1 W2 → J pre W2)
    (hf : ∀ wr, KeepR n₀ O W wr → ∀ (k : Nat) (x : Ev5), Calls Tryz.prog fcl (#[.int .i64 (k : Int), ev5V x] ++ lb) wr fun r w' => r = .returned (.bool (p k x)) ∧ Keeps wr w')
    (he : ∀ args w, (callFunc fcl args).run Tryz.prog w = .ok (.enter fcl args) w)
    (hB : Boxed W B 128 (.pointer (some ⟨q, o, none⟩))) (hB2 : Boxed W B2 132 (.func (.func fcl) #[] lb)) (haB2 : ApartR W O B2) (haq : ApartR W O q) (hav : ∀ b, v.ownBlock = some b → ApartR W O b)
    (hOl : O < W.heap.size) (hn : n₀ ≤ W.heap.size) (hL : LogO W q o evs v) (h4 : evs.length ≤ 4096) (h0 : J [] W) :
    CallsIn Fence.wide 8 Tryz.prog 80 #[.func (.yield l) #[] #[], .pointer (some ⟨B, 0, none⟩), .pointer (some ⟨B2, 0, none⟩)] W fun e W' => (∃ v, e = .returned v) ∧
      ((∃ ys, ys = selF p evs ∧ J ys W') ∨ (∃ pre, pre <+: selF p evs ∧ Jx pre W')) := by
  have hBc := hB.cell
  obtain ⟨vq, vc, rfl⟩ := hL.slice
  have c0 : W.cell? ⟨q, o, none⟩ = some (.slice vq evs.length vc) := hL.hdr
  have hKR0 : KeepR n₀ O W W := KeepR.refl hn hOl
  replace hY := Lib.hid hY
  replace hJk := Lib.hid hJk
  replace hf := Lib.hid hf
  replace hB2 := Lib.hid hB2
  replace hL := Lib.hid hL
  replace haB2 := Lib.hid haB2
  replace haq := Lib.hid haq
  replace hav := Lib.hid hav
  replace hKR0 := Lib.hid hKR0
  clear hB
  refine callsIn_of_wp Tryz.func80 rfl trivial ?_ rfl
  simp only [Tryz.ntmps80, List.size_toArray, List.length_cons, List.length_nil, Nat.reduceAdd, Nat.reduceSub, Array.replicate_succ, Array.replicate_zero, List.push_toArray, List.append_toArray, List.nil_append, List.cons_append]
  gi_wp2
  gi_loopw [13] (fun i wr => ∃ k : Nat, k ≤ evs.length ∧ i = .int .i64 k ∧ KeepR n₀ O W wr ∧ J (selF p (evs.take k)) wr) (fun i _ => evs.length - (intOf i).toNat)
  case atStart => exact ⟨0, Nat.zero_le _, rfl, hKR0.out, h0⟩
  case round =>
    clear c0 hBc h0 hKR0
    obtain ⟨k, hk, rfl, hKR, hJs⟩ := hrel
    by_cases hlt : k < evs.length
    · have hltI := Int.ofNat_lt.2 hlt
      obtain ⟨q', c', hv', _, _, hcell⟩ := (hKR.rowS hL.out.row hav.out).slcs.get
      obtain ⟨cb, off, hq', hcell⟩ := hcell k (by rw [List.length_map]; exact hlt)
      simp only [Value.slice.injEq] at hv'
      obtain rfl : vq = some ⟨cb, off, none⟩ := hv'.1.trans hq'
      have e0 : (evs.map ev5C).getD k [] = ev5C evs[k] := by simp [List.getD, hlt]
      rw [e0] at hcell
      have y0 := hcell 0 (by decide)
      have y1 := hcell 1 (by decide)
      have y2 := hcell 2 (by decide)
      have y3 := hcell 3 (by decide)
      have y4 := hcell 4 (by decide)
      clear hcell hv' hq' e0
      have hsc := selF_take p evs k hlt
      have hpr := selF_pre p evs (k + 1)
      have hlp := hpr.length_le
      generalize selF p (evs.take k) = pre at *
      generalize hx1 : evs[k] = e at *
      obtain ⟨t, kd, a, b, n⟩ := e
      simp only [ev5C, List.getD_cons_zero, List.getD_cons_succ, Nat.add_zero] at y0 y1 y2 y3 y4
      have hKa := Keeps.alloc wr (.cells #[.int .u64 t, .int .i64 kd, .int .i64 a, .int .i64 b, .int .u64 n] 34)
      have hKR2 := hKR.trans (KeepR.of_keeps hKa (Nat.le_trans hn hKR.below.size) (Nat.lt_of_lt_of_le hOl hKR.below.size))
      have cF := (hKR2.boxed hB2.out haB2.out).cell
      have hcl := hf.out _ hKR2 k ⟨t, kd, a, b, n⟩
      have hJ2 := hJk.out _ _ _ hJs hKa
      replace hKR2 := Lib.hid hKR2
      replace hcl := Lib.hid hcl
      replace hJ2 := Lib.hid hJ2
      replace hsc := Lib.hid hsc
      replace hpr := Lib.hid hpr
      replace hlp := Lib.hid hlp
      clear hKR hJs hKa
      have hAb := Blk.new wr 34 [.int .u64 t, .int .i64 kd, .int .i64 a, .int .i64 b, .int .u64 n]
      replace hAb := Lib.hid hAb
      gi_wp2
      refine ⟨trivial, ?_⟩
      refine (callsIn_wide.2 hcl.out).mono ?_
      rintro r W3 ⟨rfl, hK3⟩
      have hKR3 := hKR2.out.trans (KeepR.of_keeps hK3 (Nat.le_trans hn hKR2.out.below.size) (Nat.lt_of_lt_of_le hOl hKR2.out.below.size))
      have hJ3 := hJk.out _ _ _ hJ2.out hK3
      obtain ⟨z0, z1, z2, z3, z4⟩ := evBlk (hAb.out.keeps hK3)
      cases hpk : p k ⟨t, kd, a, b, n⟩ with
      | false =>
        rw [hpk] at hsc
        replace hsc := hsc.out
        simp only [Bool.false_eq_true, if_false, List.append_nil] at hsc
        replace hsc := Lib.hid hsc
        replace hKR3 := Lib.hid hKR3
        replace hJ3 := Lib.hid hJ3
        clear hpr hcl hK3 hJ2 hKR2 hAb y0 y1 y2 y3 y4 cF z0 z1 z2 z3 z4
        gi_wp2
        refine ⟨fun f h => (nomatch h), ?_⟩
        gi_wp2
        go_roundw
        case rel => exact ⟨k + 1, by omega, by go_num, hKR3.out, by rw [hsc.out]; exact hJ3.out⟩
        case measure => (simp [intOf]; try omega)
      | true =>
        rw [hpk] at hsc
        replace hsc := hsc.out
        simp only [if_true] at hsc
        have hpr' := hpr.out
        have hlp' := hlp.out
        rw [hsc] at hpr' hlp'
        rw [List.length_append, List.length_singleton] at hlp'
        have hy0 := hY.out pre ⟨t, kd, a, b, n⟩ W3 hJ3 (by omega)
        obtain ⟨fn, tmps, assign, body, hy, hRd⟩ := hy0
        replace hRd := Lib.hid hRd
        replace hpr' := Lib.hid hpr'
        replace hsc := Lib.hid hsc
        replace hKR3 := Lib.hid hKR3
        clear hlp hlp' hpr hcl hK3 hJ3 hJ2 hKR2 hAb y0 y1 y2 y3 y4 cF
        gi_wp2
        refine hRd.out.mono ?_
        rintro e W4 (⟨rfl, hJ4, hk4⟩ | ⟨rfl, hJx4⟩)
        · have hKR4 := Lib.hid (hKR3.out.trans hk4)
          replace hJ4 := Lib.hid hJ4
          clear hk4 hKR3 z0 z1 z2 z3 z4
          gi_wp2
          go_roundw
          case rel => exact ⟨k + 1, by omega, by go_num, hKR4.out, by rw [hsc.out]; exact hJ4.out⟩
          case measure => (simp [intOf]; try omega)
        · gi_wp2
          refine bodyPost_ret (results_none rfl _ _ _) rfl ?_
          exact ⟨⟨_, rfl⟩, .inr ⟨_, hpr'.out, hJx4⟩⟩
    · obtain rfl : k = evs.length := by omega
      rw [List.take_length] at hJs
      replace hJs := Lib.hid hJs
      gi_wp2
      go_end0
      exact ⟨⟨_, rfl⟩, .inl ⟨_, rfl, hJs.out⟩⟩
theorem such_stops (B B2 n₀ O q o : Nat) (evs : List Ev5) (v : Value) (p : Nat → Ev5 → Bool) (fcl : Nat) (lb : Array Value) (w : World) (he : ∀ args w, (callFunc fcl args).run Tryz.prog w = .ok (.enter fcl args) w)
    (hf : ∀ W wr, Keeps w W → KeepR n₀ O W wr → (∀ k, k ≠ O → ApartR W O k) → ∀ (k : Nat) (x : Ev5), Calls Tryz.prog fcl (#[.int .i64 (k : Int), ev5V x] ++ lb) wr fun r w' => r = .returned (.bool (p k x)) ∧ Keeps wr w')
    (hB : Boxed w B 128 (.pointer (some ⟨q, o, none⟩))) (hB2 : Boxed w B2 132 (.func (.func fcl) #[] lb)) (hO2 : B2 ≠ O) (hOq : q ≠ O) (hvO : v.ownBlock ≠ some O)
    (hOl : O < w.heap.size) (hOv : w.cell? ⟨O, 0, none⟩ = some (.slice none 0 0)) (hn : n₀ ≤ w.heap.size) (hL : LogO w q o evs v) (h4 : evs.length ≤ 4096) :
    SeqStopsK Fence.wide 8 Tryz.prog 80 #[.pointer (some ⟨B, 0, none⟩), .pointer (some ⟨B2, 0, none⟩)] (fun x : Ev5 => #[ev5V x]) (KeepR n₀ O) (fun ys => ys = selF p evs) (fun pre => pre <+: selF p evs) (selF p evs).length w := fun l J Jx W hW hJ _ hY h0 => by
  have hOW : W.cell? ⟨O, 0, none⟩ = some (.slice none 0 0) := (hW.cell (p := ⟨O, 0, none⟩) hOl).trans hOv
  have hap : ∀ k, k ≠ O → ApartR W O k := fun k hk => ⟨hk, fun v hv => by rw [hOW] at hv; cases hv; simp [Value.ownBlock]⟩
  exact such1_in l B B2 n₀ O q o evs v p fcl lb J Jx W hY (fun pre W1 W2 h hk => hJ pre W1 _ none h (keeps_grown hk) (fun r e => by cases e))
    (fun wr hk k x => hf W wr hW hk hap k x) he ((hW.block B hB.lt).trans hB) ((hW.block B2 hB2.lt).trans hB2) (hap B2 hO2) (hap q hOq) (fun b hb => hap b fun e => hvO (e ▸ hb)) (Nat.lt_of_lt_of_le hOl hW.size) (Nat.le_trans hn hW.size) (hL.keeps hW) h4 h0
theorem selF_len (p : Nat → Ev5 → Bool) (l : List Ev5) : (selF p l).length ≤ l.length := by
  unfold selF
  rw [List.length_map]
  exact Nat.le_trans (List.length_filter_le _ _) (by rw [List.length_zipIdx]; exact Nat.le_refl _)
set_option maxRecDepth 100000 in
set_option maxHeartbeats 2000000 in
/-- **After**, in new memory. -/
theorem after_any {w : World} {q o : Nat} {evs : List Ev5} {v : Value} (n : Int) (hL : LogO w q o evs v) (h4 : evs.length ≤ 4096) :
    Calls Tryz.prog 32 #[.pointer (some ⟨q, o, none⟩), .int .i64 n] w fun e w' => ∃ u, e = .returned u ∧ RowS 5 w.heap.size 34 w' u ((selF (fun k _ => decide (n ≤ (k : Int))) evs).map ev5C) ∧ Keeps w w' := by
  have hql := cell_lt hL.hdr
  have hvl := hL.lt
  generalize hp : (fun (k : Nat) (_ : Ev5) => decide (n ≤ (k : Int))) = p
  have hsl := selF_len p evs
  refine (callsIn_wide (n := 9)).1 ?_
  refine callsIn_of_wp_marks Tryz.func32 rfl trivial ?_ rfl
  simp only [Tryz.ntmps32, List.size_toArray, List.length_cons, List.length_nil, Nat.reduceAdd, Nat.reduceSub, Array.replicate_succ, Array.replicate_zero, List.push_toArray, List.append_toArray, List.nil_append, List.cons_append]
  gi_wp2_with (refine ⟨trivial, ?_⟩; gi_at_call 53; refine (callsIn_wide.2 (such28_any _ _ _ _ _)).mono ?_; rintro e w' ⟨rfl, rfl⟩)
  have bI := Boxed.new w 3 (.int .i64 n)
  have bO := Boxed.new (w.alloc (.cells #[.int .i64 n] 3)) 29 (.slice none 0 0)
  have bM := Boxed.new ((w.alloc (.cells #[.int .i64 n] 3)).alloc (.cells #[.slice none 0 0] 29)) 128 (.pointer (some ⟨q, o, none⟩))
  have bF := Boxed.new (((w.alloc (.cells #[.int .i64 n] 3)).alloc (.cells #[.slice none 0 0] 29)).alloc (.cells #[.pointer (some ⟨q, o, none⟩)] 128)) 132 (.func (.func 54) #[] #[.pointer (some ⟨w.heap.size, 0, none⟩)])
  simp only [World.size_alloc] at bO bM bF
  have hB0 : Keeps w ((((w.alloc (.cells #[.int .i64 n] 3)).alloc (.cells #[.slice none 0 0] 29)).alloc (.cells #[.pointer (some ⟨q, o, none⟩)] 128)).alloc (.cells #[.func (.func 54) #[] #[.pointer (some ⟨w.heap.size, 0, none⟩)]] 132)) := (((Keeps.alloc _ _).trans (Keeps.alloc _ _)).trans (Keeps.alloc _ _)).trans (Keeps.alloc _ _)
  have hsz : ((((w.alloc (.cells #[.int .i64 n] 3)).alloc (.cells #[.slice none 0 0] 29)).alloc (.cells #[.pointer (some ⟨q, o, none⟩)] 128)).alloc (.cells #[.func (.func 54) #[] #[.pointer (some ⟨w.heap.size, 0, none⟩)]] 132)).heap.size = w.heap.size + 4 := by simp
  have bI4 := (((bI.alloc (.cells #[.slice none 0 0] 29)).alloc (.cells #[.pointer (some ⟨q, o, none⟩)] 128)).alloc (.cells #[.func (.func 54) #[] #[.pointer (some ⟨w.heap.size, 0, none⟩)]] 132))
  have bO4 := ((bO.alloc (.cells #[.pointer (some ⟨q, o, none⟩)] 128)).alloc (.cells #[.func (.func 54) #[] #[.pointer (some ⟨w.heap.size, 0, none⟩)]] 132))
  have bM4 := (bM.alloc (.cells #[.func (.func 54) #[] #[.pointer (some ⟨w.heap.size, 0, none⟩)]] 132))
  have hL4 := hL.keeps hB0
  generalize hWW : ((((w.alloc (.cells #[.int .i64 n] 3)).alloc (.cells #[.slice none 0 0] 29)).alloc (.cells #[.pointer (some ⟨q, o, none⟩)] 128)).alloc (.cells #[.func (.func 54) #[] #[.pointer (some ⟨w.heap.size, 0, none⟩)]] 132)) = w4 at *
  clear bI bO bM
  have hst := such_stops (w.heap.size + 1 + 1) (w.heap.size + 1 + 1 + 1) w.heap.size (w.heap.size + 1) q o evs v p 54 #[.pointer (some ⟨w.heap.size, 0, none⟩)] w4 (enters_of Tryz.func54 (by kernel_rfl) rfl)
    (fun W wr hk hr hap k x => by
      rw [← hp]
      exact after1_any (k : Int) x (hr.boxed ((hk.block _ bI4.lt).trans bI4) (hap _ (by omega))))
    bM4 bF (by omega) (by omega) (fun e => by have := hvl _ e; omega) (by omega) bO4.cell (by omega) hL4 h4
  refine iter_ruleH w (KeepR w.heap.size (w.heap.size + 1)) KeepR.trans (fun W l o o' hl hlo hc _ => KeepR.putObj hlo hc (by omega) (by omega)) (gf := 80) (lb := #[.pointer (some ⟨w.heap.size + 1 + 1, 0, none⟩), .pointer (some ⟨w.heap.size + 1 + 1 + 1, 0, none⟩)]) rfl (enters_of Tryz.func80 (by kernel_rfl) rfl)
    hst (Below.refl _ _) hB0 (fun _ => rfl)
    (fun pre W => ∃ u, Boxed W (w.heap.size + 1) 29 u ∧ RowS 5 (w.heap.size + 4) 34 W u (pre.map ev5C) ∧ w.heap.size + 4 ≤ W.heap.size)
    (fun c pre W => False)
    (fun pre => Stays.ex fun u => (Stays.boxed _ _ _ _).and ((Stays.and Stays.row (Stays.pure _ _)).and (Stays.size _ _)))
    (fun c pre => Stays.pure _ _)
    ⟨_, bO4, RowS.nil _ _ _ _, by omega⟩
    (fun x a' W => ∃ B, w.heap.size + 4 ≤ B ∧ Blk W B 34 (ev5C x) ∧ a' = { tmps := #[.pointer (some ⟨q, o, none⟩), .int .i64 n, undef, .pointer (some ⟨w.heap.size, 0, none⟩), .slice none 0 0, .pointer (some ⟨w.heap.size + 1, 0, none⟩), .pointer (some ⟨B, 0, none⟩), .pointer (some ⟨q, o, none⟩), .func (.func 54) #[] #[.pointer (some ⟨w.heap.size, 0, none⟩)], .func (.func 80) #[] #[.pointer (some ⟨w.heap.size + 1 + 1, 0, none⟩), .pointer (some ⟨w.heap.size + 1 + 1 + 1, 0, none⟩)], ev5V x, undef, undef, undef, undef, undef], defers := [] })
    (fun x a' => Stays.ex fun B => (Stays.pure _ _).and ((Stays.blk _ _ _ _).and (Stays.pure _ _)))
    ?assign ?body ?done ?stop
  case assign =>
    rintro l pre ⟨xt, xk, xa, xb, xn⟩ W K hb ⟨u, hv, hrow, hsz2⟩ hK
    have hk : Keeps W (W.alloc (.cells (ev5C ⟨xt, xk, xa, xb, xn⟩).toArray 34)) := Keeps.alloc _ _
    have hbs := hb.size
    have hvl := hv.lt
    gi_wp2
    refine hK _ _ (keepsFrom_keeps hk) (KeepR.of_keeps hk hbs hvl) (below_of_keeps hk hbs) ⟨u, hv.alloc _, hrow.alloc _, by simp; omega⟩ ⟨W.heap.size, hsz2, Blk.new _ _ _, rfl⟩
  case body =>
    rintro l pre x a' W hb hlt ⟨u, hv, hrow, hsz2⟩ ⟨B, hBB, hBx, rfl⟩
    have hc := hv.cell
    obtain ⟨x0, x1, x2, x3, x4⟩ := evBlk hBx
    have hbs := hb.size
    have hvl := hv.lt
    have hml : (pre.map ev5C).length = pre.length := by simp
    gi_wp2_with (gi_at_builtin; refine appOneIn rfl _ _ 29 34 _ 5 40 rfl Tryz.underlying29 infoEv rfl (by decide) (w.heap.size + 4) _ _ rfl hrow (ev5C x) rfl rfl (ev5C_one _) ?c1 ?c2 ?c3 ?_)
    case c1 => rw [hml]; unfold maxLen; omega
    case c2 => rw [hml]; omega
    case c3 => omega
    intro g2 cap2 W1 hrow2 hgrow hbel hat
    obtain ⟨W2, hW2⟩ : ∃ W2, W2 = W1.setCell ⟨w.heap.size + 1, 0, none⟩ (.slice (some ⟨g2, 0, none⟩) (pre.length + 1) cap2) := ⟨_, rfl⟩
    have hne : u.ownBlock ≠ some (w.heap.size + 1) := fun e => by have := hrow.own _ e; omega
    have hv1 : Boxed W1 (w.heap.size + 1) 29 u := (hv.alloc _).kept hgrow (fun e => hne e.symm)
    have hc1 := hv1.cell
    have hf1 := hv1.frozen
    have hbel1 : Below w.heap.size W W1 := Below.mono hbel (by omega)
    have hat1 : (Value.slice (some ⟨g2, 0, none⟩) (pre.length + 1) cap2).ownBlock = u.ownBlock ∨ ∀ r, (Value.slice (some ⟨g2, 0, none⟩) (pre.length + 1) cap2).ownBlock = some r → W.heap.size ≤ r := by
      rcases hat with h | h
      · exact .inl h.symm
      · exact .inr fun r e => by simp [Value.ownBlock] at e; omega
    have hkr : KeepR w.heap.size (w.heap.size + 1) W W2 := KeepR.appended hv hgrow hbel1 (by omega) hat1 hW2 (by rw [hc1]; rfl)
    have hrow3 : RowS 5 (w.heap.size + 4) 34 W2 (.slice (some ⟨g2, 0, none⟩) (pre.length + 1) cap2) ((pre ++ [x]).map ev5C) := by
      rw [hW2]
      refine RowS.chg (S := (· = w.heap.size + 1)) ?_ (Chg.setCell _ _ rfl) (fun b hb hs => by omega)
      simpa [List.map_append] using hrow2
    have hv2 : Boxed W2 (w.heap.size + 1) 29 (.slice (some ⟨g2, 0, none⟩) (pre.length + 1) cap2) := by rw [hW2]; exact hv1.set _
    have hko : KeepsOthers W W2 := by rw [hW2]; exact keepsOthers_appended hrow hgrow _ _
    have hbel2 : Below w.heap.size W W2 := hkr.below
    have hs2 : w.heap.size + 4 ≤ W2.heap.size := Nat.le_trans hsz2 hbel2.size
    replace hW2 := Lib.hid hW2
    replace hkr := Lib.hid hkr
    replace hrow3 := Lib.hid hrow3
    replace hv2 := Lib.hid hv2
    replace hko := Lib.hid hko
    clear hrow2 hgrow hbel hrow hv hat hat1 hc x0 x1 x2 x3 x4
    gi_wp2
    rw [← hW2.out]
    exact ⟨⟨hko.out.from _, hbel2, _, hv2.out, hrow3.out, hs2⟩, hkr.out⟩
  case done =>
    rintro D W hD hb ⟨u, hv, hrow, hsz2⟩ hK
    have hc := hv.cell
    gi_wp2
    refine ret_marks hK rfl (v := u) ?_ ⟨u, rfl, ?_, hb.putObj _ (by omega) hK⟩
    · exact results_tmp (fn := Tryz.f32) rfl _ _ _
    · exact RowS.base_le ⟨ownsRow_putObj hrow.1 _ hK rfl, hrow.2⟩ (by omega)
  case stop =>
    rintro D c pre W hD hpre hb h hK
    exact h.elim
end Go.Proofs.YtkfeofhifmebkaaGreatDoor
