/- The walks of package mask's iterator, and of what goes over it. -/
import Derived.Test.YtefippjakkgjkaaDoorMaskA
import Derived.Test.YtefippjakkgjkaaDoorIter
namespace Go.Proofs.YtefippjakkgjkaaDoor
open Go.RowKit Go.Shelf

attribute [local go_sem] Oper.semAt_some

set_option maxRecDepth 100000 in
set_option maxHeartbeats 1000000 in
/-- **m.all()'s function**: it yields the numbers of m, rising. -/
theorem maskAll1_in (l B n₀ m : Nat) (hm : m < 18446744073709551616) (J Jx : List Nat → World → Prop) (W : World) (hg : 0 < n₀)
    (hY : ∀ pre x W1, J pre W1 → pre.length < (listN m).length → YieldAt Fence.wide 7 Tryd.prog l #[.int .i64 (x : Nat)] W1 fun e W' =>
      (e = .returned (.bool true) ∧ J (pre ++ [x]) W' ∧ Below n₀ W1 W') ∨ (e = .returned (.bool false) ∧ Jx (pre ++ [x]) W'))
    (hB : W.cell? ⟨B, 0, none⟩ = some (.int .u64 m)) (hT : TabAt W) (h0 : J [] W) :
    CallsIn Fence.wide 8 Tryd.prog 102 #[.func (.yield l) #[] #[], .pointer (some ⟨B, 0, none⟩)] W fun e W' => (∃ v, e = .returned v) ∧
      ((∃ ys, ys = listN m ∧ J ys W') ∨ (∃ pre, pre <+: listN m ∧ Jx pre W')) := by
  refine callsIn_of_wp Tryd.func102 rfl trivial ?_ rfl
  simp only [Tryd.ntmps102, List.size_toArray, List.length_cons, List.length_nil, Nat.reduceAdd, Nat.reduceSub, Array.replicate_succ, Array.replicate_zero, List.push_toArray, List.append_toArray, List.nil_append, List.cons_append]
  gi_wp2
  gi_loopw [3] (fun p wr => ∃ (pre : List Nat) (r : Nat), p = .int .u64 r ∧ listN m = pre ++ listN r ∧ r < 18446744073709551616 ∧ TabAt wr ∧ J pre wr)
    (fun p wr => (listN (intOf p).toNat).length)
  case atStart => exact ⟨[], m, rfl, rfl, hm, hT, h0⟩
  case round =>
    obtain ⟨pre, r, rfl, hx, hr, hTr, hJs⟩ := hrel
    by_cases hr0 : r = 0
    · subst hr0
      rw [listN_zero, List.append_nil] at hx
      replace hx := Lib.hid hx
      gi_wp2
      go_end0
      exact ⟨⟨_, rfl⟩, .inl ⟨pre, hx.out.symm, hJs⟩⟩
    · obtain ⟨hs, hc⟩ := listN_step r hr hr0
      have hrb : ((r : Int) != 0) = true := by rw [bne_iff_ne]; omega
      obtain ⟨fn, tmps, assign, body, hy, hR⟩ := hY pre (Lib.ctz 64 r) wr hJs (by rw [hx, hs]; simp)
      replace hx := Lib.hid hx
      replace hs := Lib.hid hs
      gi_wp2_with (refine ⟨trivial, ?_⟩; gi_at_call 103; refine (callsIn_wide.2 (tz_any r _ hr hr0 hTr)).mono ?_; rintro e w' ⟨rfl, rfl⟩)
      refine hR.mono ?_
      have hr1 : 1 ≤ r := by omega
      have e1 : bits .and .u64 (r : Int) ((r : Int) - 1) = ((r &&& (r - 1) : Nat) : Int) := by
        rw [show (r : Int) - 1 = ((r - 1 : Nat) : Int) by omega, bits_and_u64_nat _ _ hr (by omega)]
      have hlt : r &&& (r - 1) < 18446744073709551616 := Nat.lt_of_le_of_lt Nat.and_le_left hr
      rintro e W3 (⟨rfl, hJ3, hk3⟩ | ⟨rfl, hJx3⟩)
      · gi_wp2
        go_roundw
        case rel =>
          exact ⟨pre ++ [Lib.ctz 64 r], r &&& (r - 1), rfl, by rw [hx.out, hs.out]; simp, hlt, fun j hj => (hk3.cell (p := ⟨0, j, none⟩) hg).trans (hTr j hj), hJ3⟩
        case measure =>
          simp only [intOf]
          rw [Int.toNat_natCast, Int.toNat_natCast, hs.out]; simp
      · gi_wp2
        refine bodyPost_ret (results_none rfl _ _ _) rfl ?_
        exact ⟨⟨_, rfl⟩, .inr ⟨pre ++ [Lib.ctz 64 r], ⟨listN (r &&& (r - 1)), by rw [hx.out, hs.out]; simp⟩, hJx3⟩⟩

set_option maxHeartbeats 400000 in
theorem maskAll_any (m : Nat) (w : World) :
    Calls Tryd.prog 100 #[.int .u64 m] w fun e w' => e = .returned (.func (.func 102) #[] #[.pointer (some ⟨w.heap.size, 0, none⟩)]) ∧ w.alloc (.cells #[.int .u64 m] 46) = w' := by
  go_enter Tryd.func100, Tryd.ntmps100
  go_wp2
  go_ret
  exact ⟨rfl, rfl⟩

/-- **m.all() yields listN m.** -/
theorem maskAll_stops (B n₀ m : Nat) (hm : m < 18446744073709551616) (w : World) (hB : w.cell? ⟨B, 0, none⟩ = some (.int .u64 m)) (hT : TabAt w) (hg : 0 < n₀) :
    SeqStopsK Fence.wide 8 Tryd.prog 102 #[.pointer (some ⟨B, 0, none⟩)] (fun x : Nat => #[Value.int .i64 x]) (Below n₀) (fun ys => ys = listN m) (fun pre => pre <+: listN m) (listN m).length w := fun l J Jx W hW _ _ hY h0 =>
  maskAll1_in l B n₀ m hm J Jx W hg hY ((hW.cell (p := ⟨B, 0, none⟩) (cell_lt hB)).trans hB) (hT.keeps hW) h0

set_option maxHeartbeats 400000 in
theorem nextFn_any (i k : Int) (B : Nat) (w : World) (hB : w.cell? ⟨B, 0, none⟩ = some (.int .i64 i)) :
    Calls Tryd.prog 98 #[.int .i64 k, .pointer (some ⟨B, 0, none⟩)] w fun e w' => e = .returned (.bool (decide (i ≤ k))) ∧ w = w' := by
  go_enter Tryd.func98, Tryd.ntmps98
  go_wp2
  go_ret
  exact ⟨rfl, rfl⟩

def geB (i : Int) (k : Nat) : Bool := decide (i ≤ (k : Int))

/-- Next's function as a value. -/
abbrev nextFn (B : Nat) : Value := .func (.func 98) #[] #[.pointer (some ⟨B, 0, none⟩)]

set_option maxRecDepth 100000 in
set_option maxHeartbeats 2000000 in
/-- **first**, at Next's function. -/
theorem first_any (m : Nat) (i : Int) (B : Nat) (w : World) (hm : m < 18446744073709551616) (hB : w.cell? ⟨B, 0, none⟩ = some (.int .i64 i)) (hT : TabAt w) :
    Calls Tryd.prog 97 #[.int .u64 m, nextFn B] w fun e w' => e = .returned (.tuple #[.int .i64 (nextV m i), .bool (nextIs m i)]) ∧ Keeps w w' := by
  have hBl := cell_lt hB
  have hg := cell_lt (hT 0 (by decide))
  refine (callsIn_wide (n := 9)).1 ?_
  refine callsIn_of_wp_marks Tryd.func97 rfl trivial ?_ rfl
  simp only [Tryd.ntmps97, List.size_toArray, List.length_cons, List.length_nil, Nat.reduceAdd, Nat.reduceSub, Array.replicate_succ, Array.replicate_zero, List.push_toArray, List.append_toArray, List.nil_append, List.cons_append]
  gi_wp2_with (refine ⟨trivial, ?_⟩; gi_at_call 100; refine (callsIn_wide.2 (maskAll_any _ _)).mono ?_; rintro e w' ⟨rfl, rfl⟩)
  have bS := Boxed.new w 41 (nextFn B)
  have b4 := Boxed.new (w.alloc (.cells #[nextFn B] 41)) 3 (.int .i64 0)
  have b5 := Boxed.new ((w.alloc (.cells #[nextFn B] 41)).alloc (.cells #[.int .i64 0] 3)) 4 (.bool false)
  have bM := Boxed.new (((w.alloc (.cells #[nextFn B] 41)).alloc (.cells #[.int .i64 0] 3)).alloc (.cells #[.bool false] 4)) 46 (.int .u64 m)
  simp only [World.size_alloc] at b4 b5 bM
  have hB0 : Below w.heap.size w ((((w.alloc (.cells #[nextFn B] 41)).alloc (.cells #[.int .i64 0] 3)).alloc (.cells #[.bool false] 4)).alloc (.cells #[.int .u64 m] 46)) :=
    ((((Below.refl _ w).alloc (Nat.le_refl _) _).alloc (by simp) _).alloc (by simp; omega) _).alloc (by simp; omega) _
  refine iter_rule w (gf := 102) (lb := #[.pointer (some ⟨w.heap.size + 1 + 1 + 1, 0, none⟩)]) rfl (enters_of Tryd.func102 (by kernel_rfl) rfl)
    (maskAll_stops (w.heap.size + 1 + 1 + 1) w.heap.size m hm _ bM.cell (hT.keeps hB0) hg) (Below.refl _ _) hB0 (fun _ => rfl)
    (fun pre W => pre.find? (geB i) = none ∧ Boxed W w.heap.size 41 (nextFn B) ∧ Boxed W (w.heap.size + 1) 3 (.int .i64 0) ∧ Boxed W (w.heap.size + 1 + 1) 4 (.bool false))
    (fun c pre W => c = .ret ∧ ∃ k : Nat, pre.find? (geB i) = some k ∧ Boxed W (w.heap.size + 1) 3 (.int .i64 k) ∧ Boxed W (w.heap.size + 1 + 1) 4 (.bool true))
    (fun pre => (Stays.pure _ _).and ((Stays.boxed _ _ _ _).and ((Stays.boxed _ _ _ _).and (Stays.boxed _ _ _ _))))
    (fun c pre => (Stays.pure _ _).and (Stays.ex fun k => (Stays.pure _ _).and ((Stays.boxed _ _ _ _).and (Stays.boxed _ _ _ _))))
    ⟨rfl, ((bS.alloc _).alloc _).alloc _, (b4.alloc _).alloc _, b5.alloc _⟩
    ?a1 ?assign ?body ?done ?stop
  case assign =>
    intro l x W K hK
    gi_wp2
    exact hK
  case body =>
    rintro l pre x W hb hlt ⟨hp, c3, c4, c5⟩
    have hBW : W.cell? ⟨B, 0, none⟩ = some (.int .i64 i) := (hb.cell (p := ⟨B, 0, none⟩) hBl).trans hB
    have hc3 := c3.cell
    have hc4 := c4.cell
    have hf4 := c4.frozen
    have hc5 := c5.cell
    have hf5 := c5.frozen
    by_cases hik : i ≤ (x : Int)
    · gi_wp2_with (refine ⟨trivial, ?_⟩; gi_at_call 98; refine (CallsIn.inRound l (callsIn_wide.2 (nextFn_any _ _ _ _ hBW))).mono ?_; rintro e w' ⟨rfl, rfl⟩)
      refine ⟨((KeepsOthers.setCell _ _ _).trans (KeepsOthers.setCell _ _ _)).from _, ((Below.refl w.heap.size W).setCell (p := ⟨w.heap.size + 1, 0, none⟩) (by simp) _).setCell (p := ⟨w.heap.size + 1 + 1, 0, none⟩) (by simp; omega) _, rfl, x, ?_, ?_, ?_⟩
      · simp [hp, geB, hik]
      · exact (c4.set _).other (by omega) _
      · exact (c5.other (by omega) _).set _
    · gi_wp2_with (refine ⟨trivial, ?_⟩; gi_at_call 98; refine (CallsIn.inRound l (callsIn_wide.2 (nextFn_any _ _ _ _ hBW))).mono ?_; rintro e w' ⟨rfl, rfl⟩)
      exact ⟨KeepsFrom.refl _ _, Below.refl _ _, by simp [hp, geB]; omega, c3, c4, c5⟩
  case done =>
    rintro D W hD hb ⟨hp, c3, c4, c5⟩ hK
    have hf4 := c4.frozen
    have hf5 := c5.frozen
    have hc4 := c4.cell
    have hc5 := c5.cell
    gi_wp2
    have hK' := ((KeepsOthers.setCell W ⟨w.heap.size + 1, 0, none⟩ (.int .i64 0)).trans (KeepsOthers.setCell _ ⟨w.heap.size + 1 + 1, 0, none⟩ (.bool false))).same D _ hK rfl
    have d4 := (((c4.set (.int .i64 0)).other (B' := w.heap.size + 1 + 1) (by omega) (.bool false)).putObj (.deferred none) hK' rfl).cell
    have d5 := (((c5.other (B' := w.heap.size + 1) (by omega) (.int .i64 0)).set (.bool false)).putObj (.deferred none) hK' rfl).cell
    refine ret_marks hK' rfl (v := .tuple #[.int .i64 (nextV m i), .bool (nextIs m i)]) ?_ ⟨rfl, ?_⟩
    · have e : nextN m i = none := hp
      simp [results, Tryd.f97, go_sem, d4, d5, nextV, nextIs, e]
    · exact Below.putObj ((hb.setCell (p := ⟨w.heap.size + 1, 0, none⟩) (by simp) _).setCell (p := ⟨w.heap.size + 1 + 1, 0, none⟩) (by simp; omega) _) _ (by simp at hD; omega) hK'
  case stop =>
    rintro D c pre W hD hpre hb ⟨rfl, k, hp, c4, c5⟩ hK
    gi_wp2
    have d4 := (c4.putObj (.deferred none) hK rfl).cell
    have d5 := (c5.putObj (.deferred none) hK rfl).cell
    refine ret_marks hK rfl (v := .tuple #[.int .i64 (nextV m i), .bool (nextIs m i)]) ?_ ⟨rfl, ?_⟩
    · have e : nextN m i = some k := by
        obtain ⟨rest, hr⟩ := hpre
        show (listN m).find? (geB i) = _
        rw [← hr, List.find?_append, hp]; rfl
      simp [results, Tryd.f97, go_sem, d4, d5, nextV, nextIs, e]
    · exact hb.putObj _ (by simp at hD; omega) hK

set_option maxHeartbeats 400000 in
theorem next_any (m : Nat) (i : Int) (w : World) (hm : m < 18446744073709551616) (hT : TabAt w) :
    Calls Tryd.prog 88 #[.int .u64 m, .int .i64 i] w fun e w' => e = .returned (.tuple #[.int .i64 (nextV m i), .bool (nextIs m i)]) ∧ Keeps w w' := by
  have bI := (Boxed.new w 3 (.int .i64 i)).cell
  have hT' := hT.keeps (Keeps.alloc w (.cells #[.int .i64 i] 3))
  go_enter Tryd.func88, Tryd.ntmps88
  go_wp2_with (go_at_call 97; refine (first_any m i _ _ hm bI hT').mono ?_; rintro e w' ⟨rfl, hk⟩)
  go_ret2
  exact ⟨rfl, (Keeps.alloc w _).trans hk⟩

set_option maxHeartbeats 400000 in
theorem around_any (m : Nat) (i : Int) (w : World) (hm : m < 18446744073709551616) (hT : TabAt w) :
    Calls Tryd.prog 77 #[.int .u64 m, .int .i64 i] w fun e w' => e = .returned (.tuple #[.int .i64 (aroundV m i), .bool (aroundIs m i)]) ∧ Keeps w w' := by
  cases hn : nextIs m i with
  | true =>
    have hc := next_any m i w hm hT
    rw [hn] at hc
    have e1 : aroundV m i = nextV m i := by
      obtain ⟨k, hk⟩ := Option.isSome_iff_exists.1 hn
      simp [aroundV, aroundN, nextV, hk]
    have e2 : aroundIs m i = true := by
      obtain ⟨k, hk⟩ := Option.isSome_iff_exists.1 hn
      simp [aroundIs, aroundN, hk]
    rw [e1, e2]
    replace hn := Lib.hid hn
    go_enter Tryd.func77, Tryd.ntmps77
    go_wp2_with (go_at_call 88; refine hc.mono ?_; rintro e w' ⟨rfl, hk⟩)
    go_ret2
    exact ⟨rfl, hk⟩
  | false =>
    have hc := next_any m i w hm hT
    rw [hn] at hc
    have e1 : aroundV m i = nextV m 0 := by
      have : nextN m i = none := by simpa [nextIs] using hn
      simp [aroundV, aroundN, nextV, this]
    have e2 : aroundIs m i = nextIs m 0 := by
      have : nextN m i = none := by simpa [nextIs] using hn
      simp [aroundIs, aroundN, nextIs, this]
    rw [e1, e2]
    replace hn := Lib.hid hn
    go_enter Tryd.func77, Tryd.ntmps77
    go_wp2_with fail
    refine hc.mono ?_
    rintro e w1 ⟨rfl, hk⟩
    go_wp2_with fail
    refine (next_any m 0 w1 hm (hT.keeps hk)).mono ?_
    rintro e w2 ⟨rfl, hk2⟩
    go_wp2_with fail
    go_ret2
    exact ⟨rfl, hk.trans hk2⟩

theorem infoInt : (Tryd.prog.info? 3).map (fun i => (i.zero, i.size, i.bytes)) = some (some (.int .i64 0), 1, 8) := by kernel_rfl
/-- A list of small numbers as integers. -/
def natInts (l : List Nat) : List Value := l.map fun (k : Nat) => Value.int .i64 (k : Int)
theorem natInts_len (l : List Nat) : (natInts l).length = l.length := by simp [natInts]

end Go.Proofs.YtefippjakkgjkaaDoor
