/- EventNil: a nil log. -/
import Derived.Test.YtedfkonpkmckbaaDoorLaw28
import Derived.Test.YtedfkonpkmckbaaDoorIter
namespace Go.Proofs.YtedfkonpkmckbaaDoor
open Go.RowKit

theorem lput_nil (p : Option Addr) (n c : Nat) (w : World) : Calls Tryd.prog 14 #[.pointer none, .slice p n c] w fun e w' => e = .returned (.int .i64 0) ∧ w = w' := by
  go_enter Tryd.func14, Tryd.ntmps14
  go_wp2
  go_ret
  exact ⟨rfl, rfl⟩
theorem llen_nil (w : World) : Calls Tryd.prog 17 #[.pointer none] w fun e w' => e = .returned (.int .i64 0) ∧ w = w' := by
  go_enter Tryd.func17, Tryd.ntmps17
  go_wp2
  go_ret
  exact ⟨rfl, rfl⟩
theorem llost_nil (w : World) : Calls Tryd.prog 16 #[.pointer none] w fun e w' => e = .returned (.int .i64 0) ∧ w = w' := by
  go_enter Tryd.func16, Tryd.ntmps16
  go_wp2
  go_ret
  exact ⟨rfl, rfl⟩
set_option maxHeartbeats 400000 in
theorem such28_any (q : Option Addr) (f : Fn) (xs lb : Array Value) (w : World) :
    Calls Tryd.prog 30 #[.pointer q, .func f xs lb] w fun e w' => e = .returned (.func (.func 41) #[] #[.pointer (some ⟨w.heap.size, 0, none⟩), .pointer (some ⟨w.heap.size + 1, 0, none⟩)]) ∧ (w.alloc (.cells #[.pointer q] 50)).alloc (.cells #[.func f xs lb] 60) = w' := by
  go_enter Tryd.func30, Tryd.ntmps30
  go_wp2
  go_ret
  exact ⟨rfl, rfl⟩
set_option maxRecDepth 100000 in
set_option maxHeartbeats 1000000 in
theorem suchNil_stops (B B2 n₀ : Nat) (w : World) (hB : Boxed w B 50 (.pointer none)) :
    SeqStopsK Fence.wide 8 Tryd.prog 41 #[.pointer (some ⟨B, 0, none⟩), .pointer (some ⟨B2, 0, none⟩)] (fun _ : Empty => #[Value.int .i64 0]) (KeepB n₀ B) (fun ys => ys = []) (fun pre => pre <+: []) ([] : List Empty).length w := by
  intro l J Jx W hW hJ _ hY h0
  have hBc := Boxed.cell ((hW.block B hB.lt).trans hB)
  refine callsIn_of_wp Tryd.func41 rfl trivial ?_ rfl
  simp only [Tryd.ntmps41, List.size_toArray, List.length_cons, List.length_nil, Nat.reduceAdd, Nat.reduceSub, Array.replicate_succ, Array.replicate_zero, List.push_toArray, List.append_toArray, List.nil_append, List.cons_append]
  gi_wp2
  (try simp only [Exit.inBlock, Exit.then])
  refine bodyPost_ret (results_none rfl _ _ _) rfl ?_
  first | exact ⟨⟨_, rfl⟩, .inl ⟨[], rfl, h0⟩⟩ | exact ⟨⟨_, rfl⟩, .inl h0⟩
set_option maxRecDepth 100000 in
set_option maxHeartbeats 2000000 in
theorem after_nil (n : Int) (w : World) : Calls Tryd.prog 22 #[.pointer none, .int .i64 n] w fun e w' => e = .returned (.slice none 0 0) ∧ Keeps w w' := by
  refine (callsIn_wide (n := 9)).1 ?_
  refine callsIn_of_wp_marks Tryd.func22 rfl trivial ?_ rfl
  simp only [Tryd.ntmps22, List.size_toArray, List.length_cons, List.length_nil, Nat.reduceAdd, Nat.reduceSub, Array.replicate_succ, Array.replicate_zero, List.push_toArray, List.append_toArray, List.nil_append, List.cons_append]
  gi_wp2_with (refine ⟨trivial, ?_⟩; gi_at_call 30; refine (callsIn_wide.2 (such28_any _ _ _ _ _)).mono ?_; rintro e w' ⟨rfl, rfl⟩)
  have bI := Boxed.new w 3 (.int .i64 n)
  have bO := Boxed.new (w.alloc (.cells #[.int .i64 n] 3)) 33 (.slice none 0 0)
  have bM := Boxed.new ((w.alloc (.cells #[.int .i64 n] 3)).alloc (.cells #[.slice none 0 0] 33)) 50 (.pointer none)
  simp only [World.size_alloc] at bO bM
  have hB0 : Below w.heap.size w ((((w.alloc (.cells #[.int .i64 n] 3)).alloc (.cells #[.slice none 0 0] 33)).alloc (.cells #[.pointer none] 50)).alloc (.cells #[.func (.func 33) #[] #[.pointer (some ⟨w.heap.size, 0, none⟩)]] 60)) := ((((Below.refl _ w).alloc (Nat.le_refl _) _).alloc (by simp) _).alloc (by simp; omega) _).alloc (by simp; omega) _
  refine iter_ruleB w (w.heap.size + 1 + 1) (gf := 41) (lb := #[.pointer (some ⟨w.heap.size + 1 + 1, 0, none⟩), .pointer (some ⟨w.heap.size + 1 + 1 + 1, 0, none⟩)]) rfl (enters_of Tryd.func41 (by kernel_rfl) rfl)
    (suchNil_stops (w.heap.size + 1 + 1) (w.heap.size + 1 + 1 + 1) w.heap.size _ (bM.alloc _)) (Below.refl _ _) hB0 (fun _ => rfl)
    (fun pre W => Boxed W (w.heap.size + 1) 33 (.slice none 0 0))
    (fun c pre W => False)
    (fun pre => Stays.boxed _ _ _ _)
    (fun c pre => Stays.pure _ _)
    ((bO.alloc _).alloc _)
    ?a1 ?assign ?body ?done ?stop
  case a1 => exact fun x => nomatch x
  case assign =>
    intro l x W K hK
    exact nomatch x
  case body =>
    rintro l pre x W hb hlt _
    exact nomatch x
  case done =>
    rintro D W hD hb hv hK
    have hc := hv.cell
    gi_wp2
    refine ret_marks hK rfl (v := .slice none 0 0) ?_ ⟨rfl, hb.putObj _ (by simp at hD; omega) hK⟩
    exact results_tmp (fn := Tryd.f22) rfl _ _ _
  case stop =>
    rintro D c pre W hD hpre hb h hK
    exact h.elim
set_option maxRecDepth 100000 in
set_option maxHeartbeats 2000000 in
theorem of_nil (p : Option Addr) (n c : Nat) (w : World) : Calls Tryd.prog 20 #[.pointer none, .slice p n c] w fun e w' => e = .returned (.slice none 0 0) ∧ Keeps w w' := by
  refine (callsIn_wide (n := 9)).1 ?_
  refine callsIn_of_wp_marks Tryd.func20 rfl trivial ?_ rfl
  simp only [Tryd.ntmps20, List.size_toArray, List.length_cons, List.length_nil, Nat.reduceAdd, Nat.reduceSub, Array.replicate_succ, Array.replicate_zero, List.push_toArray, List.append_toArray, List.nil_append, List.cons_append]
  gi_wp2_with (refine ⟨trivial, ?_⟩; gi_at_call 30; refine (callsIn_wide.2 (such28_any _ _ _ _ _)).mono ?_; rintro e w' ⟨rfl, rfl⟩)
  have bI := Boxed.new w 41 (.slice p n c)
  have bO := Boxed.new (w.alloc (.cells #[.slice p n c] 41)) 33 (.slice none 0 0)
  have bM := Boxed.new ((w.alloc (.cells #[.slice p n c] 41)).alloc (.cells #[.slice none 0 0] 33)) 50 (.pointer none)
  simp only [World.size_alloc] at bO bM
  have hB0 : Below w.heap.size w ((((w.alloc (.cells #[.slice p n c] 41)).alloc (.cells #[.slice none 0 0] 33)).alloc (.cells #[.pointer none] 50)).alloc (.cells #[.func (.func 31) #[] #[.pointer (some ⟨w.heap.size, 0, none⟩)]] 60)) := ((((Below.refl _ w).alloc (Nat.le_refl _) _).alloc (by simp) _).alloc (by simp; omega) _).alloc (by simp; omega) _
  refine iter_ruleB w (w.heap.size + 1 + 1) (gf := 41) (lb := #[.pointer (some ⟨w.heap.size + 1 + 1, 0, none⟩), .pointer (some ⟨w.heap.size + 1 + 1 + 1, 0, none⟩)]) rfl (enters_of Tryd.func41 (by kernel_rfl) rfl)
    (suchNil_stops (w.heap.size + 1 + 1) (w.heap.size + 1 + 1 + 1) w.heap.size _ (bM.alloc _)) (Below.refl _ _) hB0 (fun _ => rfl)
    (fun pre W => Boxed W (w.heap.size + 1) 33 (.slice none 0 0))
    (fun c pre W => False)
    (fun pre => Stays.boxed _ _ _ _)
    (fun c pre => Stays.pure _ _)
    ((bO.alloc _).alloc _)
    ?a1 ?assign ?body ?done ?stop
  case a1 => exact fun x => nomatch x
  case assign =>
    intro l x W K hK
    exact nomatch x
  case body =>
    rintro l pre x W hb hlt _
    exact nomatch x
  case done =>
    rintro D W hD hb hv hK
    have hc := hv.cell
    gi_wp2
    refine ret_marks hK rfl (v := .slice none 0 0) ?_ ⟨rfl, hb.putObj _ (by simp at hD; omega) hK⟩
    exact results_tmp (fn := Tryd.f20) rfl _ _ _
  case stop =>
    rintro D c pre W hD hpre hb h hK
    exact h.elim
set_option maxHeartbeats 400000 in
theorem list_nil (w : World) : Calls Tryd.prog 15 #[.pointer none] w fun e w' => e = .returned (.slice none 0 0) ∧ Keeps w w' := by
  have ha := after_nil 0
  replace ha := Lib.hid ha
  go_enter Tryd.func15, Tryd.ntmps15
  go_wp2_with fail
  with_reducible refine (ha.out _).mono ?_
  rintro e w1 ⟨rfl, hK⟩
  replace hK := Lib.hid hK
  go_wp2_with fail
  go_ret
  exact ⟨rfl, hK.out⟩
set_option maxRecDepth 100000 in
set_option maxHeartbeats 2000000 in
theorem lawNil28_any (e : EvS) (n : Int) (w : World) (hT : Tabs w) : Calls Tryd.prog 7 #[rvV e, .int .i64 n] w fun r w' => r = .returned (.bool true) ∧ Keeps w w' := by
  have fk := fun (W : World) (h : Keeps w W) => known28_any W (hT.keeps h)
  have fo := fun (W : World) => to_any e W
  have f1 := lput_nil
  have f2 := list_nil
  have f3 := after_nil n
  have f4 := of_nil
  have f5 := llen_nil
  have f6 := llost_nil
  obtain ⟨t, k, a, b, m⟩ := e
  have hB := Blk.new w 24 [.int .u64 (t : Int), .int .i64 k, .int .i64 a, .int .i64 b, .int .u64 (m : Int)]
  have hK := Keeps.alloc w (.cells [Value.int .u64 (t : Int), .int .i64 k, .int .i64 a, .int .i64 b, .int .u64 (m : Int)].toArray 24)
  obtain ⟨B, eB⟩ : ∃ B, B = w.heap.size := ⟨_, rfl⟩
  rw [← eB] at hB
  replace eB := Lib.hid eB
  replace hB := Lib.hid hB
  replace hK := Lib.hid hK
  replace fk := Lib.hid fk
  replace fo := Lib.hid fo
  replace f1 := Lib.hid f1
  replace f2 := Lib.hid f2
  replace f3 := Lib.hid f3
  replace f4 := Lib.hid f4
  replace f5 := Lib.hid f5
  replace f6 := Lib.hid f6
  clear hT
  go_enter Tryd.func7, Tryd.ntmps7
  go_upto_region 2 with (fail)
  rw [← eB.out]
  refine wp_gen (fun W => Blk W B 24 [.int .u64 (t : Int), .int .i64 k, .int .i64 a, .int .i64 b, .int .u64 (m : Int)] ∧ Keeps w W) ⟨hB.out, hK.out⟩ ?_
  clear hB hK eB
  rintro W ⟨hB, hK⟩
  have fk1 := fk.out W hK
  replace hB := Lib.hid hB
  replace hK := Lib.hid hK
  replace fk1 := Lib.hid fk1
  go_wp2_with fail
  with_reducible refine fk1.out.mono ?_
  rintro e w1 ⟨rfl, hK1⟩
  have hBw := hB.out.keeps hK1
  have hKw := Lib.hid (Keeps.trans hK.out hK1)
  have q0 := hBw.cell 0 (by simp)
  have q1 := hBw.cell 1 (by simp)
  have q2 := hBw.cell 2 (by simp)
  have q3 := hBw.cell 3 (by simp)
  have q4 := hBw.cell 4 (by simp)
  simp only [List.getElem_cons_zero, List.getElem_cons_succ] at q0 q1 q2 q3 q4
  clear hBw hK1 fk1 hB hK
  go_wp2_with fail
  with_reducible refine (fo.out _).mono ?_
  rintro e w2 ⟨rfl, hK2⟩
  have hKw := Lib.hid (Keeps.trans hKw.out hK2)
  clear hK2 q0 q1 q2 q3 q4
  go_wp2_with fail
  with_reducible refine (f1.out _ _ _ _).mono ?_
  rintro e w' ⟨rfl, rfl⟩
  go_wp2_with fail
  with_reducible refine (f2.out _).mono ?_
  rintro e w3 ⟨rfl, hK3⟩
  have hKw := Lib.hid (Keeps.trans (Keeps.trans hKw.out (Keeps.alloc _ _)) hK3)
  clear hK3
  go_wp2_with fail
  with_reducible refine (f3.out _).mono ?_
  rintro e w4 ⟨rfl, hK4⟩
  have hKw := Lib.hid (Keeps.trans hKw.out hK4)
  clear hK4
  go_wp2_with fail
  with_reducible refine (f4.out _ _ _ _).mono ?_
  rintro e w5 ⟨rfl, hK5⟩
  have hKw := Lib.hid (Keeps.trans (Keeps.trans hKw.out (Keeps.alloc _ _)) hK5)
  clear hK5
  go_wp2_with fail
  with_reducible refine (f5.out _).mono ?_
  rintro e w' ⟨rfl, rfl⟩
  go_wp2_with fail
  with_reducible refine (f6.out _).mono ?_
  rintro e w' ⟨rfl, rfl⟩
  go_wp2_with fail
  go_ret
  exact ⟨rfl, hKw.out⟩
end Go.Proofs.YtedfkonpkmckbaaDoor
