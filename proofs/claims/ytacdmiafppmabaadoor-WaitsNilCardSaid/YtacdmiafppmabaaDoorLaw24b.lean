/- Nil waits; WaitsNil. -/
import Derived.Test.YtacdmiafppmabaaDoorLaw24
namespace Go.Proofs.YtacdmiafppmabaaDoor
open Go.RowKit Go.Shelf
attribute [local go_sem] Oper.semAt_some

set_option maxRecDepth 100000 in
set_option maxHeartbeats 1000000 in
theorem such_nil (lb : Array Value) (g : Nat) (w : World) : Calls Tryd.prog 22 #[.pointer none, .func (.func g) #[] lb] w fun e w' => e = .returned (.int .u64 0) ∧ w = w' := by
  have hfo := fun (k : Nat) (W : World) => for_nil (k : Int) W
  replace hfo := Lib.hid hfo
  go_enter Tryd.func22, Tryd.ntmps22
  go_wp2_with fail
  go_loopw [5, 9] (fun mv kv wr => ∃ k : Nat, k ≤ 32 ∧ mv = .int .u64 0 ∧ kv = .int .i64 (k : Int) ∧ wr = w) (fun _ kv _ => 32 - (intOf kv).toNat)
  case atStart => exact ⟨0, by omega, rfl, rfl, rfl⟩
  case round =>
    obtain ⟨k, hk, rfl, rfl, rfl⟩ := hrel
    by_cases hlt : k < 32
    · have hltI : (k : Int) < 32 := by omega
      go_wp2_with fail
      refine (hfo.out k wr).mono ?_
      rintro e w' ⟨rfl, rfl⟩
      go_wp2_with fail
      go_roundw
      case rel => exact ⟨k + 1, by omega, rfl, by go_num, trivial⟩
      case measure => (simp [intOf]; try omega)
    · obtain rfl : k = 32 := by omega
      go_wp2_with fail
      go_ret
      exact ⟨rfl, rfl⟩
set_option maxHeartbeats 400000 in
theorem by_nil (x : Int) (w : World) : Calls Tryd.prog 18 #[.pointer none, .int .i64 x] w fun e w' => e = .returned (.int .u64 0) ∧ Keeps w w' := by
  have hs := fun lb W => such_nil lb 29 W
  have hK := Keeps.alloc w (.cells #[.int .i64 x] 3)
  replace hs := Lib.hid hs
  replace hK := Lib.hid hK
  go_enter Tryd.func18, Tryd.ntmps18
  go_wp2_with fail
  refine (hs.out _ _).mono ?_
  rintro e w' ⟨rfl, rfl⟩
  go_wp2_with fail
  go_ret
  exact ⟨rfl, hK.out⟩
set_option maxHeartbeats 400000 in
theorem waiting_nil (w : World) : Calls Tryd.prog 20 #[.pointer none] w fun e w' => e = .returned (.int .u64 0) ∧ w = w' := by
  have hs := fun lb W => such_nil lb 30 W
  replace hs := Lib.hid hs
  go_enter Tryd.func20, Tryd.ntmps20
  go_wp2_with fail
  refine (hs.out _ _).mono ?_
  rintro e w' ⟨rfl, rfl⟩
  go_wp2_with fail
  go_ret
  exact ⟨rfl, rfl⟩
set_option maxHeartbeats 400000 in
theorem drop_nil (a : Int) (w : World) : Calls Tryd.prog 16 #[.pointer none, .int .i64 a] w fun e w' => e = .returned (.bool false) ∧ w = w' := by
  have hfo := for_nil a w
  replace hfo := Lib.hid hfo
  go_enter Tryd.func16, Tryd.ntmps16
  go_wp2_with fail
  refine hfo.out.mono ?_
  rintro e w' ⟨rfl, rfl⟩
  go_wp2_with fail
  go_ret
  exact ⟨rfl, rfl⟩
set_option maxHeartbeats 400000 in
theorem wake_nil (v : Value) (zs : List Int) (w : World) (hv : Ints w v zs) (hT : TabAt w) : Calls Tryd.prog 7 #[.pointer none, v] w fun e w' => ∃ q c, e = .returned (.slice q 0 c) ∧ Keeps w w' := by
  have hs := fun lb W => such_nil lb 23 W
  have hK := Keeps.alloc w (.cells #[v] 29)
  have hli := list_any 0 _ (by decide) (hT.keeps hK)
  rw [listN_zero, show lenN 0 = 0 by unfold lenN; rw [listN_zero]; rfl] at hli
  obtain ⟨q, cap, rfl, _⟩ := hv.open
  replace hs := Lib.hid hs
  replace hK := Lib.hid hK
  replace hli := Lib.hid hli
  clear hv
  go_enter Tryd.func7, Tryd.ntmps7
  go_wp2_with fail
  refine (hs.out _ _).mono ?_
  rintro e w' ⟨rfl, rfl⟩
  go_wp2_with fail
  refine hli.out.mono ?_
  rintro e w2 ⟨u, rfl, hrow, hK2⟩
  obtain ⟨uq, uc, hu, _⟩ := slc_of_row hrow
  have hu2 : u = .slice uq 0 uc := hu
  subst hu2
  have hK3 := Keeps.trans hK.out hK2
  replace hK3 := Lib.hid hK3
  clear hrow hu hK2 hli hK
  go_wp2_with fail
  go_loopw [14] (fun iv wr => iv = .int .i64 0 ∧ wr = w2) (fun iv _ => 0)
  case atStart => exact ⟨rfl, rfl⟩
  case round =>
    obtain ⟨rfl, rfl⟩ := hrel
    go_wp2_with fail
    go_ret
    exact ⟨_, _, rfl, hK3.out⟩
set_option maxRecDepth 100000 in
set_option maxHeartbeats 1000000 in
theorem chainNil_stops (B B2 n₀ : Nat) (a : Int) (w : World) (hB : Boxed w B 51 (.pointer none)) (hB2 : Boxed w B2 3 (.int .i64 a)) :
    SeqStopsK Fence.wide 8 Tryd.prog 35 #[.pointer (some ⟨B, 0, none⟩), .pointer (some ⟨B2, 0, none⟩)] (fun x : Nat => #[Value.int .i64 (x : Int)]) (KeepB n₀ B) (fun ys => ys = []) (fun pre => pre <+: []) ([] : List Nat).length w := by
  intro l J Jx W hW hJ _ hY h0
  have hBc := Boxed.cell ((hW.block B hB.lt).trans hB)
  have hB2c := Boxed.cell ((hW.block B2 hB2.lt).trans hB2)
  have hfo := for_nil a W
  refine callsIn_of_wp Tryd.func35 rfl trivial ?_ rfl
  simp only [Tryd.ntmps35, List.size_toArray, List.length_cons, List.length_nil, Nat.reduceAdd, Nat.reduceSub, Array.replicate_succ, Array.replicate_zero, List.push_toArray, List.append_toArray, List.nil_append, List.cons_append]
  gi_wp2_with (refine ⟨trivial, ?_⟩; gi_at_call 9; refine (callsIn_wide.2 hfo).mono ?_; rintro e w' ⟨rfl, rfl⟩)
  clear hfo
  gi_loopw [5] (fun iv wr => iv = .bool false ∧ J [] wr) (fun iv _ => 0)
  case atStart => exact ⟨rfl, h0⟩
  case round =>
    obtain ⟨rfl, hJs⟩ := hrel
    gi_wp2
    go_end0
    exact ⟨⟨_, rfl⟩, .inl ⟨[], rfl, hJs⟩⟩
set_option maxRecDepth 100000 in
set_option maxHeartbeats 2000000 in
theorem chain_nil (a : Int) (w : World) : Calls Tryd.prog 8 #[.pointer none, .int .i64 a] w fun e w' => e = .returned (.slice none 0 0) ∧ Keeps w w' := by
  refine (callsIn_wide (n := 9)).1 ?_
  refine callsIn_of_wp_marks Tryd.func8 rfl trivial ?_ rfl
  simp only [Tryd.ntmps8, List.size_toArray, List.length_cons, List.length_nil, Nat.reduceAdd, Nat.reduceSub, Array.replicate_succ, Array.replicate_zero, List.push_toArray, List.append_toArray, List.nil_append, List.cons_append]
  gi_wp2_with (refine ⟨trivial, ?_⟩; gi_at_call 26; refine (callsIn_wide.2 (chainFn_any _ _ ⟨_, rfl⟩ ⟨_, rfl⟩ _)).mono ?_; rintro e w' ⟨rfl, rfl⟩)
  have bO := Boxed.new w 29 (.slice none 0 0)
  have bM := Boxed.new (w.alloc (.cells #[.slice none 0 0] 29)) 51 (.pointer none)
  have bA := Boxed.new ((w.alloc (.cells #[.slice none 0 0] 29)).alloc (.cells #[.pointer none] 51)) 3 (.int .i64 a)
  simp only [World.size_alloc] at bM bA
  have hB0 : Below w.heap.size w (((w.alloc (.cells #[.slice none 0 0] 29)).alloc (.cells #[.pointer none] 51)).alloc (.cells #[.int .i64 a] 3)) := (((Below.refl _ w).alloc (Nat.le_refl _) _).alloc (by simp) _).alloc (by simp; omega) _
  refine iter_ruleB w (w.heap.size + 1) (gf := 35) (lb := #[.pointer (some ⟨w.heap.size + 1, 0, none⟩), .pointer (some ⟨w.heap.size + 1 + 1, 0, none⟩)]) rfl (enters_of Tryd.func35 (by kernel_rfl) rfl)
    (chainNil_stops (w.heap.size + 1) (w.heap.size + 1 + 1) w.heap.size a _ (bM.alloc _) bA) (Below.refl _ _) hB0 (fun _ => rfl)
    (fun pre W => Boxed W w.heap.size 29 (.slice none 0 0))
    (fun c pre W => False)
    (fun pre => Stays.boxed _ _ _ _)
    (fun c pre => Stays.pure _ _)
    ((bO.alloc _).alloc _)
    ?a1 ?assign ?body ?done ?stop
  case assign =>
    intro l x W K hK
    gi_wp2
    exact hK
  case body =>
    rintro l pre x W hb hlt _
    exact absurd hlt (Nat.not_lt_zero _)
  case done =>
    rintro D W hD hb hv hK
    have hc := hv.cell
    gi_wp2
    refine ret_marks hK rfl (v := .slice none 0 0) ?_ ⟨rfl, hb.putObj _ (by simp at hD; omega) hK⟩
    exact results_tmp (fn := Tryd.f8) rfl _ _ _
  case stop =>
    rintro D c pre W hD hpre hb h hK
    exact h.elim
set_option maxRecDepth 100000 in
set_option maxHeartbeats 2000000 in
theorem lawNil24_any (a b : Int) (w : World) (hT : TabAt w) : Calls Tryd.prog 5 #[.int .i64 a, .int .i64 b] w fun e w' => e = .returned (.bool true) ∧ Keeps w w' := by
  have hkn := known24_any w hT
  have hfo := for_nil a
  have hwa := wait_nil a b
  have hdr := drop_nil a
  have hch := chain_nil a
  have hby := by_nil b
  have hwt := waiting_nil
  replace hkn := Lib.hid hkn
  replace hfo := Lib.hid hfo
  replace hwa := Lib.hid hwa
  replace hdr := Lib.hid hdr
  replace hch := Lib.hid hch
  replace hby := Lib.hid hby
  replace hwt := Lib.hid hwt
  go_enter Tryd.func5, Tryd.ntmps5
  go_wp2_with fail
  refine (hfo.out _).mono ?_
  rintro e w' ⟨rfl, rfl⟩
  go_wp2_with fail
  refine hkn.out.mono ?_
  rintro e w1 ⟨rfl, hk1⟩
  go_wp2_with fail
  refine (hwa.out _).mono ?_
  rintro e w' ⟨rfl, rfl⟩
  have hk2 := Keeps.trans hk1 (Keeps.alloc w1 (.cells #[.int .i64 a, .int .i64 b] 3))
  have hwk := wake_nil _ _ _ (ints_two w1 a b) (hT.keeps hk2)
  replace hwk := Lib.hid hwk
  replace hk2 := Lib.hid hk2
  clear hk1
  go_wp2_with fail
  refine hwk.out.mono ?_
  rintro e w3 ⟨q, c, rfl, hk⟩
  have hk3 := Lib.hid (Keeps.trans hk2.out hk)
  clear hk hk2 hwk
  go_wp2_with fail
  refine (hdr.out _).mono ?_
  rintro e w' ⟨rfl, rfl⟩
  go_wp2_with fail
  refine (hch.out _).mono ?_
  rintro e w4 ⟨rfl, hk⟩
  have hk4 := Lib.hid (Keeps.trans hk3.out hk)
  clear hk hk3
  go_wp2_with fail
  refine (hby.out _).mono ?_
  rintro e w5 ⟨rfl, hk⟩
  have hk5 := Lib.hid (Keeps.trans hk4.out hk)
  clear hk hk4
  go_wp2_with fail
  refine (hwt.out _).mono ?_
  rintro e w' ⟨rfl, rfl⟩
  go_wp2_with fail
  go_ret
  exact ⟨rfl, hk5.out⟩
end Go.Proofs.YtacdmiafppmabaaDoor
