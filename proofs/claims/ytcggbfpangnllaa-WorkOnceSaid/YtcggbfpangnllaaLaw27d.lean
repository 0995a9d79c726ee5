/- The law WorkOnce. -/
import Derived.Test.YtcggbfpangnllaaWorkN
import Derived.Test.YtcggbfpangnllaaOpen27
import Derived.Test.YtcggbfpangnllaaModn
import Derived.Deep.DeepCutAuto
import Derived.Deep.CutBlock
namespace Go.Proofs.Ytcggbfpangnllaa
open Go.RowKit i64

/-- What holds while WorkOnce goes: the works, and the law's tables. -/
structure O3 (w : World) (k p rb cap : Nat) (pp bb : Nat → Nat) (M : Nat) (f5 f6 f7 : Nat → Int) (s : WS) (W : World) : Prop where
  wi : WI w k p rb cap 3 pp bb s W
  t5 : Blk W M 41 (rowI 16 f5)
  t6 : Blk W (M + 1) 42 (rowI 32 f6)
  t7 : Blk W (M + 1 + 1) 43 (rowI 3 f7)
  own : w.heap.size ≤ M
  lowF : ∀ b, FW k p rb 3 pp bb b → b < M
section
variable {w W W' : World} {k p rb cap M : Nat} {pp bb : Nat → Nat} {f5 f6 f7 : Nat → Int} {s s' : WS}
theorem O3.turn (h : O3 w k p rb cap pp bb M f5 f6 f7 s W) (hi : WI w k p rb cap 3 pp bb s' W') (hC : Chg (FW k p rb 3 pp bb) W W') : O3 w k p rb cap pp bb M f5 f6 f7 s' W' :=
  ⟨hi, h.t5.chg hC (fun e => by have := h.lowF _ e; omega), h.t6.chg hC (fun e => by have := h.lowF _ e; omega), h.t7.chg hC (fun e => by have := h.lowF _ e; omega), h.own, h.lowF⟩
theorem O3.kept (h : O3 w k p rb cap pp bb M f5 f6 f7 s W) (hk : Keeps W W') : O3 w k p rb cap pp bb M f5 f6 f7 s W' := h.turn (h.wi.kept hk) (Chg.of_keeps hk)
theorem O3.farW (h : O3 w k p rb cap pp bb M f5 f6 f7 s W) {B j : Nat} (hB : M ≤ B) (v : Value) : WI w k p rb cap 3 pp bb s (W.setCell ⟨B, j, none⟩ v) :=
  h.wi.far (Chg.setCell (S := (· = B)) _ _ rfl) (fun b hb => by
    subst hb
    have := h.own
    exact ⟨fun hF => by have := h.lowF _ (.inl hF); omega, fun e => by have := h.lowF _ (.inr e); omega, by omega⟩)
theorem O3.set5 (h : O3 w k p rb cap pp bb M f5 f6 f7 s W) (x : Nat) (v : Int) : O3 w k p rb cap pp bb M (updI f5 x v) f6 f7 s (W.setCell ⟨M, x, none⟩ (.int .i64 v)) :=
  ⟨h.farW (Nat.le_refl _) _, by rw [← rowI_set]; exact h.t5.set _ _, h.t6.other (by omega) _ _, h.t7.other (by omega) _ _, h.own, h.lowF⟩
theorem O3.set6 (h : O3 w k p rb cap pp bb M f5 f6 f7 s W) (x : Nat) (v : Int) : O3 w k p rb cap pp bb M f5 (updI f6 x v) f7 s (W.setCell ⟨M + 1, x, none⟩ (.int .i64 v)) :=
  ⟨h.farW (by omega) _, h.t5.other (by omega) _ _, by rw [← rowI_set]; exact h.t6.set _ _, h.t7.other (by omega) _ _, h.own, h.lowF⟩
theorem O3.set7 (h : O3 w k p rb cap pp bb M f5 f6 f7 s W) (x : Nat) (v : Int) : O3 w k p rb cap pp bb M f5 f6 (updI f7 x v) s (W.setCell ⟨M + 1 + 1, x, none⟩ (.int .i64 v)) :=
  ⟨h.farW (by omega) _, h.t5.other (by omega) _ _, h.t6.other (by omega) _ _, by rw [← rowI_set]; exact h.t7.set _ _, h.own, h.lowF⟩
end
set_option maxRecDepth 100000 in
set_option maxHeartbeats 4000000 in
theorem lawOnce27_any (v : Value) (acts : List Act27) (w : World) (hv : SlcS 4 w v (acts.map aE27)) :
    Calls Try.prog 4 #[v] w fun e w' => e = .returned (.bool true) ∧ Keeps w w' := by
  have hkn := fun (W : World) => known27_any W
  have hst := WI.start (n := 3) (by decide) (by decide) w
  rw [show ((3 : Nat) : Int) = 3 from rfl] at hst
  obtain ⟨q, cap, rfl, hl, hc, _⟩ := SlcS.get hv
  rw [List.length_map] at hl ⊢
  have haI : (0 : Int) ≤ (acts.length : Int) := by omega
  replace hkn := Lib.hid hkn
  replace hst := Lib.hid hst
  replace hv := Lib.hid hv
  go_enter Try.func4, Try.ntmps4
  go_wp2_with fail
  refine hst.out.mono ?_
  rintro e w1 ⟨k, p, rb, cap2, pp, bb, rfl, hL⟩
  obtain ⟨M, hM⟩ : ∃ M, M = w1.heap.size := ⟨_, rfl⟩
  have hO : O3 w k p rb cap2 pp bb M (fun _ => 0) (fun _ => 0) (fun _ => 0) WS.zero (((w1.alloc (.cells (rowI 16 fun _ => 0).toArray 41)).alloc (.cells (rowI 32 fun _ => 0).toArray 42)).alloc (.cells (rowI 3 fun _ => 0).toArray 43)) := by
    have hs := hL.keeps.size
    have b6 := Blk.new (w1.alloc (.cells (rowI 16 fun _ => 0).toArray 41)) 42 (rowI 32 fun _ => 0)
    have b7 := Blk.new ((w1.alloc (.cells (rowI 16 fun _ => 0).toArray 41)).alloc (.cells (rowI 32 fun _ => 0).toArray 42)) 43 (rowI 3 fun _ => 0)
    simp only [World.size_alloc] at b6 b7
    rw [hM]
    refine ⟨hL.kept ((Keeps.alloc _ _).trans ((Keeps.alloc _ _).trans (Keeps.alloc _ _))), ((Blk.new w1 _ _).alloc _).alloc _, b6.alloc _, b7, hs, fun b hb => ?_⟩
    rcases hb with hb | rfl
    · exact hL.pr.foot_lt b hb
    · exact hL.blk.lt
  have hz1 := zero16
  have hz2 := zero32o
  have hz3 := zero3
  replace hO := Lib.hid hO
  replace hM := Lib.hid hM
  clear hst hL
  go_upto_region 7 with (fail)
  rw [← hM.out]
  refine wp_gen (fun W => O3 w k p rb cap2 pp bb M (fun _ => 0) (fun _ => 0) (fun _ => 0) WS.zero W) hO.out ?_
  clear hO hM hz1 hz2 hz3
  rintro W hO
  replace hO := Lib.hid hO
  go_wp2_with fail
  go_loopw [8] (fun i wr => ∃ (j : Nat) (s : WS) (f5 f6 f7 : Nat → Int), j ≤ acts.length ∧ j ≤ 100 ∧ i = .int .i64 (j : Int) ∧ O3 w k p rb cap2 pp bb M f5 f6 f7 s wr ∧ Agree s f5 f6 f7) (fun i _ => acts.length - (intOf i).toNat)
  case atStart => exact ⟨0, WS.zero, _, _, _, by omega, by omega, rfl, hO.out, Agree.zero⟩
  case round =>
    clear hO
    obtain ⟨j, s, f5, f6, f7, hj, hj2, rfl, hO, hA⟩ := hrel
    obtain ⟨wo, hwo⟩ : ∃ wo : World, wo = wr := ⟨_, rfl⟩
    rw [← hwo] at hO ⊢
    clear hwo
    by_cases hgo : j < acts.length ∧ j < 100
    · obtain ⟨hlt, h100⟩ := hgo
      have hltI := Int.ofNat_lt.2 hlt
      have h100I : (j : Int) < 100 := by omega
      have hk0 : (0 : Int) ≤ (j : Int) := by omega
      obtain ⟨q', c', hv', _, _, hcell⟩ := SlcS.get (SlcS.below hv.out hO.wi.keeps)
      obtain ⟨ab, aoff, hq', hcell⟩ := hcell j (by rw [List.length_map]; exact hlt)
      simp only [Value.slice.injEq] at hv'
      obtain rfl : q = some ⟨ab, aoff, none⟩ := hv'.1.trans hq'
      have e0 : (acts.map aE27).getD j [] = aE27 acts[j] := by simp [List.getD, hlt]
      rw [e0] at hcell
      have y0 := hcell 0 (by decide)
      have y1 := hcell 1 (by decide)
      have y2 := hcell 2 (by decide)
      have y3 := hcell 3 (by decide)
      clear hcell hv' hq' e0
      generalize acts[j] = a at *
      obtain ⟨ki, id, cp, cx⟩ := a
      simp only [aE27, List.getD_cons_zero, List.getD_cons_succ, Nat.add_zero] at y0 y1 y2 y3
      obtain ⟨kd, hkd, ek⟩ := wrap_mod ki 8 (by decide)
      obtain ⟨x, hx, ex⟩ := wrap_mod id 16 (by decide)
      obtain ⟨c, hc3, ec⟩ := wrap_mod cp 3 (by decide)
      obtain ⟨t, ht, et⟩ := wrap_mod cx 32 (by decide)
      replace hO := Lib.hid hO
      replace hA := Lib.hid hA
      go_upto_region 11 with (fail)
      go_quiet (fail)
      rename_i nq
      go_upto_region 12 with (fail)
      have hO1 := hO.out.kept ((Keeps.alloc wo (.cells #[.int .i64 ki, .int .i64 id, .int .i64 cp, .int .i64 cx] 45)).trans (Keeps.drewN _ nq))
      have hAB : ((wo.alloc (.cells #[.int .i64 ki, .int .i64 id, .int .i64 cp, .int .i64 cx] 45)).drewN nq).cell? ⟨wo.heap.size, 0, none⟩ = some (.int .i64 ki) :=
        Blk.cell (cs := [.int .i64 ki, .int .i64 id, .int .i64 cp, .int .i64 cx]) ((Blk.new wo _ _).keeps (Keeps.drewN _ _)) 0 (by simp)
      generalize wo.heap.size = AB at *
      refine wp_gen (fun W => O3 w k p rb cap2 pp bb M f5 f6 f7 s W ∧ W.cell? ⟨AB, 0, none⟩ = some (.int .i64 ki)) ⟨hO1, hAB⟩ ?_
      clear y0 y1 y2 y3 hO hO1 hAB ex ec et
      rintro W ⟨hO, y0⟩
      replace hO := Lib.hid hO
      go_upto_block 2 with fail
      go_cut [] (fun wx => ∃ (s2 : WS) (g5 g6 g7 : Nat → Int), O3 w k p rb cap2 pp bb M g5 g6 g7 s2 wx ∧ Agree s2 g5 g6 g7)
      case first =>
        have hxN : x < 16 := by omega
        have hcN : c < 3 := by omega
        have htN : t < 32 := by omega
        have hx0 : (0 : Int) ≤ (x : Int) := by omega
        have hc0 : (0 : Int) ≤ (c : Int) := by omega
        have ht0 : (0 : Int) ≤ (t : Int) := by omega
        have hc1 : (c : Int) + 1 ≤ 9223372036854775807 := by omega
        have hkd8 : kd = 0 ∨ (kd = 1 ∨ kd = 2 ∨ kd = 7) ∨ kd = 3 ∨ kd = 4 ∨ kd = 5 ∨ kd = 6 := by omega
        replace hxN := Lib.hid hxN
        replace hcN := Lib.hid hcN
        replace htN := Lib.hid htN
        rcases hkd8 with rfl | hkd3 | rfl | rfl | rfl | rfl
        · -- Set
          as_aux_lemma =>
          have hs := hO.out.wi.set x x
          have hA2 := hA.out.set x hxN.out
          have hfin := fun W' (hI : WI w k p rb cap2 3 pp bb (setW s x x).1 W') hC => hO.out.turn hI hC
          generalize (setW s x x).2 = er at *
          replace hs := Lib.hid hs
          replace hA2 := Lib.hid hA2
          replace hfin := Lib.hid hfin
          go_wp2_with fail
          refine hs.out.mono ?_
          rintro e w2 ⟨rfl, hI, hC⟩
          have hO2 := hfin.out _ hI hC
          replace hO2 := Lib.hid hO2
          clear hI hC
          go_wp2_with fail
          go_meet
          exact ⟨_, _, _, _, hO2.out, hA2.out⟩
        · -- Post
          as_aux_lemma =>
          have hs := hO.out.wi.post x c
          have hfin := fun W' (hI : WI w k p rb cap2 3 pp bb (postW 3 s x c).1 W') hC => hO.out.turn hI hC
          rcases hA.out.post x c hxN.out hcN.out with ⟨he, hz, hA2⟩ | ⟨he, hA2⟩
          · rw [he] at hs
            replace hs := Lib.hid hs
            replace hA2 := Lib.hid hA2
            replace hfin := Lib.hid hfin
            replace hz := Lib.hid hz
            replace he := Lib.hid he
            rcases hkd3 with rfl | rfl | rfl
            all_goals
              go_wp2_with fail
              refine hs.out.mono ?_
              rintro e w2 ⟨rfl, hI, hC⟩
              have hO2 := hfin.out _ hI hC
              have c5 := hO2.t5.cellK (rowI_get 16 f5 x hxN.out)
              rw [hz.out] at c5
              have d5 := hO2.t5.frozen x
              have hO3 := hO2.set5 x ((c : Int) + 1)
              replace hO3 := Lib.hid hO3
              clear hI hC hO2
              go_wp2_with fail
              go_meet
              exact ⟨_, _, _, _, hO3.out, hA2.out⟩
          · generalize (postW 3 s x c).2 = er at *
            have hq : (er == 0) = false := by simpa using he
            replace hs := Lib.hid hs
            replace hA2 := Lib.hid hA2
            replace hfin := Lib.hid hfin
            replace he := Lib.hid he
            rcases hkd3 with rfl | rfl | rfl
            all_goals
              go_wp2_with fail
              refine hs.out.mono ?_
              rintro e w2 ⟨rfl, hI, hC⟩
              have hO2 := hfin.out _ hI hC
              replace hO2 := Lib.hid hO2
              clear hI hC
              go_wp2_with fail
              go_meet
              exact ⟨_, _, _, _, hO2.out, hA2.out⟩
        · -- Stop
          as_aux_lemma =>
          have hs := hO.out.wi.stop x
          have hfin := fun W' (hI : WI w k p rb cap2 3 pp bb (stopW s x).1 W') hC => hO.out.turn hI hC
          obtain ⟨he, hA2⟩ := hA.out.stop x hxN.out
          rw [he] at hs
          generalize (stopW s x).2.2 = er at *
          generalize (stopW s x).1 = s' at *
          replace hA2 := Lib.hid hA2
          replace hfin := Lib.hid hfin
          replace he := Lib.hid he
          have hcase : 0 < f5 x ∨ ¬ 0 < f5 x := Classical.em _
          rcases hcase with hp | hp
          · rw [decide_eq_true hp] at hs
            replace hs := Lib.hid hs
            go_wp2_with fail
            refine hs.out.mono ?_
            rintro e w2 ⟨rfl, hI, hC⟩
            have hO2 := hfin.out _ hI hC
            have c5 := hO2.t5.cellK (rowI_get 16 f5 x hxN.out)
            have d5 := hO2.t5.frozen x
            have hO3 := hO2.set5 x 0
            replace hO3 := Lib.hid hO3
            clear hI hC hO2
            go_wp2_with fail
            go_meet
            exact ⟨_, _, _, _, hO3.out, hA2.out⟩
          · rw [decide_eq_false hp] at hs
            have hz5 : f5 x = 0 := by
              have h1 := hA.out.e5 x hxN.out
              have h2 := qf_pos hA.out x
              omega
            replace hs := Lib.hid hs
            replace hp := Lib.hid hp
            replace hz5 := Lib.hid hz5
            go_wp2_with fail
            refine hs.out.mono ?_
            rintro e w2 ⟨rfl, hI, hC⟩
            have hO2 := hfin.out _ hI hC
            have c5 := hO2.t5.cellK (rowI_get 16 f5 x hxN.out)
            rw [hz5.out] at c5
            have d5 := hO2.t5.frozen x
            have hO3 := hO2.set5 x 0
            replace hO3 := Lib.hid hO3
            clear hI hC hO2
            go_wp2_with fail
            go_meet
            exact ⟨_, _, _, _, hO3.out, hA2.out⟩
        · -- Begin
          as_aux_lemma =>
          have hs := hO.out.wi.begin c t
          have hfin := fun W' (hI : WI w k p rb cap2 3 pp bb (beginW 3 s c t).1 W') hC => hO.out.turn hI hC
          rcases hA.out.begin hO.out.wi c t hcN.out htN.out with ⟨he, hsame⟩ | ⟨y, hy, he, h5, h6, h7, hA2⟩
          · generalize (beginW 3 s c t).2.2.2 = er at *
            generalize (beginW 3 s c t).2.2.1 = z1 at *
            generalize (beginW 3 s c t).2.1 = z2 at *
            rw [hsame] at hs hfin
            have hq : (er != 0) = true := by simpa using he
            replace hs := Lib.hid hs
            replace hfin := Lib.hid hfin
            replace he := Lib.hid he
            clear hsame
            go_wp2_with fail
            refine hs.out.mono ?_
            rintro e w2 ⟨rfl, hI, hC⟩
            have hO2 := hfin.out _ hI hC
            replace hO2 := Lib.hid hO2
            clear hI hC
            go_wp2_with fail
            go_meet
            exact ⟨_, _, _, _, hO2.out, hA.out⟩
          · rw [he] at hs
            generalize (beginW 3 s c t).1 = s' at *
            have hy0 : (0 : Int) ≤ (y : Int) := by omega
            have hy1 : ¬ (y : Int) < 0 := by omega
            have hy2 : ¬ (16 : Int) ≤ (y : Int) := by omega
            have hy3 : (y : Int) < 16 := by omega
            obtain ⟨h7a, h7b⟩ := h7
            have h7c : ¬ (2 : Int) ≤ f7 c := by omega
            have h7d : f7 c + 1 ≤ 9223372036854775807 := by omega
            have htI : (t : Int) < 32 := by omega
            have hcI : (c : Int) < 3 := by omega
            replace hs := Lib.hid hs
            replace hA2 := Lib.hid hA2
            replace hfin := Lib.hid hfin
            replace h5 := Lib.hid h5
            replace h6 := Lib.hid h6
            replace hy := Lib.hid hy
            clear he
            go_wp2_with fail
            refine hs.out.mono ?_
            rintro e w2 ⟨rfl, hI, hC⟩
            have hO2 := hfin.out _ hI hC
            have c5 := hO2.t5.cellK (rowI_get 16 f5 y hy.out)
            rw [h5.out] at c5
            have d5 := hO2.t5.frozen y
            have c6 := hO2.t6.cellK (rowI_get 32 f6 t htN.out)
            rw [h6.out] at c6
            have d6 := hO2.t6.frozen t
            have c7 := hO2.t7.cellK (rowI_get 3 f7 c hcN.out)
            have d7 := hO2.t7.frozen c
            have hO5 := hO2.set5 y 0
            have c6b := hO5.t6.cellK (rowI_get 32 f6 t htN.out)
            have d6b := hO5.t6.frozen t
            have hO6 := hO5.set6 t ((c : Int) + 1)
            have c7b := hO6.t7.cellK (rowI_get 3 f7 c hcN.out)
            have d7b := hO6.t7.frozen c
            have hO7 := hO6.set7 c (f7 c + 1)
            replace hO7 := Lib.hid hO7
            clear hI hC hO2 hO5 hO6
            have hz7 : (f7 c = 0 ∧ f7 c + 1 = 1) ∨ (f7 c = 1 ∧ f7 c + 1 = 2) := by omega
            clear h7a h7b h7c h7d hc1
            rcases hz7 with ⟨e7, e8⟩ | ⟨e7, e8⟩
            all_goals
              rw [e7] at c7 c7b
              rw [e8] at hO7 hA2
              clear e7 e8
              go_wp2_with fail
              go_meet
              exact ⟨_, _, _, _, hO7.out, hA2.out⟩
        · -- End
          as_aux_lemma =>
          have hs := hO.out.wi.end' t
          have hfin := fun W' (hI : WI w k p rb cap2 3 pp bb (endW s t).1 W') hC => hO.out.turn hI hC
          have htI : (t : Int) < 32 := by omega
          generalize (endW s t).2.1 = z1 at *
          rcases hA.out.end' hO.out.wi t htN.out with ⟨h6, he, hsame⟩ | ⟨d, hd, h6, he, h7, hA2⟩
          · generalize (endW s t).2.2 = er at *
            rw [hsame] at hs hfin
            have hq : (er == 0) = false := by simpa using he
            replace hs := Lib.hid hs
            replace hfin := Lib.hid hfin
            replace he := Lib.hid he
            replace h6 := Lib.hid h6
            clear hsame
            go_wp2_with fail
            refine hs.out.mono ?_
            rintro e w2 ⟨rfl, hI, hC⟩
            have hO2 := hfin.out _ hI hC
            have c6 := hO2.t6.cellK (rowI_get 32 f6 t htN.out)
            rw [h6.out] at c6
            replace hO2 := Lib.hid hO2
            clear hI hC
            go_wp2_with fail
            go_meet
            exact ⟨_, _, _, _, hO2.out, hA.out⟩
          · rw [he] at hs
            generalize (endW s t).1 = s' at *
            have hd0 : (0 : Int) ≤ (d : Int) := by omega
            have hd1 : (0 : Int) < (d : Int) + 1 := by omega
            have hd2 : (d : Int) + 1 - 1 = (d : Int) := by omega
            have hd3 : (d : Int) < 3 := by omega
            obtain ⟨h7a, h7b⟩ := h7
            have h7d : -9223372036854775808 ≤ f7 d - 1 := by omega
            have h7e : f7 d - 1 ≤ 9223372036854775807 := by omega
            replace hs := Lib.hid hs
            replace hA2 := Lib.hid hA2
            replace hfin := Lib.hid hfin
            replace h6 := Lib.hid h6
            replace hd := Lib.hid hd
            clear he
            go_wp2_with fail
            refine hs.out.mono ?_
            rintro e w2 ⟨rfl, hI, hC⟩
            have hO2 := hfin.out _ hI hC
            have c6 := hO2.t6.cellK (rowI_get 32 f6 t htN.out)
            rw [h6.out] at c6
            have c7 := hO2.t7.cellK (rowI_get 3 f7 d hd.out)
            have d7 := hO2.t7.frozen d
            have hO7 := hO2.set7 d (f7 d - 1)
            have c6b := hO7.t6.cellK (rowI_get 32 f6 t htN.out)
            have d6b := hO7.t6.frozen t
            have hO6 := hO7.set6 t 0
            replace hO6 := Lib.hid hO6
            clear hI hC hO2 hO7
            generalize f7 d = z7 at *
            go_wp2_with fail
            go_meet
            exact ⟨_, _, _, _, hO6.out, hA2.out⟩
        · -- Shut
          as_aux_lemma =>
          have hs := hO.out.wi.shut1 x W.heap.size rfl
          have hA2 := hA.out.shut x hxN.out
          have hfin := fun W' (hI : WI w k p rb cap2 3 pp bb (shutL s [(x : Int)]).1 W') hC => (hO.out.kept (Keeps.alloc W (.cells #[.int .i64 x] 3))).turn hI hC
          generalize (shutL s [(x : Int)]).2 = er at *
          generalize (shutL s [(x : Int)]).1 = s' at *
          replace hs := Lib.hid hs
          replace hA2 := Lib.hid hA2
          replace hfin := Lib.hid hfin
          go_wp2_with fail
          refine hs.out.mono ?_
          rintro e w2 ⟨rfl, hI, hC⟩
          have hO2 := hfin.out _ hI hC
          have c5 := hO2.t5.cellK (rowI_get 16 f5 x hxN.out)
          have d5 := hO2.t5.frozen x
          have hO3 := hO2.set5 x 0
          replace hO3 := Lib.hid hO3
          clear hI hC hO2
          go_wp2_with fail
          go_meet
          exact ⟨_, _, _, _, hO3.out, hA2.out⟩
      case rest =>
        clear hO hA y0 ek
        obtain ⟨s2, g5, g6, g7, hO, hA⟩ := hcut
        obtain ⟨W3, hW3⟩ : ∃ W3, W3 = wc := ⟨_, rfl⟩
        rw [← hW3] at hO ⊢
        clear hW3
        replace hO := Lib.hid hO
        replace hA := Lib.hid hA
        go_wp2_with fail
        go_loopw [21] (fun i wx => ∃ y : Nat, y ≤ 3 ∧ i = .int .i64 (y : Int) ∧ O3 w k p rb cap2 pp bb M g5 g6 g7 s2 wx) (fun i _ => 3 - (intOf i).toNat)
        case atStart => exact ⟨0, by omega, rfl, hO.out⟩
        case round =>
          clear hO
          obtain ⟨y, hy, rfl, hO⟩ := hrel
          have hy0 : (0 : Int) ≤ (y : Int) := by omega
          have hyl : y < 3 ∨ y = 3 := by omega
          rcases hyl with hlt3 | rfl
          · have hltI3 : (y : Int) < 3 := by omega
            have hbq := fun n => (hO.kept (Keeps.drewN wr n)).wi.busyP y
            have c7 := hO.t7.cellK (rowI_get 3 g7 y hlt3)
            have e7 : g7 y = (busyW 3 s2.on y : Nat) := by
              rw [hA.out.e7 y hlt3]; unfold busyW; rw [if_neg (by omega)]
            rw [e7] at c7
            generalize busyW 3 s2.on y = z at *
            replace hbq := Lib.hid hbq
            replace hO := Lib.hid hO
            replace e7 := Lib.hid e7
            go_wp2_with fail
            go_quiet (with_reducible exact Go.Proofs.Ytcggbfpangnllaa.Calls.quiet_same (hbq.out _))
            go_wp2_with fail
            go_roundw
            case rel => exact ⟨y + 1, by omega, by go_num, hO.out.kept (Keeps.drewN _ _)⟩
            case measure => (simp [intOf]; try omega)
          · replace hO := Lib.hid hO
            go_wp2_with fail
            go_roundw
            case rel => exact ⟨j + 1, s2, g5, g6, g7, by omega, by omega, by go_num, hO.out, hA.out⟩
            case measure => (simp [intOf]; try omega)
    · have hgoI : ¬ ((j : Int) < (acts.length : Int)) ∨ ((j : Int) < (acts.length : Int) ∧ ¬ ((j : Int) < 100)) := by omega
      have hk := hkn.out wo
      have hKw := hO.wi.keeps
      replace hKw := Lib.hid hKw
      replace hk := Lib.hid hk
      clear hO hA
      rcases hgoI with hg | ⟨hg, hg2⟩
      all_goals
        go_wp2_with fail
        refine hk.out.mono ?_
        rintro e w2 ⟨rfl, hK2⟩
        replace hK2 := Lib.hid hK2
        go_wp2_with fail
        go_ret
        exact ⟨rfl, hKw.out.trans hK2.out⟩
end Go.Proofs.Ytcggbfpangnllaa
