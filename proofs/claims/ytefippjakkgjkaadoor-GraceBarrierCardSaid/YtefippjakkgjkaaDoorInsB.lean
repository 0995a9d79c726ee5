/- The walks of the readers' places: enter, exit, ended. -/
import Derived.Test.YtefippjakkgjkaaDoorHoldM
import Derived.BigRegion
namespace Go.Proofs.YtefippjakkgjkaaDoor
open Go.RowKit

section
variable {W W' : World} {g sp p rb cap n xb : Nat} {pp bb : Nat → Nat} {G : GSt}
theorem InsAt.enter1 (h : InsAt W g sp p rb cap n pp bb xb G) (r : Int) (sb : Nat) (hsb : sb = W.heap.size) (hst : G.S.st + 1 < 1000000) :
    Calls Tryd.prog 25 #[.pointer (some ⟨g, 0, none⟩), .slice (some ⟨sb, 0, none⟩) 1 1] (W.alloc (.cells #[.int .i64 r] 3)) fun e w' => e = .returned (.int .i64 (G.S.ents [r]).2) ∧ GraceAt w' g sp p rb cap n pp bb { G with S := (G.S.ents [r]).1 } ∧ Blk w' xb 29 (arr 129 (xf G.S)) ∧ Chg (· = sp) W w' := by
  have hsl : sp < W.heap.size := h.at'.sect.hdr.lt
  have k0 := Keeps.alloc W (.cells #[.int .i64 r] 3)
  have hk := h.keeps k0
  refine (genter_any hk.at' (.slice (some ⟨sb, 0, none⟩) 1 1) [r] (ints_at W 3 [r] sb hsb (by simp [maxLen])) (fun b hb _ => ?_) hst).mono ?_
  · simp only [Value.ownBlock, Option.some.injEq] at hb; omega
  · rintro e w' ⟨rfl, hG, hC⟩
    exact ⟨rfl, hG, hk.hx.chg hC (fun e => h.nx (.inr (.inl e))), (Chg.of_keeps k0).trans hC⟩
set_option maxRecDepth 100000 in
set_option maxHeartbeats 2000000 in
theorem xenter_any (h : InsAt W g sp p rb cap n pp bb xb G) (hst : G.S.st + 1 < 1000000) (r : Int) (k : Nat) (hk : k < 64) (hr : rdr r = (k : Int)) :
    Calls Tryd.prog 9 #[.pointer (some ⟨xb, 0, none⟩), .pointer (some ⟨g, 0, none⟩), .int .i64 r] W fun e w' => ∃ v, e = .returned v ∧ InsAt w' g sp p rb cap n pp bb xb { G with S := G.S.ent (k : Int) } ∧ Chg (fun b => b = sp ∨ b = xb) W w' := by
  have hok := h.at'.sect.ok
  have he := h.enter1 (k : Int) W.heap.size rfl hst
  rw [(ents_one _ _).1, (ents_one _ _).2] at he
  unfold rdr at hr
  have hk0 : (0 : Int) ≤ (k : Int) := by omega
  have hk1 : (k : Int) < 64 := by omega
  have hd8 := hok.dep8 k
  by_cases h8 : G.S.dep k = 8
  · obtain ⟨e1, e2⟩ := SSt.entE_8 hk h8
    rw [e1, e2] at he
    rw [e2]
    have hset := fun (X : World) hG hx hC => (h.setX (W1 := X) (W' := X) (X := arr 129 (xf G.S)) (S := G.S) hG hC hx (Chg.refl _ _) rfl)
    replace he := Lib.hid he
    replace hset := Lib.hid hset
    clear h hok h8 e1 e2 hd8 hst
    go_enter Tryd.func9, Tryd.ntmps9
    go_wp2_with fail
    refine he.out.mono ?_
    rintro e w1 ⟨rfl, hG, hx, hC⟩
    have hI := hset.out w1 hG hx hC
    replace hI := Lib.hid hI
    clear hG hx hC
    go_wp2_with fail
    go_end0
    exact ⟨_, rfl, hI.out⟩
  · by_cases h0 : G.S.dep k = 0
    · obtain ⟨e1, e2⟩ := SSt.entE_0 hk h0
      have hext := xf_ent0 hok hk h0
      rw [e1] at he
      have hset := fun (X Y : World) hG hC hX hC2 => (h.setX (W1 := X) (W' := Y) (X := arr 129 (upd (upd (upd (xf G.S) k 1) 128 ((G.S.st : Int) + 1)) (64 + k) ((G.S.st : Int) + 1))) hG hC hX hC2 hext)
      have hx1 := xf_dep G.S k hk
      rw [h0] at hx1
      have hx2 := xf_st G.S
      have hst0 : (0 : Int) ≤ (G.S.st : Int) := by omega
      have hst1 : (G.S.st : Int) < 1000000 := by omega
      generalize hT : G.S.ent (k : Int) = T at *
      generalize hF : xf G.S = F at *
      generalize hs : (G.S.st : Int) = st at *
      replace he := Lib.hid he
      replace hset := Lib.hid hset
      clear h hok h8 h0 e1 e2 hd8 hst hext hT hF hs
      go_enter Tryd.func9, Tryd.ntmps9
      go_wp2_with fail
      refine he.out.mono ?_
      rintro e w1 ⟨rfl, hG, hx, hC⟩
      have hset := hset.out w1
      have c0 := arr_cell hx k (by omega)
      have c2 := arr_cell hx 128 (by omega)
      rw [hx1] at c0
      rw [hx2] at c2
      have hf := fun j => hx.frozen j
      have hX1 := arr_upd hx k 1
      have hC1 : Chg (· = xb) w1 (w1.setCell ⟨xb, k, none⟩ (.int .i64 1)) := Chg.setCell _ _ rfl
      replace hset := Lib.hid hset
      replace hG := Lib.hid hG
      replace hC := Lib.hid hC
      replace hx := Lib.hid hx
      replace hX1 := Lib.hid hX1
      replace hC1 := Lib.hid hC1
      clear he
      go_wp2_with fail
      go_region
      go_upto_region 3 with (fail)
      refine wp_gen (fun X => Blk X xb 29 (arr 129 (upd F k 1)) ∧ Chg (· = xb) w1 X) ⟨hX1.out.keeps (Keeps.drew _), hC1.out.trans (Chg.of_keeps (Keeps.drew _))⟩ ?_
      rintro w2 ⟨hx2', hC2⟩
      clear hX1 hC1 c0 hx
      have c0 := arr_cell hx2' k (by omega)
      rw [upd_same] at c0
      have c1 := arr_cell hx2' 128 (by omega)
      rw [upd_ne _ _ (by omega), hx2] at c1
      have hf := fun j => hx2'.frozen j
      have hX2 := arr_upd hx2' 128 (st + 1)
      have hC3 : Chg (· = xb) w2 (w2.setCell ⟨xb, 128, none⟩ (.int .i64 (st + 1))) := Chg.setCell _ _ rfl
      replace hx2' := Lib.hid hx2'
      replace hC2 := Lib.hid hC2
      replace hX2 := Lib.hid hX2
      replace hC3 := Lib.hid hC3
      go_upto_region 5 with (fail)
      refine wp_gen (fun X => Blk X xb 29 (arr 129 (upd (upd F k 1) 128 (st + 1))) ∧ Chg (· = xb) w1 X) ⟨hX2.out, hC2.out.trans hC3.out⟩ ?_
      clear hX2 hC3 c0 c1 c2 hf hx2' hC2
      rintro w3 ⟨hx3, hC2⟩
      have c2 := arr_cell hx3 128 (by omega)
      rw [upd_same] at c2
      have c1 := (arr_cell hx3 (64 + k) (by omega))
      have hf := fun j => hx3.frozen j
      have hX2 := arr_upd hx3 (64 + k) (st + 1)
      have hC3 : Chg (· = xb) w3 (w3.setCell ⟨xb, 64 + k, none⟩ (.int .i64 (st + 1))) := Chg.setCell _ _ rfl
      replace hx3 := Lib.hid hx3
      replace hC2 := Lib.hid hC2
      replace hX2 := Lib.hid hX2
      replace hC3 := Lib.hid hC3
      generalize upd (upd F k 1) 128 (st + 1) (64 + k) = old at *
      go_region
      all_goals
        go_end0
        exact ⟨_, rfl, hset.out _ hG.out hC.out (hX2.out.keeps (Keeps.drew _)) ((hC2.out.trans hC3.out).trans (Chg.of_keeps (Keeps.drew _)))⟩
    · obtain ⟨e1, e2⟩ := SSt.entE_n hk h0 h8
      have hext := xf_entn hok hk h0 h8
      rw [e1] at he
      have hset := fun (X Y : World) hG hC hX hC2 => (h.setX (W1 := X) (W' := Y) (X := arr 129 (upd (xf G.S) k ((G.S.dep k : Int) + 1))) hG hC hX hC2 hext)
      have hx1 := xf_dep G.S k hk
      have hd0 : (0 : Int) < (G.S.dep k : Int) := by omega
      have hd1 : (G.S.dep k : Int) < 8 := by omega
      have hd2 : ((G.S.dep k : Int) + 1 == 1) = false := by rw [beq_eq_false_iff_ne]; omega
      generalize hT : G.S.ent (k : Int) = T at *
      generalize hF : xf G.S = F at *
      generalize hs : (G.S.dep k : Int) = dp at *
      replace he := Lib.hid he
      replace hset := Lib.hid hset
      clear h hok h8 h0 e1 e2 hd8 hst hext hT hF hs
      go_enter Tryd.func9, Tryd.ntmps9
      go_wp2_with fail
      refine he.out.mono ?_
      rintro e w1 ⟨rfl, hG, hx, hC⟩
      have hset := hset.out w1
      have c0 := arr_cell hx k (by omega)
      rw [hx1] at c0
      have hf := fun j => hx.frozen j
      have hX1 := arr_upd hx k (dp + 1)
      have hC1 : Chg (· = xb) w1 (w1.setCell ⟨xb, k, none⟩ (.int .i64 (dp + 1))) := Chg.setCell _ _ rfl
      replace hset := Lib.hid hset
      replace hG := Lib.hid hG
      replace hC := Lib.hid hC
      replace hx := Lib.hid hx
      replace hX1 := Lib.hid hX1
      replace hC1 := Lib.hid hC1
      clear he
      go_wp2_with fail
      go_region
      go_upto_region 3 with (fail)
      refine wp_gen (fun X => Blk X xb 29 (arr 129 (upd F k (dp + 1))) ∧ Chg (· = xb) w1 X) ⟨hX1.out.keeps (Keeps.drew _), hC1.out.trans (Chg.of_keeps (Keeps.drew _))⟩ ?_
      rintro w2 ⟨hx2', hC2⟩
      clear hX1 hC1 c0 hx
      have c0 := arr_cell hx2' k (by omega)
      rw [upd_same] at c0
      replace hx2' := Lib.hid hx2'
      replace hC2 := Lib.hid hC2
      go_wp2_with fail
      go_end0
      exact ⟨_, rfl, hset.out _ hG.out hC.out hx2'.out hC2.out⟩
set_option maxRecDepth 100000 in
set_option maxHeartbeats 2000000 in
theorem xexit_any (h : InsAt W g sp p rb cap n pp bb xb G) (r : Int) (k : Nat) (hk : k < 64) (hr : rdr r = (k : Int)) :
    Calls Tryd.prog 10 #[.pointer (some ⟨xb, 0, none⟩), .pointer (some ⟨g, 0, none⟩), .int .i64 r] W fun e w' => ∃ v, e = .returned v ∧ InsAt w' g sp p rb cap n pp bb xb { G with S := G.S.exi (k : Int) } ∧ Chg (fun b => b = sp ∨ b = xb) W w' := by
  have hok := h.at'.sect.ok
  have he := gexit_any h.at' (k : Int)
  unfold rdr at hr
  have hk0 : (0 : Int) ≤ (k : Int) := by omega
  have hk1 : (k : Int) < 64 := by omega
  have hd8 := hok.dep8 k
  have hxs := fun (X : World) (hC : Chg (· = sp) W X) => h.hx.chg hC (fun e => h.nx (.inr (.inl e)))
  replace hxs := Lib.hid hxs
  by_cases h0 : G.S.dep k = 0
  · obtain ⟨e1, e2, _⟩ := SSt.exiE_0 hk h0
    rw [e1, e2] at he
    rw [e2]
    have hset := fun (X : World) hG hx hC => (h.setX (W1 := X) (W' := X) (X := arr 129 (xf G.S)) (S := G.S) hG hC hx (Chg.refl _ _) rfl)
    replace he := Lib.hid he
    replace hset := Lib.hid hset
    clear h hok h0 e1 e2 hd8
    go_enter Tryd.func10, Tryd.ntmps10
    go_wp2_with fail
    refine he.out.mono ?_
    rintro e w1 ⟨rfl, hG, hC⟩
    have hI := hset.out w1 hG (hxs.out w1 hC) hC
    replace hI := Lib.hid hI
    clear hG hC
    go_wp2_with fail
    go_end0
    exact ⟨_, rfl, hI.out⟩
  · by_cases h1 : G.S.dep k = 1
    · obtain ⟨e1, e2, _⟩ := SSt.exiE_1 hk h1
      have hext := xf_exi1 hok hk h1
      rw [e1] at he
      have hset := fun (X Y : World) hG hC hX hC2 => (h.setX (W1 := X) (W' := Y) (X := arr 129 (upd (upd (xf G.S) k 0) (64 + k) 0)) hG hC hX hC2 hext)
      have hx1 := xf_dep G.S k hk
      rw [h1, show ((1 : Nat) : Int) = 1 from rfl] at hx1
      generalize hT : G.S.exi (k : Int) = T at *
      generalize hF : xf G.S = F at *
      generalize hB : G.S.exiB (k : Int) = bl at *
      replace he := Lib.hid he
      replace hset := Lib.hid hset
      clear h hok h0 h1 e1 e2 hd8 hext hT hF hB
      go_enter Tryd.func10, Tryd.ntmps10
      go_wp2_with fail
      refine he.out.mono ?_
      rintro e w1 ⟨rfl, hG, hC⟩
      have hx := hxs.out w1 hC
      have hset := hset.out w1
      have c0 := arr_cell hx k (by omega)
      rw [hx1] at c0
      have hf := fun j => hx.frozen j
      have hX1 := arr_upd hx k 0
      have hC1 : Chg (· = xb) w1 (w1.setCell ⟨xb, k, none⟩ (.int .i64 0)) := Chg.setCell _ _ rfl
      replace hset := Lib.hid hset
      replace hG := Lib.hid hG
      replace hC := Lib.hid hC
      replace hx := Lib.hid hx
      replace hX1 := Lib.hid hX1
      replace hC1 := Lib.hid hC1
      clear he
      go_wp2_with fail
      go_region
      go_upto_region 4 with (fail)
      refine wp_gen (fun X => Blk X xb 29 (arr 129 (upd F k 0)) ∧ Chg (· = xb) w1 X) ⟨hX1.out.keeps (Keeps.drew _), hC1.out.trans (Chg.of_keeps (Keeps.drew _))⟩ ?_
      rintro w2 ⟨hx2', hC2⟩
      clear hX1 hC1 c0 hx
      have c0 := arr_cell hx2' k (by omega)
      rw [upd_same] at c0
      have c1 := (arr_cell hx2' (64 + k) (by omega))
      generalize upd F k 0 (64 + k) = old at *
      have hf := fun j => hx2'.frozen j
      have hX2 := arr_upd hx2' (64 + k) 0
      have hC3 : Chg (· = xb) w2 (w2.setCell ⟨xb, 64 + k, none⟩ (.int .i64 0)) := Chg.setCell _ _ rfl
      replace hx2' := Lib.hid hx2'
      replace hC2 := Lib.hid hC2
      replace hX2 := Lib.hid hX2
      replace hC3 := Lib.hid hC3
      go_wp2_with fail
      go_end0
      exact ⟨_, rfl, hset.out _ hG.out hC.out hX2.out (hC2.out.trans hC3.out)⟩
    · obtain ⟨e1, e2, _⟩ := SSt.exiE_n hk h0 h1
      have hext := xf_exin hok hk h0 h1
      rw [e1] at he
      have hset := fun (X Y : World) hG hC hX hC2 => (h.setX (W1 := X) (W' := Y) (X := arr 129 (upd (xf G.S) k ((G.S.dep k : Int) - 1))) hG hC hX hC2 hext)
      have hx1 := xf_dep G.S k hk
      have hd0 : (0 : Int) < (G.S.dep k : Int) := by omega
      have hd1 : (G.S.dep k : Int) < 9 := by omega
      have hd2 : ((G.S.dep k : Int) - 1 == 0) = false := by rw [beq_eq_false_iff_ne]; omega
      generalize hT : G.S.exi (k : Int) = T at *
      generalize hF : xf G.S = F at *
      generalize hs : (G.S.dep k : Int) = dp at *
      generalize hB : G.S.exiB (k : Int) = bl at *
      replace he := Lib.hid he
      replace hset := Lib.hid hset
      clear h hok h0 h1 e1 e2 hd8 hext hT hF hs hB
      go_enter Tryd.func10, Tryd.ntmps10
      go_wp2_with fail
      refine he.out.mono ?_
      rintro e w1 ⟨rfl, hG, hC⟩
      have hx := hxs.out w1 hC
      have hset := hset.out w1
      have c0 := arr_cell hx k (by omega)
      rw [hx1] at c0
      have hf := fun j => hx.frozen j
      have hX1 := arr_upd hx k (dp - 1)
      have hC1 : Chg (· = xb) w1 (w1.setCell ⟨xb, k, none⟩ (.int .i64 (dp - 1))) := Chg.setCell _ _ rfl
      replace hset := Lib.hid hset
      replace hG := Lib.hid hG
      replace hC := Lib.hid hC
      replace hx := Lib.hid hx
      replace hX1 := Lib.hid hX1
      replace hC1 := Lib.hid hC1
      clear he
      go_wp2_with fail
      go_region
      go_upto_region 4 with (fail)
      refine wp_gen (fun X => Blk X xb 29 (arr 129 (upd F k (dp - 1))) ∧ Chg (· = xb) w1 X) ⟨hX1.out.keeps (Keeps.drew _), hC1.out.trans (Chg.of_keeps (Keeps.drew _))⟩ ?_
      rintro w2 ⟨hx2', hC2⟩
      clear hX1 hC1 c0 hx
      have c0 := arr_cell hx2' k (by omega)
      rw [upd_same] at c0
      replace hx2' := Lib.hid hx2'
      replace hC2 := Lib.hid hC2
      go_wp2_with fail
      go_end0
      exact ⟨_, rfl, hset.out _ hG.out hC.out hx2'.out hC2.out⟩
end
end Go.Proofs.YtefippjakkgjkaaDoor
