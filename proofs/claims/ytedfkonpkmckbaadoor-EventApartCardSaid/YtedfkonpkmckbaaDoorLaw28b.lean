/- EventApart: the walk. -/
import Derived.Test.YtedfkonpkmckbaaDoorLaw28
import Derived.Test.YtedfkonpkmckbaaDoorModn
import Derived.Laws.StructEq
import Derived.Deep.DeepCutAuto
import Derived.Deep.CutBlock
import Derived.Deep.RegionHeld3
namespace Go.Proofs.YtedfkonpkmckbaaDoor
open Go.RowKit

set_option maxHeartbeats 1000000 in
theorem to_exact (e : EvS) (w : World) : Calls Tryd.prog 12 #[rvV e] w fun r w' => r = .returned (evV e) ∧ (w.alloc (.cells #[.int .u64 (e.t : Int), .int .i64 e.k, .int .i64 e.a, .int .i64 e.b, .int .u64 (e.n : Int)] 24)).alloc (.cells #[.int .u64 (e.t : Int), .int .i64 e.k, .int .i64 e.a, .int .i64 e.b, .int .u64 (e.n : Int)] 28) = w' := by
  obtain ⟨t, k, a, b, n⟩ := e
  go_enter Tryd.func12, Tryd.ntmps12
  go_wp2_with fail
  (try simp only [Exit.inBlock, Exit.then])
  refine bodyPost_ret (results_row (t := 28) (cs := [Value.int .u64 (t : Int), .int .i64 k, .int .i64 a, .int .i64 b, .int .u64 (n : Int)]) rfl _ (Blk.at (by simp) rfl) rfl _ Tryd.underlying28 rfl 5 sizeEv rfl) rfl ?_
  exact ⟨rfl, rfl⟩
theorem keep_cell {w w' : World} {a : Addr} {v : Value} (hk : Keeps w w') (h : w.cell? a = some v) : w'.cell? a = some v := (hk.cell (p := a) (cell_lt h)).trans h
set_option maxRecDepth 100000 in
set_option maxHeartbeats 8000000 in
theorem lawApart28_any (x y : EvS) (hx : x.Ok) (hy : y.Ok) (w : World) (hT : Tabs w) : Calls Tryd.prog 4 #[rvV x, rvV y] w fun r w' => r = .returned (.bool true) ∧ Keeps w w' := by
  obtain ⟨kx, hkx, ex⟩ := wrap_mod x.k 12 (by decide)
  obtain ⟨ky, hky, ey⟩ := wrap_mod y.k 12 (by decide)
  obtain ⟨x2, hx2⟩ : ∃ x2 : EvS, x2 = { x with k := (kx : Int) } := ⟨_, rfl⟩
  obtain ⟨y2, hy2⟩ : ∃ y2 : EvS, y2 = { y with k := (ky : Int) } := ⟨_, rfl⟩
  have hxo : x2.Ok := by rw [hx2]; exact ⟨hx.t64, hx.n64, hx.a0, hx.a1, hx.b0, hx.b1⟩
  have hyo : y2.Ok := by rw [hy2]; exact ⟨hy.t64, hy.n64, hy.a0, hy.a1, hy.b0, hy.b1⟩
  have hxk : isKd x2.k = true := by rw [hx2, isKd_iff]; exact ⟨by show 0 ≤ (kx : Int); omega, by show (kx : Int) ≤ 11; omega⟩
  have hyk : isKd y2.k = true := by rw [hy2, isKd_iff]; exact ⟨by show 0 ≤ (ky : Int); omega, by show (ky : Int) ≤ 11; omega⟩
  have fk := fun (W : World) (h : Keeps w W) => known28_any W (hT.keeps h)
  have ft := fun (W : World) (h : Keeps w W) => text_any x2 hxo W (hT.keeps h)
  have fr := fun (W : World) (h : Keeps w W) => text_any y2 hyo W (hT.keeps h)
  have fo := fun (W : World) => to_exact x2 W
  have fp := fun (W : World) => to_exact y2 W
  have hC1 : (evC x).set 1 (.int .i64 kx) = evC x2 := by rw [hx2]; rfl
  have hC2 : (evC y).set 1 (.int .i64 ky) = evC y2 := by rw [hy2]; rfl
  have hBx := Blk.new w 24 (evC x)
  have k1 := Keeps.alloc w (.cells (evC x).toArray 24)
  have hBy := Blk.new (w.alloc (.cells (evC x).toArray 24)) 24 (evC y)
  have k2 := Keeps.alloc (w.alloc (.cells (evC x).toArray 24)) (.cells (evC y).toArray 24)
  rw [World.size_alloc] at hBy
  have hBx := hBx.keeps k2
  have hK := Keeps.trans k1 k2
  obtain ⟨X, eX⟩ : ∃ B, B = w.heap.size := ⟨_, rfl⟩
  obtain ⟨Y, eY⟩ : ∃ B, B = w.heap.size + 1 := ⟨_, rfl⟩
  have hXY : X ≠ Y := by omega
  have hwX : w.heap.size ≤ X ∧ w.heap.size ≤ Y := by omega
  rw [← eX] at hBx
  rw [← eY] at hBy
  replace eX := Lib.hid eX
  replace eY := Lib.hid eY
  replace hBx := Lib.hid hBx
  replace hBy := Lib.hid hBy
  replace hK := Lib.hid hK
  replace fk := Lib.hid fk
  replace ft := Lib.hid ft
  replace fr := Lib.hid fr
  replace fo := Lib.hid fo
  replace fp := Lib.hid fp
  replace hxk := Lib.hid hxk
  replace hyk := Lib.hid hyk
  replace hC1 := Lib.hid hC1
  replace hC2 := Lib.hid hC2
  replace hx2 := Lib.hid hx2
  replace hy2 := Lib.hid hy2
  replace hwX := Lib.hid hwX
  clear hT hxo hyo k1 k2
  obtain ⟨tx, xk, ax, bx, nx⟩ := x
  obtain ⟨ty, yk, ay, by', ny⟩ := y
  simp only at ex ey
  go_enter Tryd.func4, Tryd.ntmps4
  go_upto_region 1 with (fail)
  rw [← eY.out, ← eX.out]
  refine wp_gen (fun W => Blk W X 24 (evC ⟨tx, xk, ax, bx, nx⟩) ∧ Blk W Y 24 (evC ⟨ty, yk, ay, by', ny⟩) ∧ Keeps w W) ⟨hBx.out, hBy.out, hK.out⟩ ?_
  clear hBx hBy hK eX eY
  rintro W ⟨hBx, hBy, hK⟩
  have q1 : W.cell? ⟨X, 1, none⟩ = some (.int .i64 xk) := hBx.cell 1 (by simp [evC])
  have p1 : W.cell? ⟨Y, 1, none⟩ = some (.int .i64 yk) := hBy.cell 1 (by simp [evC])
  have fx := hBx.frozen 1
  have fy := hBy.frozen 1
  have hSx := (hBx.set 1 (.int .i64 kx)).other hXY 1 (.int .i64 ky)
  have hSy := (hBy.other (Ne.symm hXY) 1 (.int .i64 kx)).set 1 (.int .i64 ky)
  rw [hC1.out] at hSx
  rw [hC2.out] at hSy
  have hCh : Chg (fun b => b = X ∨ b = Y) W ((W.setCell ⟨X, 1, none⟩ (.int .i64 kx)).setCell ⟨Y, 1, none⟩ (.int .i64 ky)) := (Chg.setCell _ _ (.inl rfl)).trans (Chg.setCell _ _ (.inr rfl))
  have hKS := Chg.keeps hCh hK (fun b hb e => by have := hwX.out; rcases e with e | e <;> omega)
  have hkx0 : (0 : Int) ≤ (kx : Int) := by omega
  have hkx1 : (kx : Int) < 12 := by omega
  have hky0 : (0 : Int) ≤ (ky : Int) := by omega
  have hky1 : (ky : Int) < 12 := by omega
  replace hSx := Lib.hid hSx
  replace hSy := Lib.hid hSy
  replace hKS := Lib.hid hKS
  clear hBx hBy hK hCh
  go_region
  go_upto_region 2 with (fail)
  refine wp_gen (fun W => Blk W X 24 (evC x2) ∧ Blk W Y 24 (evC y2) ∧ Keeps w W) ⟨hSx.out.keeps (Keeps.drew _), hSy.out.keeps (Keeps.drew _), Keeps.trans hKS.out (Keeps.drew _)⟩ ?_
  clear hSx hSy hKS q1 p1 fx fy hC1 hC2 hx2 hy2 ex ey
  rintro W1 ⟨hBx, hBy, hK⟩
  obtain ⟨tx, xk, ax, bx, nx⟩ := x2
  obtain ⟨ty, yk, ay, by', ny⟩ := y2
  have q0 := hBx.cell 0 (by simp [evC])
  have q1 := hBx.cell 1 (by simp [evC])
  have q2 := hBx.cell 2 (by simp [evC])
  have q3 := hBx.cell 3 (by simp [evC])
  have q4 := hBx.cell 4 (by simp [evC])
  have p0 := hBy.cell 0 (by simp [evC])
  have p1 := hBy.cell 1 (by simp [evC])
  have p2 := hBy.cell 2 (by simp [evC])
  have p3 := hBy.cell 3 (by simp [evC])
  have p4 := hBy.cell 4 (by simp [evC])
  simp only [evC, List.getElem_cons_zero, List.getElem_cons_succ] at q0 q1 q2 q3 q4 p0 p1 p2 p3 p4
  replace hK := Lib.hid hK
  replace hBx := Lib.hid hBx
  replace hBy := Lib.hid hBy
  have lx : X < W1.heap.size := cell_lt q0
  have ly : Y < W1.heap.size := cell_lt p0
  have hh10 := Lib.hid (show ∀ w' : World, Keeps W1 w' → (w'.cell? ⟨X, 0, none⟩ = some (.int .u64 (tx : Int)) ∧ w'.cell? ⟨X, 1, none⟩ = some (.int .i64 xk) ∧ w'.cell? ⟨X, 2, none⟩ = some (.int .i64 ax) ∧ w'.cell? ⟨X, 3, none⟩ = some (.int .i64 bx) ∧ w'.cell? ⟨X, 4, none⟩ = some (.int .u64 (nx : Int)) ∧ w'.cell? ⟨Y, 0, none⟩ = some (.int .u64 (ty : Int)) ∧ w'.cell? ⟨Y, 1, none⟩ = some (.int .i64 yk) ∧ w'.cell? ⟨Y, 2, none⟩ = some (.int .i64 ay) ∧ w'.cell? ⟨Y, 3, none⟩ = some (.int .i64 by') ∧ w'.cell? ⟨Y, 4, none⟩ = some (.int .u64 (ny : Int))) from fun w' hh => ⟨keep_cell hh q0, keep_cell hh q1, keep_cell hh q2, keep_cell hh q3, keep_cell hh q4, keep_cell hh p0, keep_cell hh p1, keep_cell hh p2, keep_cell hh p3, keep_cell hh p4⟩)
  go_cut [5, 6] (fun av bv wx => ∃ A B : Nat, av = .pointer (some ⟨A, 0, none⟩) ∧ bv = .pointer (some ⟨B, 0, none⟩) ∧ Blk wx A 28 (evC ⟨tx, xk, ax, bx, nx⟩) ∧ Blk wx B 28 (evC ⟨ty, yk, ay, by', ny⟩) ∧ Keeps W1 wx)
  case first =>
    go_region_held3 (fun w' => w'.cell? ⟨X, 0, none⟩ = some (.int .u64 (tx : Int)) ∧ w'.cell? ⟨X, 1, none⟩ = some (.int .i64 xk) ∧ w'.cell? ⟨X, 2, none⟩ = some (.int .i64 ax) ∧ w'.cell? ⟨X, 3, none⟩ = some (.int .i64 bx) ∧ w'.cell? ⟨X, 4, none⟩ = some (.int .u64 (nx : Int)) ∧ w'.cell? ⟨Y, 0, none⟩ = some (.int .u64 (ty : Int)) ∧ w'.cell? ⟨Y, 1, none⟩ = some (.int .i64 yk) ∧ w'.cell? ⟨Y, 2, none⟩ = some (.int .i64 ay) ∧ w'.cell? ⟨Y, 3, none⟩ = some (.int .i64 by') ∧ w'.cell? ⟨Y, 4, none⟩ = some (.int .u64 (ny : Int)))
      (first
        | (refine hh10.out _ ?_; repeat (first | exact Keeps.refl _ | refine Keeps.trans ?_ (Keeps.drew _) | refine Keeps.trans ?_ (Keeps.alloc _ _)))
        | go_keep)
      (first
        | (go_at_call 12; with_reducible refine (fo.out _).mono ?_; rintro e w2 ⟨rfl, rfl⟩)
        | (go_at_call 12; with_reducible refine (fp.out _).mono ?_; rintro e w2 ⟨rfl, rfl⟩))
    all_goals
      go_wp2_with fail
      go_meet
      refine ⟨_, _, rfl, rfl, ?_, ?_, ?_⟩
      · refine Blk.keeps ?_ (Keeps.drew _)
        repeat (first | (refine Blk.at ?_ rfl; (first | rfl | (simp only [World.size_alloc]; done) | (simp only [World.size_alloc]; omega))) | refine Blk.alloc ?_ _)
      · refine Blk.keeps ?_ (Keeps.drew _)
        repeat (first | (refine Blk.at ?_ rfl; (first | rfl | (simp only [World.size_alloc]; done) | (simp only [World.size_alloc]; omega))) | refine Blk.alloc ?_ _)
      · repeat (first | exact Keeps.refl _ | refine Keeps.trans ?_ (Keeps.drew _) | refine Keeps.trans ?_ (Keeps.alloc _ _))
  case rest =>
    clear q0 q1 q2 q3 q4 p0 p1 p2 p3 p4 lx ly hh10 hBx hBy
    obtain ⟨A, B, rfl, rfl, hA, hB, hKc⟩ := hcut
    have hKw := Keeps.trans hK.out hKc
    have q0 := After.cell (hA.cell 0 (by simp [evC]))
    have q1 := After.cell (hA.cell 1 (by simp [evC]))
    have q2 := After.cell (hA.cell 2 (by simp [evC]))
    have q3 := After.cell (hA.cell 3 (by simp [evC]))
    have q4 := After.cell (hA.cell 4 (by simp [evC]))
    have p0 := After.cell (hB.cell 0 (by simp [evC]))
    have p1 := After.cell (hB.cell 1 (by simp [evC]))
    have p2 := After.cell (hB.cell 2 (by simp [evC]))
    have p3 := After.cell (hB.cell 3 (by simp [evC]))
    have p4 := After.cell (hB.cell 4 (by simp [evC]))
    simp only [evC, List.getElem_cons_zero, List.getElem_cons_succ] at q0 q1 q2 q3 q4 p0 p1 p2 p3 p4
    have g1 := Lib.hid fun y : After wc => y.call (fk.out y.now (Keeps.trans hKw y.keeps))
    have g2 := Lib.hid fun y : After wc => y.call (ft.out y.now (Keeps.trans hKw y.keeps))
    have g3 := Lib.hid fun y : After wc => y.call (fr.out y.now (Keeps.trans hKw y.keeps))
    have hne : (str (textB ⟨tx, xk, ax, bx, nx⟩)).toList.isEmpty = false := by
      rw [str_toList]
      cases h : textB ⟨tx, xk, ax, bx, nx⟩ with
      | nil => exact absurd h (textB_full hxk.out)
      | cons _ _ => rfl
    have hinj := fun h => textB_inj hxk.out hyk.out h
    clear hA hB hK hKc fk ft fr fo fp
    replace hKw := Lib.hid hKw
    go_upto_region 3 with (fail)
    by_cases hxy : EvS.mk tx xk ax bx nx = EvS.mk ty yk ay by' ny
    · as_aux_lemma =>
      clear hinj
      cases hxy
      generalize str (textB ⟨tx, xk, ax, bx, nx⟩) = s1 at *
      refine region_after (by kernel_rfl) (by kernel_rfl) ?_
      repeat go_big_quiet_step (first | (with_reducible exact g1.out _) | (with_reducible exact g2.out _) | (with_reducible exact g3.out _))
      refine wpQuiet_nil ?_
      rintro W3 ⟨⟨X3, hK3⟩, hX3⟩
      replace hX3 := show W3 = X3 from hX3
      subst hX3
      replace hK3 := Lib.hid hK3
      go_wp2_with fail
      go_ret
      exact ⟨rfl, Keeps.trans hKw.out hK3.out⟩
    · have hs : ((str (textB ⟨tx, xk, ax, bx, nx⟩)).toList == (str (textB ⟨ty, yk, ay, by', ny⟩)).toList) = false := by
        rw [str_toList, str_toList, beq_eq_false_iff_ne]
        exact fun h => hxy (hinj h)
      clear hinj
      generalize str (textB ⟨tx, xk, ax, bx, nx⟩) = s1 at *
      generalize str (textB ⟨ty, yk, ay, by', ny⟩) = s2 at *
      by_cases e : tx = ty
      case neg =>
        as_aux_lemma =>
        have hf : ((tx : Int) == (ty : Int)) = false := by rw [beq_eq_false_iff_ne]; omega
        replace hxy := Lib.hid hxy
        replace e := Lib.hid e
        refine region_after (by kernel_rfl) (by kernel_rfl) ?_
        repeat go_big_quiet_step (first | (with_reducible exact g1.out _) | (with_reducible exact g2.out _) | (with_reducible exact g3.out _))
        refine wpQuiet_nil ?_
        rintro W3 ⟨⟨X3, hK3⟩, hX3⟩
        replace hX3 := show W3 = X3 from hX3
        subst hX3
        replace hK3 := Lib.hid hK3
        go_wp2_with fail
        go_ret
        exact ⟨rfl, Keeps.trans hKw.out hK3.out⟩
      subst e
      by_cases e : xk = yk
      case neg =>
        as_aux_lemma =>
        have hf : (xk == yk) = false := by rw [beq_eq_false_iff_ne]; exact e
        replace hxy := Lib.hid hxy
        replace e := Lib.hid e
        refine region_after (by kernel_rfl) (by kernel_rfl) ?_
        repeat go_big_quiet_step (first | (with_reducible exact g1.out _) | (with_reducible exact g2.out _) | (with_reducible exact g3.out _))
        refine wpQuiet_nil ?_
        rintro W3 ⟨⟨X3, hK3⟩, hX3⟩
        replace hX3 := show W3 = X3 from hX3
        subst hX3
        replace hK3 := Lib.hid hK3
        go_wp2_with fail
        go_ret
        exact ⟨rfl, Keeps.trans hKw.out hK3.out⟩
      subst e
      by_cases e : ax = ay
      case neg =>
        as_aux_lemma =>
        have hf : (ax == ay) = false := by rw [beq_eq_false_iff_ne]; exact e
        replace hxy := Lib.hid hxy
        replace e := Lib.hid e
        refine region_after (by kernel_rfl) (by kernel_rfl) ?_
        repeat go_big_quiet_step (first | (with_reducible exact g1.out _) | (with_reducible exact g2.out _) | (with_reducible exact g3.out _))
        refine wpQuiet_nil ?_
        rintro W3 ⟨⟨X3, hK3⟩, hX3⟩
        replace hX3 := show W3 = X3 from hX3
        subst hX3
        replace hK3 := Lib.hid hK3
        go_wp2_with fail
        go_ret
        exact ⟨rfl, Keeps.trans hKw.out hK3.out⟩
      subst e
      by_cases e : bx = by'
      case neg =>
        as_aux_lemma =>
        have hf : (bx == by') = false := by rw [beq_eq_false_iff_ne]; exact e
        replace hxy := Lib.hid hxy
        replace e := Lib.hid e
        refine region_after (by kernel_rfl) (by kernel_rfl) ?_
        repeat go_big_quiet_step (first | (with_reducible exact g1.out _) | (with_reducible exact g2.out _) | (with_reducible exact g3.out _))
        refine wpQuiet_nil ?_
        rintro W3 ⟨⟨X3, hK3⟩, hX3⟩
        replace hX3 := show W3 = X3 from hX3
        subst hX3
        replace hK3 := Lib.hid hK3
        go_wp2_with fail
        go_ret
        exact ⟨rfl, Keeps.trans hKw.out hK3.out⟩
      subst e
      by_cases e : nx = ny
      case neg =>
        as_aux_lemma =>
        have hf : ((nx : Int) == (ny : Int)) = false := by rw [beq_eq_false_iff_ne]; omega
        replace hxy := Lib.hid hxy
        replace e := Lib.hid e
        refine region_after (by kernel_rfl) (by kernel_rfl) ?_
        repeat go_big_quiet_step (first | (with_reducible exact g1.out _) | (with_reducible exact g2.out _) | (with_reducible exact g3.out _))
        refine wpQuiet_nil ?_
        rintro W3 ⟨⟨X3, hK3⟩, hX3⟩
        replace hX3 := show W3 = X3 from hX3
        subst hX3
        replace hK3 := Lib.hid hK3
        go_wp2_with fail
        go_ret
        exact ⟨rfl, Keeps.trans hKw.out hK3.out⟩
      subst e
      exact absurd rfl hxy
end Go.Proofs.YtedfkonpkmckbaaDoor
