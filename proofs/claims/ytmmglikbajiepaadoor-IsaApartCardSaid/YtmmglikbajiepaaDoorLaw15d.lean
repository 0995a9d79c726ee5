/- IsaApart: the walk (printed by gen15d.py). -/
import Derived.Test.YtmmglikbajiepaaDoorLaw15f
import Derived.Test.YtmmglikbajiepaaDoorLaw15e
namespace Go.Proofs.YtmmglikbajiepaaDoor
open Go.RowKit

set_option maxHeartbeats 1000000 in
theorem to_exact (i : InsS) (w : World) : Calls Tryd.prog 15 #[insV i] w fun r w' => r = .returned (insV i) ∧ (w.alloc (.cells #[.int .i64 i.op, .int .i64 i.dst, .int .i64 i.src, .int .i64 i.off, .int .i64 i.imm] 29)).alloc (.cells #[.int .i64 i.op, .int .i64 i.dst, .int .i64 i.src, .int .i64 i.off, .int .i64 i.imm] 34) = w' := by
  obtain ⟨op, dst, src, off, imm⟩ := i
  unfold insV
  go_enter Tryd.func15, Tryd.ntmps15
  go_wp2_with fail
  (try simp only [Exit.inBlock, Exit.then])
  refine bodyPost_ret (results_row (t := 34) (cs := [Value.int .i64 op, .int .i64 dst, .int .i64 src, .int .i64 off, .int .i64 imm]) rfl _ (Blk.at (by simp) rfl) rfl _ Tryd.underlying34 rfl 5 sizeIns rfl) rfl ?_
  exact ⟨rfl, rfl⟩
theorem str_toList (l : List UInt8) : (str l).toList = l := by
  rw [ByteArray.toList_eq]
  simp [str]
theorem bytesE_one (i : InsS) : bytesE [i] = errM i := by
  unfold bytesE
  split
  · rename_i h; rw [h]; rfl
  · rfl
theorem fieldsIns : (Tryd.prog.fieldsOf 34).toList.map (fun f => (f.name, f.type, f.offset)) = [("Op", 3, 0), ("Dst", 3, 1), ("Src", 3, 2), ("Off", 3, 3), ("Imm", 3, 4)] := by kernel_rfl
theorem eqlIns (a b c d e a' b' c' d' e' : Int) (w : World) : (binOp .eql 34 (.agg #[.int .i64 a, .int .i64 b, .int .i64 c, .int .i64 d, .int .i64 e]) (.agg #[.int .i64 a', .int .i64 b', .int .i64 c', .int .i64 d', .int .i64 e'])).run Tryd.prog w = .ok (.bool ((a == a') && (b == b') && (c == c') && (d == d') && (e == e'))) w := by
  rw [run_eql_struct, run_equalIn_struct w 9999 _ _ _ (by kernel_rfl) (by kernel_rfl)]
  obtain ⟨f1, f2, f3, f4, f5, hl, h1, h2, h3, h4, h5⟩ := five_of fieldsIns
  rw [hl]
  simp only [Prod.mk.injEq] at h1 h2 h3 h4 h5
  obtain ⟨n1, t1, o1⟩ := h1
  obtain ⟨n2, t2, o2⟩ := h2
  obtain ⟨n3, t3, o3⟩ := h3
  obtain ⟨n4, t4, o4⟩ := h4
  obtain ⟨n5, t5, o5⟩ := h5
  have hu : Tryd.prog.underlying 3 = some (.int .i64) := Tryd.underlying3
  rw [eqF_cons (a := .int .i64 a) (b := .int .i64 a') (e := a == a') w (by rw [n1]; decide) (by rw [t1, o1]; kernel_rfl) (by rw [t1, o1]; kernel_rfl) (by rw [t1]; exact run_equalIn_int w 9998 _ _ _ _ _ hu)]
  rw [eqF_cons (a := .int .i64 b) (b := .int .i64 b') (e := b == b') w (by rw [n2]; decide) (by rw [t2, o2]; kernel_rfl) (by rw [t2, o2]; kernel_rfl) (by rw [t2]; exact run_equalIn_int w 9998 _ _ _ _ _ hu)]
  rw [eqF_cons (a := .int .i64 c) (b := .int .i64 c') (e := c == c') w (by rw [n3]; decide) (by rw [t3, o3]; kernel_rfl) (by rw [t3, o3]; kernel_rfl) (by rw [t3]; exact run_equalIn_int w 9998 _ _ _ _ _ hu)]
  rw [eqF_cons (a := .int .i64 d) (b := .int .i64 d') (e := d == d') w (by rw [n4]; decide) (by rw [t4, o4]; kernel_rfl) (by rw [t4, o4]; kernel_rfl) (by rw [t4]; exact run_equalIn_int w 9998 _ _ _ _ _ hu)]
  rw [eqF_cons (a := .int .i64 e) (b := .int .i64 e') (e := e == e') w (by rw [n5]; decide) (by rw [t5, o5]; kernel_rfl) (by rw [t5, o5]; kernel_rfl) (by rw [t5]; exact run_equalIn_int w 9998 _ _ _ _ _ hu)]
  simp only [Op.eqFields, Sem.run_pure]
  generalize (a == a') = e1
  generalize (b == b') = e2
  generalize (c == c') = e3
  generalize (d == d') = e4
  generalize (e == e') = e5
  cases e1 <;> cases e2 <;> cases e3 <;> cases e4 <;> cases e5 <;> rfl
theorem eq5 (x y : InsS) : ((x.op == y.op) && (x.dst == y.dst) && (x.src == y.src) && (x.off == y.off) && (x.imm == y.imm)) = true ↔ x = y := by
  obtain ⟨a, b, c, d, e⟩ := x
  obtain ⟨a', b', c', d', e'⟩ := y
  simp only [Bool.and_eq_true, beq_iff_eq, InsS.mk.injEq]
  constructor
  · rintro ⟨⟨⟨⟨h1, h2⟩, h3⟩, h4⟩, h5⟩; exact ⟨h1, h2, h3, h4, h5⟩
  · rintro ⟨h1, h2, h3, h4, h5⟩; exact ⟨⟨⟨⟨h1, h2⟩, h3⟩, h4⟩, h5⟩
set_option maxRecDepth 100000 in
set_option maxHeartbeats 8000000 in
theorem lawApart_any (x y : InsS) (w : World) (hT : Tabs w) : Calls Tryd.prog 5 #[insV x, insV y] w fun r w' => r = .returned (.bool true) ∧ Keeps w w' := by
  have fk := fun (W : World) (h : Keeps w W) => known_any W (hT.keeps h)
  have ft := fun (W : World) (h : Keeps w W) => text_any x W (hT.keeps h)
  have fr := fun (W : World) (h : Keeps w W) => text_any y W (hT.keeps h)
  have fo := fun (W : World) => to_exact x W
  have fp := fun (W : World) => to_exact y W
  have fcx := fun (W : World) => check_any x W
  have fcy := fun (W : World) => check_any y W
  have fbx := fun (W : World) (v : Value) (h : SlcS 5 W v [insC x]) => bytes_any [x] (Nat.le_of_ble_eq_true rfl) v W h
  have fby := fun (W : World) (v : Value) (h : SlcS 5 W v [insC y]) => bytes_any [y] (Nat.le_of_ble_eq_true rfl) v W h
  rw [bytesE_one] at fbx fby
  simp only [List.flatMap_cons, List.flatMap_nil, List.append_nil] at fbx fby
  have hx0 : errM x = 0 → textM x = textB x := fun h => by rw [textM, if_pos h]
  have hx1 : errM x ≠ 0 → textM x = [] := fun h => by rw [textM, if_neg h]
  have hy0 : errM y = 0 → textM y = textB y := fun h => by rw [textM, if_pos h]
  have hy1 : errM y ≠ 0 → textM y = [] := fun h => by rw [textM, if_neg h]
  have hxn : errM x = 0 → 0 < (textB x).length := fun h => List.length_pos_iff.2 (text_ne h)
  have hyn : errM y = 0 → 0 < (textB y).length := fun h => List.length_pos_iff.2 (text_ne h)
  have hti : errM x = 0 → errM y = 0 → textB x = textB y → x = y := fun h1 h2 => text_inj h1 h2
  have hbi : errM x = 0 → errM y = 0 → insB x = insB y → x = y := fun h1 h2 h => by
    rw [← one_insB h1 [], ← one_insB h2 [], h]
  have htx : x = y → textB x = textB y := fun h => by rw [h]
  have hbx : x = y → insB x = insB y := fun h => by rw [h]
  have hbl := insB_len x
  have hbm := insB_len y
  have heq := eq5 x y
  have hBx := Blk.new w 29 (insC x)
  have k1 := Keeps.alloc w (.cells (insC x).toArray 29)
  have hBy := Blk.new (w.alloc (.cells (insC x).toArray 29)) 29 (insC y)
  have k2 := Keeps.alloc (w.alloc (.cells (insC x).toArray 29)) (.cells (insC y).toArray 29)
  rw [World.size_alloc] at hBy
  have hBx := hBx.keeps k2
  have hK := Keeps.trans k1 k2
  obtain ⟨X, eX⟩ : ∃ B, B = w.heap.size := ⟨_, rfl⟩
  obtain ⟨Y, eY⟩ : ∃ B, B = w.heap.size + 1 := ⟨_, rfl⟩
  rw [← eX] at hBx
  rw [← eY] at hBy
  generalize textM x = tmx at *
  generalize textM y = tmy at *
  generalize textB x = tbx at *
  generalize textB y = tby at *
  generalize errM x = ex at *
  generalize errM y = ey at *
  generalize insB x = bx at *
  generalize insB y = bb at *
  replace eX := Lib.hid eX
  replace eY := Lib.hid eY
  replace hBx := Lib.hid hBx
  replace hBy := Lib.hid hBy
  replace hK := Lib.hid hK
  replace fk := Lib.hid fk
  replace ft := Lib.hid ft
  replace fr := Lib.hid fr
  replace fbx := Lib.hid fbx
  replace fby := Lib.hid fby
  replace hx0 := Lib.hid hx0
  replace hx1 := Lib.hid hx1
  replace hy0 := Lib.hid hy0
  replace hy1 := Lib.hid hy1
  replace hxn := Lib.hid hxn
  replace hyn := Lib.hid hyn
  replace hti := Lib.hid hti
  replace hbi := Lib.hid hbi
  replace hbl := Lib.hid hbl
  replace hbm := Lib.hid hbm
  replace heq := Lib.hid heq
  replace htx := Lib.hid htx
  replace hbx := Lib.hid hbx
  clear hT k1 k2
  obtain ⟨op, dst, src, off, imm⟩ := x
  obtain ⟨op2, dst2, src2, off2, imm2⟩ := y
  simp only [insV] at fo fp fcx fcy
  unfold insV at ft fr
  replace fo := Lib.hid fo
  replace fp := Lib.hid fp
  replace fcx := Lib.hid fcx
  replace fcy := Lib.hid fcy
  unfold insV
  go_enter Tryd.func5, Tryd.ntmps5
  go_upto_region 1 with (fail)
  rw [← eY.out, ← eX.out]
  refine wp_gen (fun W => Blk W X 29 (insC ⟨op, dst, src, off, imm⟩) ∧ Blk W Y 29 (insC ⟨op2, dst2, src2, off2, imm2⟩) ∧ Keeps w W) ⟨hBx.out, hBy.out, hK.out⟩ ?_
  clear hBx hBy hK eX eY
  rintro W1 ⟨hBx, hBy, hK⟩
  obtain ⟨q0, q1, q2, q3, q4⟩ := insBlk hBx
  obtain ⟨p0, p1, p2, p3, p4⟩ := insBlk hBy
  replace hK := Lib.hid hK
  replace hBx := Lib.hid hBx
  replace hBy := Lib.hid hBy
  have lx : X < W1.heap.size := cell_lt q0
  have ly : Y < W1.heap.size := cell_lt p0
  have hh10 := Lib.hid (show ∀ w' : World, Keeps W1 w' → (w'.cell? ⟨X, 0, none⟩ = some (.int .i64 op) ∧ w'.cell? ⟨X, 1, none⟩ = some (.int .i64 dst) ∧ w'.cell? ⟨X, 2, none⟩ = some (.int .i64 src) ∧ w'.cell? ⟨X, 3, none⟩ = some (.int .i64 off) ∧ w'.cell? ⟨X, 4, none⟩ = some (.int .i64 imm) ∧ w'.cell? ⟨Y, 0, none⟩ = some (.int .i64 op2) ∧ w'.cell? ⟨Y, 1, none⟩ = some (.int .i64 dst2) ∧ w'.cell? ⟨Y, 2, none⟩ = some (.int .i64 src2) ∧ w'.cell? ⟨Y, 3, none⟩ = some (.int .i64 off2) ∧ w'.cell? ⟨Y, 4, none⟩ = some (.int .i64 imm2)) from fun w' h => ⟨kcell15 h q0, kcell15 h q1, kcell15 h q2, kcell15 h q3, kcell15 h q4, kcell15 h p0, kcell15 h p1, kcell15 h p2, kcell15 h p3, kcell15 h p4⟩)
  go_cut [5, 6] (fun av bv wx => ∃ A B : Nat, av = .pointer (some ⟨A, 0, none⟩) ∧ bv = .pointer (some ⟨B, 0, none⟩) ∧ Blk wx A 34 (insC ⟨op, dst, src, off, imm⟩) ∧ Blk wx B 34 (insC ⟨op2, dst2, src2, off2, imm2⟩) ∧ Keeps W1 wx)
  case first =>
    go_region_held3 (fun w' => w'.cell? ⟨X, 0, none⟩ = some (.int .i64 op) ∧ w'.cell? ⟨X, 1, none⟩ = some (.int .i64 dst) ∧ w'.cell? ⟨X, 2, none⟩ = some (.int .i64 src) ∧ w'.cell? ⟨X, 3, none⟩ = some (.int .i64 off) ∧ w'.cell? ⟨X, 4, none⟩ = some (.int .i64 imm) ∧ w'.cell? ⟨Y, 0, none⟩ = some (.int .i64 op2) ∧ w'.cell? ⟨Y, 1, none⟩ = some (.int .i64 dst2) ∧ w'.cell? ⟨Y, 2, none⟩ = some (.int .i64 src2) ∧ w'.cell? ⟨Y, 3, none⟩ = some (.int .i64 off2) ∧ w'.cell? ⟨Y, 4, none⟩ = some (.int .i64 imm2))
      (first
        | (refine hh10.out _ ?_; repeat (first | exact Keeps.refl _ | refine Keeps.trans ?_ (Keeps.drew _) | refine Keeps.trans ?_ (Keeps.alloc _ _)))
        | go_keep)
      (first
        | (go_at_call 15; with_reducible refine (fo.out _).mono ?_; rintro e w2 ⟨rfl, rfl⟩)
        | (go_at_call 15; with_reducible refine (fp.out _).mono ?_; rintro e w2 ⟨rfl, rfl⟩))
    all_goals
      go_wp2_with fail
      go_meet
      refine ⟨_, _, rfl, rfl, ?_, ?_, ?_⟩
      · refine Blk.keeps ?_ (Keeps.drew _)
        repeat (first | (refine Blk.at ?_ rfl; (first | rfl | (simp only [World.size_alloc]; done) | (simp only [World.size_alloc]; omega))) | refine Blk.alloc ?_ _)
      · refine Blk.keeps ?_ (Keeps.drew _)
        repeat (first | (refine Blk.at ?_ rfl; (first | rfl | (simp only [World.size_alloc]; done) | (simp only [World.size_alloc]; omega))) | refine Blk.alloc ?_ _)
      · repeat (first | exact Keeps.refl _ | refine Keeps.trans ?_ (Keeps.drew _) | refine Keeps.trans ?_ (Keeps.alloc _ _))
  case rest =>
    clear q0 q1 q2 q3 q4 p0 p1 p2 p3 p4 lx ly hh10 hBx hBy
    obtain ⟨A, B, rfl, rfl, hA, hB, hKc⟩ := hcut
    have hKw := Keeps.trans hK.out hKc
    obtain ⟨q0, q1, q2, q3, q4⟩ := insBlk hA
    obtain ⟨p0, p1, p2, p3, p4⟩ := insBlk hB
    have q0 := After.cell q0
    have q1 := After.cell q1
    have q2 := After.cell q2
    have q3 := After.cell q3
    have q4 := After.cell q4
    have p0 := After.cell p0
    have p1 := After.cell p1
    have p2 := After.cell p2
    have p3 := After.cell p3
    have p4 := After.cell p4
    have g2 := Lib.hid fun y : After wc => y.call (ft.out y.now (Keeps.trans hKw y.keeps))
    have g3 := Lib.hid fun y : After wc => y.call (fr.out y.now (Keeps.trans hKw y.keeps))
    clear hK hKc ft fr fo fp
    replace hKw := Lib.hid hKw
    replace hA := Lib.hid hA
    replace hB := Lib.hid hB
    go_upto_region 2 with (fail)
    refine region_after (by kernel_rfl) (by kernel_rfl) ?_
    repeat go_big_quiet_step (first | (with_reducible exact g2.out _) | (with_reducible exact g3.out _))
    refine wpQuiet_nil ?_
    rintro W2 ⟨⟨X2, hK2⟩, hX2⟩
    replace hX2 := show W2 = X2 from hX2
    subst hX2
    have hA2 := hA.out.keeps hK2
    have hB2 := hB.out.keeps hK2
    have hKw2 := hKw.out.trans hK2
    clear q0 q1 q2 q3 q4 p0 p1 p2 p3 p4 g2 g3 hA hB hKw hK2
    replace hA2 := Lib.hid hA2
    replace hB2 := Lib.hid hB2
    replace hKw2 := Lib.hid hKw2
    have hz0 : (⟨#[]⟩ : ByteArray).size = 0 := rfl
    have hcase : (ex = 0 ∧ ey = 0) ∨ (ex = 0 ∧ ¬ ey = 0) ∨ (¬ ex = 0 ∧ ey = 0) ∨ (¬ ex = 0 ∧ ¬ ey = 0) := by omega
    rcases hcase with ⟨hex, hey⟩ | ⟨hex, hey⟩ | ⟨hex, hey⟩ | ⟨hex, hey⟩
    ·
      have htx := hx0.out hex
      have hszx := hxn.out hex
      have fx9 := fbx.out
      rw [if_pos hex] at fx9
      rw [htx]
      have hsix : (0 : Int) < ((str tbx).size : Int) := by rw [str_size]; omega
      clear htx hszx
      replace fx9 := Lib.hid fx9
      have hty := hy0.out hey
      have hszy := hyn.out hey
      have fy9 := fby.out
      rw [if_pos hey] at fy9
      rw [hty]
      have hsiy : (0 : Int) < ((str tby).size : Int) := by rw [str_size]; omega
      clear hty hszy
      replace fy9 := Lib.hid fy9
      have hE0 := heq.out
      have hti2 := hti.out hex hey
      have hbi2 := hbi.out hex hey
      generalize hEd : ((op == op2) && (dst == dst2) && (src == src2) && (off == off2) && (imm == imm2)) = E at hE0
      have hst : ((str tbx).toList == (str tby).toList) = E := by
        rw [str_toList, str_toList, Bool.eq_iff_iff, beq_iff_eq, hE0]
        exact ⟨hti2, htx.out⟩
      have hsm : sameL bx bb = E := by
        rw [sameL, Bool.eq_iff_iff, decide_eq_true_eq, hE0]
        exact ⟨hbi2, hbx.out⟩
      have heql : ∀ w, (binOp .eql 34 (.agg #[.int .i64 op, .int .i64 dst, .int .i64 src, .int .i64 off, .int .i64 imm]) (.agg #[.int .i64 op2, .int .i64 dst2, .int .i64 src2, .int .i64 off2, .int .i64 imm2])).run Tryd.prog w = .ok (.bool E) w := fun w => by rw [eqlIns, hEd]
      clear hti2 hbi2 hE0 hEd
      replace hst := Lib.hid hst
      replace hsm := Lib.hid hsm
      replace heql := Lib.hid heql
      clear hx0 hx1 hy0 hy1 hxn hyn hti hbi heq htx hbx fbx fby
      obtain ⟨S1, hS1⟩ : ∃ S, S = str tbx := ⟨_, rfl⟩
      rw [← hS1] at hsix ⊢
      have hst2 := hst.out
      rw [← hS1] at hst2
      clear hst
      obtain ⟨S2, hS2⟩ : ∃ S, S = str tby := ⟨_, rfl⟩
      rw [← hS2] at hsiy ⊢
      rw [← hS2] at hst2
      replace hst := Lib.hid hst2
      clear hst2
      clear hS1
      clear hS2
      subst hex
      subst hey
      obtain ⟨q0, q1, q2, q3, q4⟩ := insBlk hA2.out
      have hSx : SlcS 5 (W2.alloc (.cells #[.int .i64 op, .int .i64 dst, .int .i64 src, .int .i64 off, .int .i64 imm] 34)) (.slice (some ⟨W2.heap.size, 0, none⟩) 1 1) [insC ⟨op, dst, src, off, imm⟩] := slcs_one (Blk.new W2 34 (insC ⟨op, dst, src, off, imm⟩)) (sz := 5) rfl
      have hKax := Keeps.alloc W2 (.cells #[.int .i64 op, .int .i64 dst, .int .i64 src, .int .i64 off, .int .i64 imm] 34)
      have fbx2 := fx9.out _ _ hSx
      replace fbx2 := Lib.hid fbx2
      replace hKax := Lib.hid hKax
      clear hSx
      go_wp2_with fail
      refine fbx2.out.mono ?_
      clear fbx2 q0 q1 q2 q3 q4
      rintro e W3 ⟨v9, rfl, hv9, hK9⟩
      have hKnx := hKax.out.trans hK9
      have hA3 := hA2.out.keeps hKnx
      have hB3 := hB2.out.keeps hKnx
      have hKw3 := hKw2.out.trans hKnx
      clear hA2 hB2 hKw2 hKax hK9 hKnx fx9
      replace hA2 := Lib.hid hA3
      replace hB2 := Lib.hid hB3
      replace hKw2 := Lib.hid hKw3
      obtain ⟨q9, c9, rfl, _, _, _⟩ := id hv9
      clear hA3 hB3 hKw3
      rw [List.length_map, hbl.out] at hv9 ⊢
      replace hv9 := Lib.hid hv9
      obtain ⟨p0, p1, p2, p3, p4⟩ := insBlk hB2.out
      have hSy : SlcS 5 (W3.alloc (.cells #[.int .i64 op2, .int .i64 dst2, .int .i64 src2, .int .i64 off2, .int .i64 imm2] 34)) (.slice (some ⟨W3.heap.size, 0, none⟩) 1 1) [insC ⟨op2, dst2, src2, off2, imm2⟩] := slcs_one (Blk.new W3 34 (insC ⟨op2, dst2, src2, off2, imm2⟩)) (sz := 5) rfl
      have hKay := Keeps.alloc W3 (.cells #[.int .i64 op2, .int .i64 dst2, .int .i64 src2, .int .i64 off2, .int .i64 imm2] 34)
      have fby2 := fy9.out _ _ hSy
      replace fby2 := Lib.hid fby2
      replace hKay := Lib.hid hKay
      clear hSy
      go_wp2_with fail
      refine fby2.out.mono ?_
      clear fby2 p0 p1 p2 p3 p4
      rintro e W4 ⟨v11, rfl, hv11, hK11⟩
      have hKny := hKay.out.trans hK11
      have hA3 := hA2.out.keeps hKny
      have hB3 := hB2.out.keeps hKny
      have hKw3 := hKw2.out.trans hKny
      have hv9n := Byts.keeps hv9.out hKny
      clear hv9
      replace hv9 := Lib.hid hv9n
      clear hv9n
      clear hA2 hB2 hKw2 hKay hK11 hKny fy9
      replace hA2 := Lib.hid hA3
      replace hB2 := Lib.hid hB3
      replace hKw2 := Lib.hid hKw3
      obtain ⟨q11, c11, rfl, _, _, _⟩ := id hv11
      clear hA3 hB3 hKw3
      rw [List.length_map, hbm.out] at hv11 ⊢
      replace hv11 := Lib.hid hv11
      obtain ⟨q0, q1, q2, q3, q4⟩ := insBlk hA2.out
      obtain ⟨p0, p1, p2, p3, p4⟩ := insBlk hB2.out
      go_wp2_with fail
      with_reducible refine (fcx.out _).mono ?_
      clear q0 q1 q2 q3 q4 p0 p1 p2 p3 p4
      rintro e C1 ⟨rfl, hC1⟩
      have hA3 := hA2.out.keeps hC1
      have hB3 := hB2.out.keeps hC1
      have hKw3 := hKw2.out.trans hC1
      have hv9n := Byts.keeps hv9.out hC1
      have hv11n := Byts.keeps hv11.out hC1
      clear hA2 hB2 hKw2 hv9 hv11 hC1
      replace hA2 := Lib.hid hA3
      replace hB2 := Lib.hid hB3
      replace hKw2 := Lib.hid hKw3
      replace hv9 := Lib.hid hv9n
      replace hv11 := Lib.hid hv11n
      clear hA3 hB3 hKw3 hv9n hv11n
      obtain ⟨q0, q1, q2, q3, q4⟩ := insBlk hA2.out
      obtain ⟨p0, p1, p2, p3, p4⟩ := insBlk hB2.out
      go_wp2_with fail
      with_reducible refine (fcx.out _).mono ?_
      clear q0 q1 q2 q3 q4 p0 p1 p2 p3 p4
      rintro e C2 ⟨rfl, hC2⟩
      have hA3 := hA2.out.keeps hC2
      have hB3 := hB2.out.keeps hC2
      have hKw3 := hKw2.out.trans hC2
      have hv9n := Byts.keeps hv9.out hC2
      have hv11n := Byts.keeps hv11.out hC2
      clear hA2 hB2 hKw2 hv9 hv11 hC2
      replace hA2 := Lib.hid hA3
      replace hB2 := Lib.hid hB3
      replace hKw2 := Lib.hid hKw3
      replace hv9 := Lib.hid hv9n
      replace hv11 := Lib.hid hv11n
      clear hA3 hB3 hKw3 hv9n hv11n
      obtain ⟨q0, q1, q2, q3, q4⟩ := insBlk hA2.out
      obtain ⟨p0, p1, p2, p3, p4⟩ := insBlk hB2.out
      go_wp2_with fail
      with_reducible refine (fcy.out _).mono ?_
      clear q0 q1 q2 q3 q4 p0 p1 p2 p3 p4
      rintro e C3 ⟨rfl, hC3⟩
      have hA3 := hA2.out.keeps hC3
      have hB3 := hB2.out.keeps hC3
      have hKw3 := hKw2.out.trans hC3
      have hv9n := Byts.keeps hv9.out hC3
      have hv11n := Byts.keeps hv11.out hC3
      clear hA2 hB2 hKw2 hv9 hv11 hC3
      replace hA2 := Lib.hid hA3
      replace hB2 := Lib.hid hB3
      replace hKw2 := Lib.hid hKw3
      replace hv9 := Lib.hid hv9n
      replace hv11 := Lib.hid hv11n
      clear hA3 hB3 hKw3 hv9n hv11n
      obtain ⟨q0, q1, q2, q3, q4⟩ := insBlk hA2.out
      obtain ⟨p0, p1, p2, p3, p4⟩ := insBlk hB2.out
      go_wp2_with fail
      go_upto_region 9 with (fail)
      have q0 := After.cell q0
      have q1 := After.cell q1
      have q2 := After.cell q2
      have q3 := After.cell q3
      have q4 := After.cell q4
      have p0 := After.cell p0
      have p1 := After.cell p1
      have p2 := After.cell p2
      have p3 := After.cell p3
      have p4 := After.cell p4
      have g1 := Lib.hid fun y : After C3 => y.call (fk.out y.now (Keeps.trans hKw2.out y.keeps))
      have gS : ∀ y : After C3, Calls Tryd.prog 18 #[.slice q9 8 c9, .slice q11 8 c11] y.now fun e w' => e = .returned (.bool E) ∧ ∃ z : After C3, w' = z.now := fun y => y.call (by
        have := same_any bx bb _ _ y.now (Byts.keeps hv9.out y.keeps) (Byts.keeps hv11.out y.keeps)
        rw [hsm.out] at this
        exact this)
      have hst3 := hst.out
      replace gS := Lib.hid gS
      clear hA2 hB2 hv9 hv11 fk hst hsm
      refine region_after (by kernel_rfl) (by kernel_rfl) ?_
      iterate 4 go_big_quiet_step (with_reducible exact g1.out _)
      refine quietBin rfl rfl rfl rfl (by kernel_rfl) heql.out ?_
      go_frame
      iterate 8 go_big_quiet_step (fail)
      refine quietBin rfl rfl rfl rfl (by kernel_rfl) heql.out ?_
      go_frame
      repeat go_big_quiet_step (with_reducible exact gS.out _)
      refine wpQuiet_nil ?_
      rintro _ ⟨⟨C5, hC5⟩, rfl⟩
      have hKf := Lib.hid (hKw2.out.trans hC5)
      clear q0 q1 q2 q3 q4 p0 p1 p2 p3 p4 hst3 g1 gS hC5 heql
      go_wp2_with fail
      go_ret
      exact ⟨rfl, hKf.out⟩
    ·
      have htx := hx0.out hex
      have hszx := hxn.out hex
      have fx9 := fbx.out
      rw [if_pos hex] at fx9
      rw [htx]
      have hsix : (0 : Int) < ((str tbx).size : Int) := by rw [str_size]; omega
      clear htx hszx
      replace fx9 := Lib.hid fx9
      have hty := hy1.out hey
      have fy9 := fby.out
      rw [if_neg hey] at fy9
      rw [hty, show str [] = ⟨#[]⟩ from rfl]
      have hby : (ey == 0) = false := by rw [beq_eq_false_iff_ne]; exact hey
      have hby2 : (ey != 0) = true := by rw [bne, hby]; rfl
      clear hty
      replace fy9 := Lib.hid fy9
      clear hx0 hx1 hy0 hy1 hxn hyn hti hbi heq htx hbx fbx fby
      obtain ⟨S1, hS1⟩ : ∃ S, S = str tbx := ⟨_, rfl⟩
      rw [← hS1] at hsix ⊢
      clear hS1
      subst hex
      replace hey := Lib.hid hey
      obtain ⟨q0, q1, q2, q3, q4⟩ := insBlk hA2.out
      have hSx : SlcS 5 (W2.alloc (.cells #[.int .i64 op, .int .i64 dst, .int .i64 src, .int .i64 off, .int .i64 imm] 34)) (.slice (some ⟨W2.heap.size, 0, none⟩) 1 1) [insC ⟨op, dst, src, off, imm⟩] := slcs_one (Blk.new W2 34 (insC ⟨op, dst, src, off, imm⟩)) (sz := 5) rfl
      have hKax := Keeps.alloc W2 (.cells #[.int .i64 op, .int .i64 dst, .int .i64 src, .int .i64 off, .int .i64 imm] 34)
      have fbx2 := fx9.out _ _ hSx
      replace fbx2 := Lib.hid fbx2
      replace hKax := Lib.hid hKax
      clear hSx
      go_wp2_with fail
      refine fbx2.out.mono ?_
      clear fbx2 q0 q1 q2 q3 q4
      rintro e W3 ⟨v9, rfl, hv9, hK9⟩
      have hKnx := hKax.out.trans hK9
      have hA3 := hA2.out.keeps hKnx
      have hB3 := hB2.out.keeps hKnx
      have hKw3 := hKw2.out.trans hKnx
      clear hA2 hB2 hKw2 hKax hK9 hKnx fx9
      replace hA2 := Lib.hid hA3
      replace hB2 := Lib.hid hB3
      replace hKw2 := Lib.hid hKw3
      obtain ⟨q9, c9, rfl, _, _, _⟩ := id hv9
      clear hA3 hB3 hKw3
      rw [List.length_map, hbl.out] at hv9 ⊢
      replace hv9 := Lib.hid hv9
      obtain ⟨p0, p1, p2, p3, p4⟩ := insBlk hB2.out
      have hSy : SlcS 5 (W3.alloc (.cells #[.int .i64 op2, .int .i64 dst2, .int .i64 src2, .int .i64 off2, .int .i64 imm2] 34)) (.slice (some ⟨W3.heap.size, 0, none⟩) 1 1) [insC ⟨op2, dst2, src2, off2, imm2⟩] := slcs_one (Blk.new W3 34 (insC ⟨op2, dst2, src2, off2, imm2⟩)) (sz := 5) rfl
      have hKay := Keeps.alloc W3 (.cells #[.int .i64 op2, .int .i64 dst2, .int .i64 src2, .int .i64 off2, .int .i64 imm2] 34)
      have fby2 := fy9.out _ _ hSy
      replace fby2 := Lib.hid fby2
      replace hKay := Lib.hid hKay
      clear hSy
      go_wp2_with fail
      refine fby2.out.mono ?_
      clear fby2 p0 p1 p2 p3 p4
      rintro e W4 ⟨v11, rfl, hv11, hK11⟩
      have hKny := hKay.out.trans hK11
      have hA3 := hA2.out.keeps hKny
      have hB3 := hB2.out.keeps hKny
      have hKw3 := hKw2.out.trans hKny
      have hv9n := Byts.keeps hv9.out hKny
      clear hv9
      replace hv9 := Lib.hid hv9n
      clear hv9n
      clear hA2 hB2 hKw2 hKay hK11 hKny fy9
      replace hA2 := Lib.hid hA3
      replace hB2 := Lib.hid hB3
      replace hKw2 := Lib.hid hKw3
      obtain ⟨q11, c11, rfl, _, _, _⟩ := id hv11
      clear hA3 hB3 hKw3
      simp only [List.map_nil, List.length_nil] at hv11 ⊢
      replace hv11 := Lib.hid hv11
      obtain ⟨q0, q1, q2, q3, q4⟩ := insBlk hA2.out
      obtain ⟨p0, p1, p2, p3, p4⟩ := insBlk hB2.out
      go_wp2_with fail
      with_reducible refine (fcx.out _).mono ?_
      clear q0 q1 q2 q3 q4 p0 p1 p2 p3 p4
      rintro e C1 ⟨rfl, hC1⟩
      have hA3 := hA2.out.keeps hC1
      have hB3 := hB2.out.keeps hC1
      have hKw3 := hKw2.out.trans hC1
      have hv9n := Byts.keeps hv9.out hC1
      have hv11n := Byts.keeps hv11.out hC1
      clear hA2 hB2 hKw2 hv9 hv11 hC1
      replace hA2 := Lib.hid hA3
      replace hB2 := Lib.hid hB3
      replace hKw2 := Lib.hid hKw3
      replace hv9 := Lib.hid hv9n
      replace hv11 := Lib.hid hv11n
      clear hA3 hB3 hKw3 hv9n hv11n
      obtain ⟨q0, q1, q2, q3, q4⟩ := insBlk hA2.out
      obtain ⟨p0, p1, p2, p3, p4⟩ := insBlk hB2.out
      go_wp2_with fail
      with_reducible refine (fcx.out _).mono ?_
      clear q0 q1 q2 q3 q4 p0 p1 p2 p3 p4
      rintro e C2 ⟨rfl, hC2⟩
      have hA3 := hA2.out.keeps hC2
      have hB3 := hB2.out.keeps hC2
      have hKw3 := hKw2.out.trans hC2
      have hv9n := Byts.keeps hv9.out hC2
      have hv11n := Byts.keeps hv11.out hC2
      clear hA2 hB2 hKw2 hv9 hv11 hC2
      replace hA2 := Lib.hid hA3
      replace hB2 := Lib.hid hB3
      replace hKw2 := Lib.hid hKw3
      replace hv9 := Lib.hid hv9n
      replace hv11 := Lib.hid hv11n
      clear hA3 hB3 hKw3 hv9n hv11n
      obtain ⟨q0, q1, q2, q3, q4⟩ := insBlk hA2.out
      obtain ⟨p0, p1, p2, p3, p4⟩ := insBlk hB2.out
      go_wp2_with fail
      with_reducible refine (fcy.out _).mono ?_
      clear q0 q1 q2 q3 q4 p0 p1 p2 p3 p4
      rintro e C3 ⟨rfl, hC3⟩
      have hA3 := hA2.out.keeps hC3
      have hB3 := hB2.out.keeps hC3
      have hKw3 := hKw2.out.trans hC3
      have hv9n := Byts.keeps hv9.out hC3
      have hv11n := Byts.keeps hv11.out hC3
      clear hA2 hB2 hKw2 hv9 hv11 hC3
      replace hA2 := Lib.hid hA3
      replace hB2 := Lib.hid hB3
      replace hKw2 := Lib.hid hKw3
      replace hv9 := Lib.hid hv9n
      replace hv11 := Lib.hid hv11n
      clear hA3 hB3 hKw3 hv9n hv11n
      obtain ⟨q0, q1, q2, q3, q4⟩ := insBlk hA2.out
      obtain ⟨p0, p1, p2, p3, p4⟩ := insBlk hB2.out
      go_wp2_with fail
      refine (fk.out _ hKw2.out).mono ?_
      clear q0 q1 q2 q3 q4 p0 p1 p2 p3 p4
      rintro e C4 ⟨rfl, hC4⟩
      have hKf := Lib.hid (hKw2.out.trans hC4)
      go_wp2_with fail
      go_ret
      exact ⟨rfl, hKf.out⟩
    ·
      have htx := hx1.out hex
      have fx9 := fbx.out
      rw [if_neg hex] at fx9
      rw [htx, show str [] = ⟨#[]⟩ from rfl]
      have hbx : (ex == 0) = false := by rw [beq_eq_false_iff_ne]; exact hex
      have hbx2 : (ex != 0) = true := by rw [bne, hbx]; rfl
      clear htx
      replace fx9 := Lib.hid fx9
      have hty := hy0.out hey
      have hszy := hyn.out hey
      have fy9 := fby.out
      rw [if_pos hey] at fy9
      rw [hty]
      have hsiy : (0 : Int) < ((str tby).size : Int) := by rw [str_size]; omega
      clear hty hszy
      replace fy9 := Lib.hid fy9
      clear hx0 hx1 hy0 hy1 hxn hyn hti hbi heq htx hbx fbx fby
      obtain ⟨S2, hS2⟩ : ∃ S, S = str tby := ⟨_, rfl⟩
      rw [← hS2] at hsiy ⊢
      clear hS2
      replace hex := Lib.hid hex
      subst hey
      obtain ⟨q0, q1, q2, q3, q4⟩ := insBlk hA2.out
      have hSx : SlcS 5 (W2.alloc (.cells #[.int .i64 op, .int .i64 dst, .int .i64 src, .int .i64 off, .int .i64 imm] 34)) (.slice (some ⟨W2.heap.size, 0, none⟩) 1 1) [insC ⟨op, dst, src, off, imm⟩] := slcs_one (Blk.new W2 34 (insC ⟨op, dst, src, off, imm⟩)) (sz := 5) rfl
      have hKax := Keeps.alloc W2 (.cells #[.int .i64 op, .int .i64 dst, .int .i64 src, .int .i64 off, .int .i64 imm] 34)
      have fbx2 := fx9.out _ _ hSx
      replace fbx2 := Lib.hid fbx2
      replace hKax := Lib.hid hKax
      clear hSx
      go_wp2_with fail
      refine fbx2.out.mono ?_
      clear fbx2 q0 q1 q2 q3 q4
      rintro e W3 ⟨v9, rfl, hv9, hK9⟩
      have hKnx := hKax.out.trans hK9
      have hA3 := hA2.out.keeps hKnx
      have hB3 := hB2.out.keeps hKnx
      have hKw3 := hKw2.out.trans hKnx
      clear hA2 hB2 hKw2 hKax hK9 hKnx fx9
      replace hA2 := Lib.hid hA3
      replace hB2 := Lib.hid hB3
      replace hKw2 := Lib.hid hKw3
      obtain ⟨q9, c9, rfl, _, _, _⟩ := id hv9
      clear hA3 hB3 hKw3
      simp only [List.map_nil, List.length_nil] at hv9 ⊢
      replace hv9 := Lib.hid hv9
      obtain ⟨p0, p1, p2, p3, p4⟩ := insBlk hB2.out
      have hSy : SlcS 5 (W3.alloc (.cells #[.int .i64 op2, .int .i64 dst2, .int .i64 src2, .int .i64 off2, .int .i64 imm2] 34)) (.slice (some ⟨W3.heap.size, 0, none⟩) 1 1) [insC ⟨op2, dst2, src2, off2, imm2⟩] := slcs_one (Blk.new W3 34 (insC ⟨op2, dst2, src2, off2, imm2⟩)) (sz := 5) rfl
      have hKay := Keeps.alloc W3 (.cells #[.int .i64 op2, .int .i64 dst2, .int .i64 src2, .int .i64 off2, .int .i64 imm2] 34)
      have fby2 := fy9.out _ _ hSy
      replace fby2 := Lib.hid fby2
      replace hKay := Lib.hid hKay
      clear hSy
      go_wp2_with fail
      refine fby2.out.mono ?_
      clear fby2 p0 p1 p2 p3 p4
      rintro e W4 ⟨v11, rfl, hv11, hK11⟩
      have hKny := hKay.out.trans hK11
      have hA3 := hA2.out.keeps hKny
      have hB3 := hB2.out.keeps hKny
      have hKw3 := hKw2.out.trans hKny
      have hv9n := Byts.keeps hv9.out hKny
      clear hv9
      replace hv9 := Lib.hid hv9n
      clear hv9n
      clear hA2 hB2 hKw2 hKay hK11 hKny fy9
      replace hA2 := Lib.hid hA3
      replace hB2 := Lib.hid hB3
      replace hKw2 := Lib.hid hKw3
      obtain ⟨q11, c11, rfl, _, _, _⟩ := id hv11
      clear hA3 hB3 hKw3
      rw [List.length_map, hbm.out] at hv11 ⊢
      replace hv11 := Lib.hid hv11
      obtain ⟨q0, q1, q2, q3, q4⟩ := insBlk hA2.out
      obtain ⟨p0, p1, p2, p3, p4⟩ := insBlk hB2.out
      go_wp2_with fail
      with_reducible refine (fcx.out _).mono ?_
      clear q0 q1 q2 q3 q4 p0 p1 p2 p3 p4
      rintro e C1 ⟨rfl, hC1⟩
      have hA3 := hA2.out.keeps hC1
      have hB3 := hB2.out.keeps hC1
      have hKw3 := hKw2.out.trans hC1
      have hv9n := Byts.keeps hv9.out hC1
      have hv11n := Byts.keeps hv11.out hC1
      clear hA2 hB2 hKw2 hv9 hv11 hC1
      replace hA2 := Lib.hid hA3
      replace hB2 := Lib.hid hB3
      replace hKw2 := Lib.hid hKw3
      replace hv9 := Lib.hid hv9n
      replace hv11 := Lib.hid hv11n
      clear hA3 hB3 hKw3 hv9n hv11n
      obtain ⟨q0, q1, q2, q3, q4⟩ := insBlk hA2.out
      obtain ⟨p0, p1, p2, p3, p4⟩ := insBlk hB2.out
      go_wp2_with fail
      with_reducible refine (fcx.out _).mono ?_
      clear q0 q1 q2 q3 q4 p0 p1 p2 p3 p4
      rintro e C2 ⟨rfl, hC2⟩
      have hA3 := hA2.out.keeps hC2
      have hB3 := hB2.out.keeps hC2
      have hKw3 := hKw2.out.trans hC2
      have hv9n := Byts.keeps hv9.out hC2
      have hv11n := Byts.keeps hv11.out hC2
      clear hA2 hB2 hKw2 hv9 hv11 hC2
      replace hA2 := Lib.hid hA3
      replace hB2 := Lib.hid hB3
      replace hKw2 := Lib.hid hKw3
      replace hv9 := Lib.hid hv9n
      replace hv11 := Lib.hid hv11n
      clear hA3 hB3 hKw3 hv9n hv11n
      obtain ⟨q0, q1, q2, q3, q4⟩ := insBlk hA2.out
      obtain ⟨p0, p1, p2, p3, p4⟩ := insBlk hB2.out
      go_wp2_with fail
      with_reducible refine (fcy.out _).mono ?_
      clear q0 q1 q2 q3 q4 p0 p1 p2 p3 p4
      rintro e C3 ⟨rfl, hC3⟩
      have hA3 := hA2.out.keeps hC3
      have hB3 := hB2.out.keeps hC3
      have hKw3 := hKw2.out.trans hC3
      have hv9n := Byts.keeps hv9.out hC3
      have hv11n := Byts.keeps hv11.out hC3
      clear hA2 hB2 hKw2 hv9 hv11 hC3
      replace hA2 := Lib.hid hA3
      replace hB2 := Lib.hid hB3
      replace hKw2 := Lib.hid hKw3
      replace hv9 := Lib.hid hv9n
      replace hv11 := Lib.hid hv11n
      clear hA3 hB3 hKw3 hv9n hv11n
      obtain ⟨q0, q1, q2, q3, q4⟩ := insBlk hA2.out
      obtain ⟨p0, p1, p2, p3, p4⟩ := insBlk hB2.out
      go_wp2_with fail
      refine (fk.out _ hKw2.out).mono ?_
      clear q0 q1 q2 q3 q4 p0 p1 p2 p3 p4
      rintro e C4 ⟨rfl, hC4⟩
      have hKf := Lib.hid (hKw2.out.trans hC4)
      go_wp2_with fail
      go_ret
      exact ⟨rfl, hKf.out⟩
    ·
      have htx := hx1.out hex
      have fx9 := fbx.out
      rw [if_neg hex] at fx9
      rw [htx, show str [] = ⟨#[]⟩ from rfl]
      have hbx : (ex == 0) = false := by rw [beq_eq_false_iff_ne]; exact hex
      have hbx2 : (ex != 0) = true := by rw [bne, hbx]; rfl
      clear htx
      replace fx9 := Lib.hid fx9
      have hty := hy1.out hey
      have fy9 := fby.out
      rw [if_neg hey] at fy9
      rw [hty, show str [] = ⟨#[]⟩ from rfl]
      have hby : (ey == 0) = false := by rw [beq_eq_false_iff_ne]; exact hey
      have hby2 : (ey != 0) = true := by rw [bne, hby]; rfl
      clear hty
      replace fy9 := Lib.hid fy9
      clear hx0 hx1 hy0 hy1 hxn hyn hti hbi heq htx hbx fbx fby
      replace hex := Lib.hid hex
      replace hey := Lib.hid hey
      obtain ⟨q0, q1, q2, q3, q4⟩ := insBlk hA2.out
      have hSx : SlcS 5 (W2.alloc (.cells #[.int .i64 op, .int .i64 dst, .int .i64 src, .int .i64 off, .int .i64 imm] 34)) (.slice (some ⟨W2.heap.size, 0, none⟩) 1 1) [insC ⟨op, dst, src, off, imm⟩] := slcs_one (Blk.new W2 34 (insC ⟨op, dst, src, off, imm⟩)) (sz := 5) rfl
      have hKax := Keeps.alloc W2 (.cells #[.int .i64 op, .int .i64 dst, .int .i64 src, .int .i64 off, .int .i64 imm] 34)
      have fbx2 := fx9.out _ _ hSx
      replace fbx2 := Lib.hid fbx2
      replace hKax := Lib.hid hKax
      clear hSx
      go_wp2_with fail
      refine fbx2.out.mono ?_
      clear fbx2 q0 q1 q2 q3 q4
      rintro e W3 ⟨v9, rfl, hv9, hK9⟩
      have hKnx := hKax.out.trans hK9
      have hA3 := hA2.out.keeps hKnx
      have hB3 := hB2.out.keeps hKnx
      have hKw3 := hKw2.out.trans hKnx
      clear hA2 hB2 hKw2 hKax hK9 hKnx fx9
      replace hA2 := Lib.hid hA3
      replace hB2 := Lib.hid hB3
      replace hKw2 := Lib.hid hKw3
      obtain ⟨q9, c9, rfl, _, _, _⟩ := id hv9
      clear hA3 hB3 hKw3
      simp only [List.map_nil, List.length_nil] at hv9 ⊢
      replace hv9 := Lib.hid hv9
      obtain ⟨p0, p1, p2, p3, p4⟩ := insBlk hB2.out
      have hSy : SlcS 5 (W3.alloc (.cells #[.int .i64 op2, .int .i64 dst2, .int .i64 src2, .int .i64 off2, .int .i64 imm2] 34)) (.slice (some ⟨W3.heap.size, 0, none⟩) 1 1) [insC ⟨op2, dst2, src2, off2, imm2⟩] := slcs_one (Blk.new W3 34 (insC ⟨op2, dst2, src2, off2, imm2⟩)) (sz := 5) rfl
      have hKay := Keeps.alloc W3 (.cells #[.int .i64 op2, .int .i64 dst2, .int .i64 src2, .int .i64 off2, .int .i64 imm2] 34)
      have fby2 := fy9.out _ _ hSy
      replace fby2 := Lib.hid fby2
      replace hKay := Lib.hid hKay
      clear hSy
      go_wp2_with fail
      refine fby2.out.mono ?_
      clear fby2 p0 p1 p2 p3 p4
      rintro e W4 ⟨v11, rfl, hv11, hK11⟩
      have hKny := hKay.out.trans hK11
      have hA3 := hA2.out.keeps hKny
      have hB3 := hB2.out.keeps hKny
      have hKw3 := hKw2.out.trans hKny
      have hv9n := Byts.keeps hv9.out hKny
      clear hv9
      replace hv9 := Lib.hid hv9n
      clear hv9n
      clear hA2 hB2 hKw2 hKay hK11 hKny fy9
      replace hA2 := Lib.hid hA3
      replace hB2 := Lib.hid hB3
      replace hKw2 := Lib.hid hKw3
      obtain ⟨q11, c11, rfl, _, _, _⟩ := id hv11
      clear hA3 hB3 hKw3
      simp only [List.map_nil, List.length_nil] at hv11 ⊢
      replace hv11 := Lib.hid hv11
      obtain ⟨q0, q1, q2, q3, q4⟩ := insBlk hA2.out
      obtain ⟨p0, p1, p2, p3, p4⟩ := insBlk hB2.out
      go_wp2_with fail
      with_reducible refine (fcx.out _).mono ?_
      clear q0 q1 q2 q3 q4 p0 p1 p2 p3 p4
      rintro e C1 ⟨rfl, hC1⟩
      have hA3 := hA2.out.keeps hC1
      have hB3 := hB2.out.keeps hC1
      have hKw3 := hKw2.out.trans hC1
      have hv9n := Byts.keeps hv9.out hC1
      have hv11n := Byts.keeps hv11.out hC1
      clear hA2 hB2 hKw2 hv9 hv11 hC1
      replace hA2 := Lib.hid hA3
      replace hB2 := Lib.hid hB3
      replace hKw2 := Lib.hid hKw3
      replace hv9 := Lib.hid hv9n
      replace hv11 := Lib.hid hv11n
      clear hA3 hB3 hKw3 hv9n hv11n
      obtain ⟨q0, q1, q2, q3, q4⟩ := insBlk hA2.out
      obtain ⟨p0, p1, p2, p3, p4⟩ := insBlk hB2.out
      go_wp2_with fail
      with_reducible refine (fcx.out _).mono ?_
      clear q0 q1 q2 q3 q4 p0 p1 p2 p3 p4
      rintro e C2 ⟨rfl, hC2⟩
      have hA3 := hA2.out.keeps hC2
      have hB3 := hB2.out.keeps hC2
      have hKw3 := hKw2.out.trans hC2
      have hv9n := Byts.keeps hv9.out hC2
      have hv11n := Byts.keeps hv11.out hC2
      clear hA2 hB2 hKw2 hv9 hv11 hC2
      replace hA2 := Lib.hid hA3
      replace hB2 := Lib.hid hB3
      replace hKw2 := Lib.hid hKw3
      replace hv9 := Lib.hid hv9n
      replace hv11 := Lib.hid hv11n
      clear hA3 hB3 hKw3 hv9n hv11n
      obtain ⟨q0, q1, q2, q3, q4⟩ := insBlk hA2.out
      obtain ⟨p0, p1, p2, p3, p4⟩ := insBlk hB2.out
      go_wp2_with fail
      with_reducible refine (fcy.out _).mono ?_
      clear q0 q1 q2 q3 q4 p0 p1 p2 p3 p4
      rintro e C3 ⟨rfl, hC3⟩
      have hA3 := hA2.out.keeps hC3
      have hB3 := hB2.out.keeps hC3
      have hKw3 := hKw2.out.trans hC3
      have hv9n := Byts.keeps hv9.out hC3
      have hv11n := Byts.keeps hv11.out hC3
      clear hA2 hB2 hKw2 hv9 hv11 hC3
      replace hA2 := Lib.hid hA3
      replace hB2 := Lib.hid hB3
      replace hKw2 := Lib.hid hKw3
      replace hv9 := Lib.hid hv9n
      replace hv11 := Lib.hid hv11n
      clear hA3 hB3 hKw3 hv9n hv11n
      obtain ⟨q0, q1, q2, q3, q4⟩ := insBlk hA2.out
      obtain ⟨p0, p1, p2, p3, p4⟩ := insBlk hB2.out
      go_wp2_with fail
      refine (fk.out _ hKw2.out).mono ?_
      clear q0 q1 q2 q3 q4 p0 p1 p2 p3 p4
      rintro e C4 ⟨rfl, hC4⟩
      have hKf := Lib.hid (hKw2.out.trans hC4)
      go_wp2_with fail
      go_ret
      exact ⟨rfl, hKf.out⟩
end Go.Proofs.YtmmglikbajiepaaDoor
