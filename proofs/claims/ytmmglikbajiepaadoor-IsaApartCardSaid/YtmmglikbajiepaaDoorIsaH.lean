/- isa.Check. -/
import Derived.Test.YtmmglikbajiepaaDoorIsaG
import Derived.Test.YtmmglikbajiepaaDoorIsaS
import Derived.Deep.RegionHeld3
import Derived.Laws.StructEq
namespace Go.Proofs.YtmmglikbajiepaaDoor
open Go.RowKit

def outM (n lo hi : Int) : Bool := decide (n < lo) || decide (hi ≤ n)
def rangeM (i : InsS) : Bool := outM i.dst 0 10 || outM i.src 0 10 || outM i.off (-32768) 32768 || outM i.imm (-2147483648) 2147483648
/-- What is wrong with an instruction. -/
def errM (i : InsS) : Int := if classM i.op = 0 then 11 else if rangeM i = true then 2 else if hasM i = andM (hasM i) (usesM i.op) then 0 else 9
theorem kcell15 {w w' : World} {a : Addr} {v : Value} (hk : Keeps w w') (h : w.cell? a = some v) : w'.cell? a = some v := (hk.cell (p := a) (cell_lt h)).trans h
def insV (i : InsS) : Value := .agg #[.int .i64 i.op, .int .i64 i.dst, .int .i64 i.src, .int .i64 i.off, .int .i64 i.imm]
def usesC (u : Bool × Bool × Bool × Bool) : List Value := [.bool u.1, .bool u.2.1, .bool u.2.2.1, .bool u.2.2.2]
set_option maxRecDepth 100000 in
set_option maxHeartbeats 4000000 in
theorem check_any (i : InsS) (w : World) : Calls Tryd.prog 14 #[insV i] w fun e w' => e = .returned (.int .i64 (errM i)) ∧ Keeps w w' := by
  have fh := has_any i
  have fc := class_any i.op
  have fu := used_any i.op
  have fa := and_any (hasM i) (usesM i.op)
  obtain ⟨op, dst, src, off, imm⟩ := i
  obtain ⟨r, hr⟩ : ∃ r, r = errM ⟨op, dst, src, off, imm⟩ := ⟨_, rfl⟩
  rw [← hr]
  replace hr := Lib.hid hr
  have hB := Blk.new w 34 (insC ⟨op, dst, src, off, imm⟩)
  have hK := Keeps.alloc w (.cells (insC ⟨op, dst, src, off, imm⟩).toArray 34)
  obtain ⟨B, eB⟩ : ∃ B, B = w.heap.size := ⟨_, rfl⟩
  rw [← eB] at hB
  replace eB := Lib.hid eB
  replace hB := Lib.hid hB
  replace hK := Lib.hid hK
  replace fh := Lib.hid fh
  replace fc := Lib.hid fc
  replace fu := Lib.hid fu
  replace fa := Lib.hid fa
  unfold insV
  go_enter Tryd.func14, Tryd.ntmps14
  go_upto_region 2 with (fail)
  rw [← eB.out]
  refine wp_gen (fun W => Blk W B 34 (insC ⟨op, dst, src, off, imm⟩) ∧ Keeps w W) ⟨hB.out, hK.out⟩ ?_
  clear hB hK eB
  rintro W ⟨hB, hK⟩
  obtain ⟨q0, q1, q2, q3, q4⟩ := show W.cell? ⟨B, 0, none⟩ = some (.int .i64 op) ∧ W.cell? ⟨B, 1, none⟩ = some (.int .i64 dst) ∧ W.cell? ⟨B, 2, none⟩ = some (.int .i64 src) ∧ W.cell? ⟨B, 3, none⟩ = some (.int .i64 off) ∧ W.cell? ⟨B, 4, none⟩ = some (.int .i64 imm) from ⟨hB.cell 0 (by simp [insC]), hB.cell 1 (by simp [insC]), hB.cell 2 (by simp [insC]), hB.cell 3 (by simp [insC]), hB.cell 4 (by simp [insC])⟩
  replace hB := Lib.hid hB
  replace hK := Lib.hid hK
  go_wp2_with fail
  with_reducible refine (fh.out _).mono ?_
  rintro e w1 ⟨rfl, hK1⟩
  have hU := Blk.new w1 58 (usesC (hasM ⟨op, dst, src, off, imm⟩))
  have hKa := Keeps.alloc w1 (.cells (usesC (hasM ⟨op, dst, src, off, imm⟩)).toArray 58)
  have hB1 := (hB.out.keeps hK1).keeps hKa
  have hK2 := Keeps.trans (Keeps.trans hK.out hK1) hKa
  obtain ⟨C, eC⟩ : ∃ B, B = w1.heap.size := ⟨_, rfl⟩
  rw [← eC] at hU
  replace eC := Lib.hid eC
  replace hU := Lib.hid hU
  replace hB1 := Lib.hid hB1
  replace hK2 := Lib.hid hK2
  clear hB hK hK1 hKa q0 q1 q2 q3 q4
  unfold usesV
  go_upto_region 3 with (fail)
  rw [← eC.out]
  refine wp_gen (fun W => Blk W B 34 (insC ⟨op, dst, src, off, imm⟩) ∧ Blk W C 58 (usesC (hasM ⟨op, dst, src, off, imm⟩)) ∧ Keeps w W) ⟨hB1.out, hU.out, hK2.out⟩ ?_
  clear hB1 hU hK2 eC
  rintro W2 ⟨hB, hU, hK⟩
  obtain ⟨q0, q1, q2, q3, q4⟩ := show W2.cell? ⟨B, 0, none⟩ = some (.int .i64 op) ∧ W2.cell? ⟨B, 1, none⟩ = some (.int .i64 dst) ∧ W2.cell? ⟨B, 2, none⟩ = some (.int .i64 src) ∧ W2.cell? ⟨B, 3, none⟩ = some (.int .i64 off) ∧ W2.cell? ⟨B, 4, none⟩ = some (.int .i64 imm) from ⟨hB.cell 0 (by simp [insC]), hB.cell 1 (by simp [insC]), hB.cell 2 (by simp [insC]), hB.cell 3 (by simp [insC]), hB.cell 4 (by simp [insC])⟩
  replace hB := Lib.hid hB
  replace hU := Lib.hid hU
  replace hK := Lib.hid hK
  by_cases hc0 : classM op = 0
  · have he : errM ⟨op, dst, src, off, imm⟩ = 11 := by unfold errM; rw [if_pos hc0]
    have hr2 := Lib.hid (hr.out.trans he)
    have fc2 := fc.out
    rw [show classM (InsS.op ⟨op, dst, src, off, imm⟩) = 0 from hc0] at fc2
    replace fc2 := Lib.hid fc2
    clear he hc0 fc
    go_wp2_with fail
    with_reducible refine (fc2.out _).mono ?_
    rintro e w' ⟨rfl, rfl⟩
    go_wp2_with fail
    go_ret
    exact ⟨by rw [hr2.out]; rfl, hK.out⟩
  · have fc2 := fc.out
    change ∀ w, Calls Tryd.prog _ #[.int .i64 op] w fun e w' => e = .returned (.int .i64 (classM op)) ∧ w = w' at fc2
    have hcb : (classM op == 0) = false := by rw [beq_eq_false_iff_ne]; exact hc0
    have f1 : ∀ W, Calls Tryd.prog 26 #[.int .i64 dst, .int .i64 0, .int .i64 10] W fun e w' => e = .returned (.bool (outM dst 0 10)) ∧ W = w' := out_any dst 0 10
    have f2 : ∀ W, Calls Tryd.prog 26 #[.int .i64 src, .int .i64 0, .int .i64 10] W fun e w' => e = .returned (.bool (outM src 0 10)) ∧ W = w' := out_any src 0 10
    have f3 : ∀ W, Calls Tryd.prog 26 #[.int .i64 off, .int .i64 (-32768), .int .i64 32768] W fun e w' => e = .returned (.bool (outM off (-32768) 32768)) ∧ W = w' := out_any off _ _
    have f4 : ∀ W, Calls Tryd.prog 26 #[.int .i64 imm, .int .i64 (-2147483648), .int .i64 2147483648] W fun e w' => e = .returned (.bool (outM imm (-2147483648) 2147483648)) ∧ W = w' := out_any imm _ _
    have hrm : rangeM ⟨op, dst, src, off, imm⟩ = (outM dst 0 10 || outM src 0 10 || outM off (-32768) 32768 || outM imm (-2147483648) 2147483648) := rfl
    have her : rangeM ⟨op, dst, src, off, imm⟩ = true → r = 2 := fun h => by rw [hr.out]; unfold errM; rw [if_neg hc0, if_pos h]
    generalize outM dst 0 10 = b1 at *
    generalize outM src 0 10 = b2 at *
    generalize outM off (-32768) 32768 = b3 at *
    generalize outM imm (-2147483648) 2147483648 = b4 at *
    replace fc2 := Lib.hid fc2
    replace f1 := Lib.hid f1
    replace f2 := Lib.hid f2
    replace f3 := Lib.hid f3
    replace f4 := Lib.hid f4
    replace hrm := Lib.hid hrm
    replace her := Lib.hid her
    replace hc0 := Lib.hid hc0
    clear fc
    go_wp2_with fail
    with_reducible refine (fc2.out _).mono ?_
    rintro e w' ⟨rfl, rfl⟩
    go_upto_region 5 with (fail)
    cases b1 with
    | true =>
      go_wp2_with fail
      with_reducible refine (f1.out _).mono ?_
      rintro e w' ⟨rfl, rfl⟩
      go_wp2_with fail
      go_ret
      exact ⟨by rw [her.out (by rw [hrm.out]; simp)]; rfl, hK.out⟩
    | false =>
      cases b2 with
      | true =>
        go_wp2_with fail
        with_reducible refine (f1.out _).mono ?_
        rintro e w' ⟨rfl, rfl⟩
        go_wp2_with fail
        with_reducible refine (f2.out _).mono ?_
        rintro e w' ⟨rfl, rfl⟩
        go_wp2_with fail
        go_ret
        exact ⟨by rw [her.out (by rw [hrm.out]; simp)]; rfl, hK.out⟩
      | false =>
        cases b3 with
        | true =>
          go_wp2_with fail
          with_reducible refine (f1.out _).mono ?_
          rintro e w' ⟨rfl, rfl⟩
          go_wp2_with fail
          with_reducible refine (f2.out _).mono ?_
          rintro e w' ⟨rfl, rfl⟩
          go_wp2_with fail
          with_reducible refine (f3.out _).mono ?_
          rintro e w' ⟨rfl, rfl⟩
          go_wp2_with fail
          go_ret
          exact ⟨by rw [her.out (by rw [hrm.out]; simp)]; rfl, hK.out⟩
        | false =>
          cases b4 with
          | true =>
            go_wp2_with fail
            with_reducible refine (f1.out _).mono ?_
            rintro e w' ⟨rfl, rfl⟩
            go_wp2_with fail
            with_reducible refine (f2.out _).mono ?_
            rintro e w' ⟨rfl, rfl⟩
            go_wp2_with fail
            with_reducible refine (f3.out _).mono ?_
            rintro e w' ⟨rfl, rfl⟩
            go_wp2_with fail
            with_reducible refine (f4.out _).mono ?_
            rintro e w' ⟨rfl, rfl⟩
            go_wp2_with fail
            go_ret
            exact ⟨by rw [her.out (by rw [hrm.out]; simp)]; rfl, hK.out⟩
          | false =>
            go_wp2_with fail
            with_reducible refine (f1.out _).mono ?_
            rintro e w' ⟨rfl, rfl⟩
            go_wp2_with fail
            with_reducible refine (f2.out _).mono ?_
            rintro e w' ⟨rfl, rfl⟩
            go_wp2_with fail
            with_reducible refine (f3.out _).mono ?_
            rintro e w' ⟨rfl, rfl⟩
            go_wp2_with fail
            with_reducible refine (f4.out _).mono ?_
            rintro e w' ⟨rfl, rfl⟩
            go_upto_region 7 with (fail)
            have her0 : hasM ⟨op, dst, src, off, imm⟩ = andM (hasM ⟨op, dst, src, off, imm⟩) (usesM op) → r = 0 := fun h => by rw [hr.out]; unfold errM; rw [if_neg hc0.out, if_neg (by rw [hrm.out]; decide), if_pos h]
            have her9 : ¬ hasM ⟨op, dst, src, off, imm⟩ = andM (hasM ⟨op, dst, src, off, imm⟩) (usesM op) → r = 9 := fun h => by rw [hr.out]; unfold errM; rw [if_neg hc0.out, if_neg (by rw [hrm.out]; decide), if_neg h]
            have fu2 := fu.out
            have fa2 := fa.out
            have hU2 := hU.out
            clear hr her hrm f1 f2 f3 f4 fc2 hc0 fh fu fa hU
            change ∀ w, Calls Tryd.prog _ #[.int .i64 op] w fun e w' => e = .returned (usesV (usesM op)) ∧ Keeps w w' at fu2
            generalize hasM ⟨op, dst, src, off, imm⟩ = u at *
            generalize andM u (usesM op) = v at *
            generalize usesM op = m at *
            obtain ⟨u1, u2, u3, u4⟩ := u
            obtain ⟨v1, v2, v3, v4⟩ := v
            obtain ⟨m1, m2, m3, m4⟩ := m
            simp only [usesV] at fu2 fa2
            have fu3 : ∀ y : After W2, Calls Tryd.prog 29 #[.int .i64 op] y.now fun e w' => e = .returned (.agg #[.bool m1, .bool m2, .bool m3, .bool m4]) ∧ ∃ z : After W2, w' = z.now := fun y => y.call (fu2 _)
            have fa3 : ∀ y : After W2, Calls Tryd.prog 28 #[.agg #[.bool u1, .bool u2, .bool u3, .bool u4], .agg #[.bool m1, .bool m2, .bool m3, .bool m4]] y.now fun e w' => e = .returned (.agg #[.bool v1, .bool v2, .bool v3, .bool v4]) ∧ ∃ z : After W2, w' = z.now := fun y => y.call (fa2 _)
            have hrow : ∀ w', (∃ x : After W2, w' = x.now) → Blk w' C 58 [.bool u1, .bool u2, .bool u3, .bool u4] := by rintro _ ⟨x, rfl⟩; exact hU2.keeps x.keeps
            have x0 := After.cell q0
            replace fu3 := Lib.hid fu3
            replace fa3 := Lib.hid fa3
            replace hrow := Lib.hid hrow
            replace her0 := Lib.hid her0
            replace her9 := Lib.hid her9
            clear fu2 fa2 hU2 q0 q1 q2 q3 q4 hB
            refine region_after (by kernel_rfl) (by kernel_rfl) ?_
            refine quietRow hrow.out rfl 58 _ rfl rfl _ Tryd.underlying58 rfl 4 sizeUses rfl ?_
            go_frame
            refine quietRow hrow.out rfl 58 _ rfl rfl _ Tryd.underlying58 rfl 4 sizeUses rfl ?_
            go_frame
            iterate 2 go_big_quiet_step (fail)
            iterate 1 go_big_quiet_step (with_reducible exact fu3.out _)
            iterate 1 go_big_quiet_step (with_reducible exact fa3.out _)
            refine quietBin rfl rfl rfl rfl (by kernel_rfl) (neqUses _ _ _ _ _ _ _ _) ?_
            go_frame
            repeat go_big_quiet_step (fail)
            refine wpQuiet_nil ?_
            rintro _ ⟨⟨W3, hK3⟩, rfl⟩
            replace hK := Lib.hid (hK.out.trans hK3)
            clear fu3 fa3 hrow x0 hK3
            by_cases hE : (u1, u2, u3, u4) = (v1, v2, v3, v4)
            · have hr := her0.out hE
              rw [decide_eq_true hE, Bool.not_true]
              replace hr := Lib.hid hr
              clear her0 her9 hE
              go_wp2_with fail
              go_ret
              exact ⟨by rw [hr.out]; rfl, hK.out⟩
            · have hr := her9.out hE
              rw [decide_eq_false hE, Bool.not_false]
              replace hr := Lib.hid hr
              clear her0 her9 hE
              go_wp2_with fail
              go_ret
              exact ⟨by rw [hr.out]; rfl, hK.out⟩
end Go.Proofs.YtmmglikbajiepaaDoor
