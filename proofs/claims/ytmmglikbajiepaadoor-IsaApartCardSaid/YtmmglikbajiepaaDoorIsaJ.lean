/- detentref15.Check: it gives errM (printed by gen15i.py). -/
import Derived.Test.YtmmglikbajiepaaDoorIsaI
namespace Go.Proofs.YtmmglikbajiepaaDoor
open Go.RowKit

theorem uses_shapeN : ∀ n : Fin 74, classM (n.1 : Int) = 0 ∨ usesM (n.1 : Int) = ((shapeB (n.1 : Int)).contains 100, (shapeB (n.1 : Int)).contains 115, (shapeB (n.1 : Int)).contains 111, (shapeB (n.1 : Int)).contains 105) ∧ (shapeB (n.1 : Int)).length ≤ 3 := by decide +kernel
theorem uses_shape {op : Int} (h : classM op ≠ 0) : usesM op = ((shapeB op).contains 100, (shapeB op).contains 115, (shapeB op).contains 111, (shapeB op).contains 105) ∧ (shapeB op).length ≤ 3 := by
  have h1 : 0 ≤ op ∧ op ≤ 73 := by
    have := class_range op
    omega
  have h2 := uses_shapeN ⟨op.toNat, by omega⟩
  simp only at h2
  rw [show ((op.toNat : Nat) : Int) = op by omega] at h2
  exact h2.resolve_left h
def formM (i : InsS) : Bool := ((i.dst != 0) && !(shapeB i.op).contains 100) || ((i.src != 0) && !(shapeB i.op).contains 115) || ((i.off != 0) && !(shapeB i.op).contains 111) || ((i.imm != 0) && !(shapeB i.op).contains 105)
theorem form_aux (e1 e2 e3 e4 d1 d2 d3 d4 : Bool) : (if (e1, e2, e3, e4) = andM (e1, e2, e3, e4) (d1, d2, d3, d4) then (0 : Int) else 9) = if ((e1 && !d1) || (e2 && !d2) || (e3 && !d3) || (e4 && !d4)) = true then 9 else 0 := by
  cases d1 <;> cases d2 <;> cases d3 <;> cases d4 <;> cases e1 <;> cases e2 <;> cases e3 <;> cases e4 <;> rfl
theorem errM_form {i : InsS} (h : classM i.op ≠ 0) : errM i = if rangeM i = true then 2 else if formM i = true then 9 else 0 := by
  have h1 := (uses_shape h).1
  unfold errM formM
  rw [if_neg h, h1]
  split
  · rfl
  · exact form_aux (i.dst != 0) (i.src != 0) (i.off != 0) (i.imm != 0) _ _ _ _
set_option maxRecDepth 100000 in
set_option maxHeartbeats 8000000 in
theorem rcheck_any (i : InsS) (w : World) : Calls Tryd.prog 12 #[insV i] w fun e w' => e = .returned (.int .i64 (errM i)) ∧ Keeps w w' := by
  have fk := kind_any i.op
  obtain ⟨op, dst, src, off, imm⟩ := i
  obtain ⟨r, hr⟩ : ∃ r, r = errM ⟨op, dst, src, off, imm⟩ := ⟨_, rfl⟩
  rw [← hr]
  replace hr := Lib.hid hr
  have hB := Blk.new w 29 (insC ⟨op, dst, src, off, imm⟩)
  have hK := Keeps.alloc w (.cells (insC ⟨op, dst, src, off, imm⟩).toArray 29)
  obtain ⟨B, eB⟩ : ∃ B, B = w.heap.size := ⟨_, rfl⟩
  rw [← eB] at hB
  replace eB := Lib.hid eB
  replace hB := Lib.hid hB
  replace hK := Lib.hid hK
  change ∀ w, Calls Tryd.prog _ #[.int .i64 op] w fun e w' => e = .returned (.tuple #[.string (str (nameB op)), .string (str (shapeB op)), .int .i64 (classM op)]) ∧ Keeps w w' at fk
  have hsh : classM op ≠ 0 → (shapeB op).length ≤ 3 := fun h => (uses_shape h).2
  have herf : classM op ≠ 0 → r = if rangeM ⟨op, dst, src, off, imm⟩ = true then 2 else if formM ⟨op, dst, src, off, imm⟩ = true then 9 else 0 := fun h => by rw [hr.out]; exact errM_form h
  have her0 : classM op = 0 → r = 11 := fun h => by rw [hr.out]; unfold errM; exact if_pos h
  have hrm : rangeM ⟨op, dst, src, off, imm⟩ = (outM dst 0 10 || outM src 0 10 || outM off (-32768) 32768 || outM imm (-2147483648) 2147483648) := rfl
  have hfm : formM ⟨op, dst, src, off, imm⟩ = (((dst != 0) && !(shapeB op).contains 100) || ((src != 0) && !(shapeB op).contains 115) || ((off != 0) && !(shapeB op).contains 111) || ((imm != 0) && !(shapeB op).contains 105)) := rfl
  generalize rangeM ⟨op, dst, src, off, imm⟩ = rm at *
  generalize formM ⟨op, dst, src, off, imm⟩ = fm at *
  generalize hcl : classM op = cl at *
  generalize shapeB op = sh at *
  generalize str (nameB op) = nm at *
  clear hr hcl
  replace fk := Lib.hid fk
  replace hsh := Lib.hid hsh
  replace herf := Lib.hid herf
  replace her0 := Lib.hid her0
  replace hrm := Lib.hid hrm
  replace hfm := Lib.hid hfm
  unfold insV
  go_enter Tryd.func12, Tryd.ntmps12
  go_upto_region 1 with (fail)
  rw [← eB.out]
  refine wp_gen (fun W => Blk W B 29 (insC ⟨op, dst, src, off, imm⟩) ∧ Keeps w W) ⟨hB.out, hK.out⟩ ?_
  clear hB hK eB
  rintro W ⟨hB, hK⟩
  have q0 := show W.cell? ⟨B, 0, none⟩ = some (.int .i64 op) from hB.cell 0 (by simp [insC])
  replace hB := Lib.hid hB
  replace hK := Lib.hid hK
  go_wp2_with fail
  with_reducible refine (fk.out _).mono ?_
  rintro e w1 ⟨rfl, hK1⟩
  have hB1 := hB.out.keeps hK1
  have hK2 := hK.out.trans hK1
  replace hB1 := Lib.hid hB1
  replace hK2 := Lib.hid hK2
  clear hB hK hK1 q0
  go_upto_region 2 with (fail)
  refine wp_gen (fun W => Blk W B 29 (insC ⟨op, dst, src, off, imm⟩) ∧ Keeps w W) ⟨hB1.out, hK2.out⟩ ?_
  clear hB1 hK2
  rintro W2 ⟨hB, hK⟩
  obtain ⟨q1, q2, q3, q4⟩ := show W2.cell? ⟨B, 1, none⟩ = some (.int .i64 dst) ∧ W2.cell? ⟨B, 2, none⟩ = some (.int .i64 src) ∧ W2.cell? ⟨B, 3, none⟩ = some (.int .i64 off) ∧ W2.cell? ⟨B, 4, none⟩ = some (.int .i64 imm) from ⟨hB.cell 1 (by simp [insC]), hB.cell 2 (by simp [insC]), hB.cell 3 (by simp [insC]), hB.cell 4 (by simp [insC])⟩
  clear hB fk
  replace hK := Lib.hid hK
  by_cases hc0 : cl = 0
  · have he := Lib.hid (her0.out hc0)
    have hcb : (cl == 0) = true := by rw [beq_iff_eq]; exact hc0
    clear hc0 her0 herf
    go_wp2_with fail
    go_ret
    exact ⟨by rw [he.out]; rfl, hK.out⟩
  · have he := Lib.hid (herf.out hc0)
    have hcb : (cl == 0) = false := by rw [beq_eq_false_iff_ne]; exact hc0
    have hshl := hsh.out hc0
    clear hc0 her0 herf hsh
    go_upto_region 4 with (fail)
    have hcase : dst < 0 ∨ (¬ dst < 0 ∧ 9 < dst) ∨ ((¬ dst < 0 ∧ ¬ 9 < dst) ∧ src < 0) ∨ ((¬ dst < 0 ∧ ¬ 9 < dst) ∧ ¬ src < 0 ∧ 9 < src) ∨ ((¬ dst < 0 ∧ ¬ 9 < dst) ∧ (¬ src < 0 ∧ ¬ 9 < src) ∧ off < -32768) ∨ ((¬ dst < 0 ∧ ¬ 9 < dst) ∧ (¬ src < 0 ∧ ¬ 9 < src) ∧ ¬ off < -32768 ∧ 32767 < off) ∨ ((¬ dst < 0 ∧ ¬ 9 < dst) ∧ (¬ src < 0 ∧ ¬ 9 < src) ∧ (¬ off < -32768 ∧ ¬ 32767 < off) ∧ imm < -2147483648) ∨ ((¬ dst < 0 ∧ ¬ 9 < dst) ∧ (¬ src < 0 ∧ ¬ 9 < src) ∧ (¬ off < -32768 ∧ ¬ 32767 < off) ∧ ¬ imm < -2147483648 ∧ 2147483647 < imm) ∨ ((¬ dst < 0 ∧ ¬ 9 < dst) ∧ (¬ src < 0 ∧ ¬ 9 < src) ∧ (¬ off < -32768 ∧ ¬ 32767 < off) ∧ ¬ imm < -2147483648 ∧ ¬ 2147483647 < imm) := by omega
    rcases hcase with a0 | ⟨a0, b0⟩ | ⟨⟨a0, b0⟩, a1⟩ | ⟨⟨a0, b0⟩, a1, b1⟩ | ⟨⟨a0, b0⟩, ⟨a1, b1⟩, a2⟩ | ⟨⟨a0, b0⟩, ⟨a1, b1⟩, a2, b2⟩ | ⟨⟨a0, b0⟩, ⟨a1, b1⟩, ⟨a2, b2⟩, a3⟩ | ⟨⟨a0, b0⟩, ⟨a1, b1⟩, ⟨a2, b2⟩, a3, b3⟩ | ⟨⟨a0, b0⟩, ⟨a1, b1⟩, ⟨a2, b2⟩, a3, b3⟩
    · have hr1 : rm = true := by rw [hrm.out]; unfold outM; simp only [Bool.or_eq_true, decide_eq_true_eq]; omega
      have he2 := he.out
      rw [hr1, if_pos rfl] at he2
      replace he2 := Lib.hid he2
      clear he
      clear hr1 hrm hfm hshl
      go_wp2_with fail
      go_ret
      exact ⟨by rw [he2.out]; rfl, hK.out⟩
    · have hr1 : rm = true := by rw [hrm.out]; unfold outM; simp only [Bool.or_eq_true, decide_eq_true_eq]; omega
      have he2 := he.out
      rw [hr1, if_pos rfl] at he2
      replace he2 := Lib.hid he2
      clear he
      clear hr1 hrm hfm hshl
      go_wp2_with fail
      go_ret
      exact ⟨by rw [he2.out]; rfl, hK.out⟩
    · have hr1 : rm = true := by rw [hrm.out]; unfold outM; simp only [Bool.or_eq_true, decide_eq_true_eq]; omega
      have he2 := he.out
      rw [hr1, if_pos rfl] at he2
      replace he2 := Lib.hid he2
      clear he
      clear hr1 hrm hfm hshl
      go_wp2_with fail
      go_ret
      exact ⟨by rw [he2.out]; rfl, hK.out⟩
    · have hr1 : rm = true := by rw [hrm.out]; unfold outM; simp only [Bool.or_eq_true, decide_eq_true_eq]; omega
      have he2 := he.out
      rw [hr1, if_pos rfl] at he2
      replace he2 := Lib.hid he2
      clear he
      clear hr1 hrm hfm hshl
      go_wp2_with fail
      go_ret
      exact ⟨by rw [he2.out]; rfl, hK.out⟩
    · have hr1 : rm = true := by rw [hrm.out]; unfold outM; simp only [Bool.or_eq_true, decide_eq_true_eq]; omega
      have he2 := he.out
      rw [hr1, if_pos rfl] at he2
      replace he2 := Lib.hid he2
      clear he
      clear hr1 hrm hfm hshl
      go_wp2_with fail
      go_ret
      exact ⟨by rw [he2.out]; rfl, hK.out⟩
    · have hr1 : rm = true := by rw [hrm.out]; unfold outM; simp only [Bool.or_eq_true, decide_eq_true_eq]; omega
      have he2 := he.out
      rw [hr1, if_pos rfl] at he2
      replace he2 := Lib.hid he2
      clear he
      clear hr1 hrm hfm hshl
      go_wp2_with fail
      go_ret
      exact ⟨by rw [he2.out]; rfl, hK.out⟩
    · have hr1 : rm = true := by rw [hrm.out]; unfold outM; simp only [Bool.or_eq_true, decide_eq_true_eq]; omega
      have he2 := he.out
      rw [hr1, if_pos rfl] at he2
      replace he2 := Lib.hid he2
      clear he
      clear hr1 hrm hfm hshl
      go_wp2_with fail
      go_ret
      exact ⟨by rw [he2.out]; rfl, hK.out⟩
    · have hr1 : rm = true := by rw [hrm.out]; unfold outM; simp only [Bool.or_eq_true, decide_eq_true_eq]; omega
      have he2 := he.out
      rw [hr1, if_pos rfl] at he2
      replace he2 := Lib.hid he2
      clear he
      clear hr1 hrm hfm hshl
      go_wp2_with fail
      go_ret
      exact ⟨by rw [he2.out]; rfl, hK.out⟩
    · have hr1 : rm = false := by rw [hrm.out]; unfold outM; simp only [Bool.or_eq_false_iff, decide_eq_false_iff_not]; omega
      have he2 := he.out
      rw [hr1, if_neg (by decide), hfm.out] at he2
      have f1 : ∀ W, Calls Tryd.prog 24 #[.string (str sh), .int .u8 100] W fun e w' => e = .returned (.bool (sh.contains 100)) ∧ W = w' := luses_any sh 100 hshl
      have f2 : ∀ W, Calls Tryd.prog 24 #[.string (str sh), .int .u8 115] W fun e w' => e = .returned (.bool (sh.contains 115)) ∧ W = w' := luses_any sh 115 hshl
      have f3 : ∀ W, Calls Tryd.prog 24 #[.string (str sh), .int .u8 111] W fun e w' => e = .returned (.bool (sh.contains 111)) ∧ W = w' := luses_any sh 111 hshl
      have f4 : ∀ W, Calls Tryd.prog 24 #[.string (str sh), .int .u8 105] W fun e w' => e = .returned (.bool (sh.contains 105)) ∧ W = w' := luses_any sh 105 hshl
      generalize sh.contains 100 = d1 at *
      generalize sh.contains 115 = d2 at *
      generalize sh.contains 111 = d3 at *
      generalize sh.contains 105 = d4 at *
      generalize str sh = shs at *
      clear hr1 he hrm hfm hshl
      replace he2 := Lib.hid he2
      replace f1 := Lib.hid f1
      replace f2 := Lib.hid f2
      replace f3 := Lib.hid f3
      replace f4 := Lib.hid f4
      go_upto_region 6 with (fail)
      clear a0 b0 a1 b1 a2 b2 a3 b3 hcb
      obtain ⟨e1, x1⟩ : ∃ e, (dst != 0) = e := ⟨_, rfl⟩
      obtain ⟨e2, x2⟩ : ∃ e, (src != 0) = e := ⟨_, rfl⟩
      obtain ⟨e3, x3⟩ : ∃ e, (off != 0) = e := ⟨_, rfl⟩
      obtain ⟨e4, x4⟩ : ∃ e, (imm != 0) = e := ⟨_, rfl⟩
      have he3 := he2.out
      rw [x1, x2, x3, x4] at he3
      replace he3 := Lib.hid he3
      clear he2
      cases e1 with
      | false =>
        cases e2 with
        | false =>
          cases e3 with
          | false =>
            cases e4 with
            | false =>
              as_aux_lemma =>
              go_wp2_with fail
              go_ret
              exact ⟨by rw [he3.out]; rfl, hK.out⟩
            | true =>
              cases d4 with
              | false =>
                as_aux_lemma =>
                go_wp2_with fail
                with_reducible refine (f4.out _).mono ?_
                rintro e w' ⟨rfl, rfl⟩
                go_wp2_with fail
                go_ret
                exact ⟨by rw [he3.out]; rfl, hK.out⟩
              | true =>
                as_aux_lemma =>
                go_wp2_with fail
                with_reducible refine (f4.out _).mono ?_
                rintro e w' ⟨rfl, rfl⟩
                go_wp2_with fail
                go_ret
                exact ⟨by rw [he3.out]; rfl, hK.out⟩
          | true =>
            cases d3 with
            | false =>
              as_aux_lemma =>
              go_wp2_with fail
              with_reducible refine (f3.out _).mono ?_
              rintro e w' ⟨rfl, rfl⟩
              go_wp2_with fail
              go_ret
              exact ⟨by rw [he3.out]; rfl, hK.out⟩
            | true =>
              cases e4 with
              | false =>
                as_aux_lemma =>
                go_wp2_with fail
                with_reducible refine (f3.out _).mono ?_
                rintro e w' ⟨rfl, rfl⟩
                go_wp2_with fail
                go_ret
                exact ⟨by rw [he3.out]; rfl, hK.out⟩
              | true =>
                cases d4 with
                | false =>
                  as_aux_lemma =>
                  go_wp2_with fail
                  with_reducible refine (f3.out _).mono ?_
                  rintro e w' ⟨rfl, rfl⟩
                  go_wp2_with fail
                  with_reducible refine (f4.out _).mono ?_
                  rintro e w' ⟨rfl, rfl⟩
                  go_wp2_with fail
                  go_ret
                  exact ⟨by rw [he3.out]; rfl, hK.out⟩
                | true =>
                  as_aux_lemma =>
                  go_wp2_with fail
                  with_reducible refine (f3.out _).mono ?_
                  rintro e w' ⟨rfl, rfl⟩
                  go_wp2_with fail
                  with_reducible refine (f4.out _).mono ?_
                  rintro e w' ⟨rfl, rfl⟩
                  go_wp2_with fail
                  go_ret
                  exact ⟨by rw [he3.out]; rfl, hK.out⟩
        | true =>
          cases d2 with
          | false =>
            as_aux_lemma =>
            go_wp2_with fail
            with_reducible refine (f2.out _).mono ?_
            rintro e w' ⟨rfl, rfl⟩
            go_wp2_with fail
            go_ret
            exact ⟨by rw [he3.out]; rfl, hK.out⟩
          | true =>
            cases e3 with
            | false =>
              cases e4 with
              | false =>
                as_aux_lemma =>
                go_wp2_with fail
                with_reducible refine (f2.out _).mono ?_
                rintro e w' ⟨rfl, rfl⟩
                go_wp2_with fail
                go_ret
                exact ⟨by rw [he3.out]; rfl, hK.out⟩
              | true =>
                cases d4 with
                | false =>
                  as_aux_lemma =>
                  go_wp2_with fail
                  with_reducible refine (f2.out _).mono ?_
                  rintro e w' ⟨rfl, rfl⟩
                  go_wp2_with fail
                  with_reducible refine (f4.out _).mono ?_
                  rintro e w' ⟨rfl, rfl⟩
                  go_wp2_with fail
                  go_ret
                  exact ⟨by rw [he3.out]; rfl, hK.out⟩
                | true =>
                  as_aux_lemma =>
                  go_wp2_with fail
                  with_reducible refine (f2.out _).mono ?_
                  rintro e w' ⟨rfl, rfl⟩
                  go_wp2_with fail
                  with_reducible refine (f4.out _).mono ?_
                  rintro e w' ⟨rfl, rfl⟩
                  go_wp2_with fail
                  go_ret
                  exact ⟨by rw [he3.out]; rfl, hK.out⟩
            | true =>
              cases d3 with
              | false =>
                as_aux_lemma =>
                go_wp2_with fail
                with_reducible refine (f2.out _).mono ?_
                rintro e w' ⟨rfl, rfl⟩
                go_wp2_with fail
                with_reducible refine (f3.out _).mono ?_
                rintro e w' ⟨rfl, rfl⟩
                go_wp2_with fail
                go_ret
                exact ⟨by rw [he3.out]; rfl, hK.out⟩
              | true =>
                cases e4 with
                | false =>
                  as_aux_lemma =>
                  go_wp2_with fail
                  with_reducible refine (f2.out _).mono ?_
                  rintro e w' ⟨rfl, rfl⟩
                  go_wp2_with fail
                  with_reducible refine (f3.out _).mono ?_
                  rintro e w' ⟨rfl, rfl⟩
                  go_wp2_with fail
                  go_ret
                  exact ⟨by rw [he3.out]; rfl, hK.out⟩
                | true =>
                  cases d4 with
                  | false =>
                    as_aux_lemma =>
                    go_wp2_with fail
                    with_reducible refine (f2.out _).mono ?_
                    rintro e w' ⟨rfl, rfl⟩
                    go_wp2_with fail
                    with_reducible refine (f3.out _).mono ?_
                    rintro e w' ⟨rfl, rfl⟩
                    go_wp2_with fail
                    with_reducible refine (f4.out _).mono ?_
                    rintro e w' ⟨rfl, rfl⟩
                    go_wp2_with fail
                    go_ret
                    exact ⟨by rw [he3.out]; rfl, hK.out⟩
                  | true =>
                    as_aux_lemma =>
                    go_wp2_with fail
                    with_reducible refine (f2.out _).mono ?_
                    rintro e w' ⟨rfl, rfl⟩
                    go_wp2_with fail
                    with_reducible refine (f3.out _).mono ?_
                    rintro e w' ⟨rfl, rfl⟩
                    go_wp2_with fail
                    with_reducible refine (f4.out _).mono ?_
                    rintro e w' ⟨rfl, rfl⟩
                    go_wp2_with fail
                    go_ret
                    exact ⟨by rw [he3.out]; rfl, hK.out⟩
      | true =>
        cases d1 with
        | false =>
          as_aux_lemma =>
          go_wp2_with fail
          with_reducible refine (f1.out _).mono ?_
          rintro e w' ⟨rfl, rfl⟩
          go_wp2_with fail
          go_ret
          exact ⟨by rw [he3.out]; rfl, hK.out⟩
        | true =>
          cases e2 with
          | false =>
            cases e3 with
            | false =>
              cases e4 with
              | false =>
                as_aux_lemma =>
                go_wp2_with fail
                with_reducible refine (f1.out _).mono ?_
                rintro e w' ⟨rfl, rfl⟩
                go_wp2_with fail
                go_ret
                exact ⟨by rw [he3.out]; rfl, hK.out⟩
              | true =>
                cases d4 with
                | false =>
                  as_aux_lemma =>
                  go_wp2_with fail
                  with_reducible refine (f1.out _).mono ?_
                  rintro e w' ⟨rfl, rfl⟩
                  go_wp2_with fail
                  with_reducible refine (f4.out _).mono ?_
                  rintro e w' ⟨rfl, rfl⟩
                  go_wp2_with fail
                  go_ret
                  exact ⟨by rw [he3.out]; rfl, hK.out⟩
                | true =>
                  as_aux_lemma =>
                  go_wp2_with fail
                  with_reducible refine (f1.out _).mono ?_
                  rintro e w' ⟨rfl, rfl⟩
                  go_wp2_with fail
                  with_reducible refine (f4.out _).mono ?_
                  rintro e w' ⟨rfl, rfl⟩
                  go_wp2_with fail
                  go_ret
                  exact ⟨by rw [he3.out]; rfl, hK.out⟩
            | true =>
              cases d3 with
              | false =>
                as_aux_lemma =>
                go_wp2_with fail
                with_reducible refine (f1.out _).mono ?_
                rintro e w' ⟨rfl, rfl⟩
                go_wp2_with fail
                with_reducible refine (f3.out _).mono ?_
                rintro e w' ⟨rfl, rfl⟩
                go_wp2_with fail
                go_ret
                exact ⟨by rw [he3.out]; rfl, hK.out⟩
              | true =>
                cases e4 with
                | false =>
                  as_aux_lemma =>
                  go_wp2_with fail
                  with_reducible refine (f1.out _).mono ?_
                  rintro e w' ⟨rfl, rfl⟩
                  go_wp2_with fail
                  with_reducible refine (f3.out _).mono ?_
                  rintro e w' ⟨rfl, rfl⟩
                  go_wp2_with fail
                  go_ret
                  exact ⟨by rw [he3.out]; rfl, hK.out⟩
                | true =>
                  cases d4 with
                  | false =>
                    as_aux_lemma =>
                    go_wp2_with fail
                    with_reducible refine (f1.out _).mono ?_
                    rintro e w' ⟨rfl, rfl⟩
                    go_wp2_with fail
                    with_reducible refine (f3.out _).mono ?_
                    rintro e w' ⟨rfl, rfl⟩
                    go_wp2_with fail
                    with_reducible refine (f4.out _).mono ?_
                    rintro e w' ⟨rfl, rfl⟩
                    go_wp2_with fail
                    go_ret
                    exact ⟨by rw [he3.out]; rfl, hK.out⟩
                  | true =>
                    as_aux_lemma =>
                    go_wp2_with fail
                    with_reducible refine (f1.out _).mono ?_
                    rintro e w' ⟨rfl, rfl⟩
                    go_wp2_with fail
                    with_reducible refine (f3.out _).mono ?_
                    rintro e w' ⟨rfl, rfl⟩
                    go_wp2_with fail
                    with_reducible refine (f4.out _).mono ?_
                    rintro e w' ⟨rfl, rfl⟩
                    go_wp2_with fail
                    go_ret
                    exact ⟨by rw [he3.out]; rfl, hK.out⟩
          | true =>
            cases d2 with
            | false =>
              as_aux_lemma =>
              go_wp2_with fail
              with_reducible refine (f1.out _).mono ?_
              rintro e w' ⟨rfl, rfl⟩
              go_wp2_with fail
              with_reducible refine (f2.out _).mono ?_
              rintro e w' ⟨rfl, rfl⟩
              go_wp2_with fail
              go_ret
              exact ⟨by rw [he3.out]; rfl, hK.out⟩
            | true =>
              cases e3 with
              | false =>
                cases e4 with
                | false =>
                  as_aux_lemma =>
                  go_wp2_with fail
                  with_reducible refine (f1.out _).mono ?_
                  rintro e w' ⟨rfl, rfl⟩
                  go_wp2_with fail
                  with_reducible refine (f2.out _).mono ?_
                  rintro e w' ⟨rfl, rfl⟩
                  go_wp2_with fail
                  go_ret
                  exact ⟨by rw [he3.out]; rfl, hK.out⟩
                | true =>
                  cases d4 with
                  | false =>
                    as_aux_lemma =>
                    go_wp2_with fail
                    with_reducible refine (f1.out _).mono ?_
                    rintro e w' ⟨rfl, rfl⟩
                    go_wp2_with fail
                    with_reducible refine (f2.out _).mono ?_
                    rintro e w' ⟨rfl, rfl⟩
                    go_wp2_with fail
                    with_reducible refine (f4.out _).mono ?_
                    rintro e w' ⟨rfl, rfl⟩
                    go_wp2_with fail
                    go_ret
                    exact ⟨by rw [he3.out]; rfl, hK.out⟩
                  | true =>
                    as_aux_lemma =>
                    go_wp2_with fail
                    with_reducible refine (f1.out _).mono ?_
                    rintro e w' ⟨rfl, rfl⟩
                    go_wp2_with fail
                    with_reducible refine (f2.out _).mono ?_
                    rintro e w' ⟨rfl, rfl⟩
                    go_wp2_with fail
                    with_reducible refine (f4.out _).mono ?_
                    rintro e w' ⟨rfl, rfl⟩
                    go_wp2_with fail
                    go_ret
                    exact ⟨by rw [he3.out]; rfl, hK.out⟩
              | true =>
                cases d3 with
                | false =>
                  as_aux_lemma =>
                  go_wp2_with fail
                  with_reducible refine (f1.out _).mono ?_
                  rintro e w' ⟨rfl, rfl⟩
                  go_wp2_with fail
                  with_reducible refine (f2.out _).mono ?_
                  rintro e w' ⟨rfl, rfl⟩
                  go_wp2_with fail
                  with_reducible refine (f3.out _).mono ?_
                  rintro e w' ⟨rfl, rfl⟩
                  go_wp2_with fail
                  go_ret
                  exact ⟨by rw [he3.out]; rfl, hK.out⟩
                | true =>
                  cases e4 with
                  | false =>
                    as_aux_lemma =>
                    go_wp2_with fail
                    with_reducible refine (f1.out _).mono ?_
                    rintro e w' ⟨rfl, rfl⟩
                    go_wp2_with fail
                    with_reducible refine (f2.out _).mono ?_
                    rintro e w' ⟨rfl, rfl⟩
                    go_wp2_with fail
                    with_reducible refine (f3.out _).mono ?_
                    rintro e w' ⟨rfl, rfl⟩
                    go_wp2_with fail
                    go_ret
                    exact ⟨by rw [he3.out]; rfl, hK.out⟩
                  | true =>
                    cases d4 with
                    | false =>
                      as_aux_lemma =>
                      go_wp2_with fail
                      with_reducible refine (f1.out _).mono ?_
                      rintro e w' ⟨rfl, rfl⟩
                      go_wp2_with fail
                      with_reducible refine (f2.out _).mono ?_
                      rintro e w' ⟨rfl, rfl⟩
                      go_wp2_with fail
                      with_reducible refine (f3.out _).mono ?_
                      rintro e w' ⟨rfl, rfl⟩
                      go_wp2_with fail
                      with_reducible refine (f4.out _).mono ?_
                      rintro e w' ⟨rfl, rfl⟩
                      go_wp2_with fail
                      go_ret
                      exact ⟨by rw [he3.out]; rfl, hK.out⟩
                    | true =>
                      as_aux_lemma =>
                      go_wp2_with fail
                      with_reducible refine (f1.out _).mono ?_
                      rintro e w' ⟨rfl, rfl⟩
                      go_wp2_with fail
                      with_reducible refine (f2.out _).mono ?_
                      rintro e w' ⟨rfl, rfl⟩
                      go_wp2_with fail
                      with_reducible refine (f3.out _).mono ?_
                      rintro e w' ⟨rfl, rfl⟩
                      go_wp2_with fail
                      with_reducible refine (f4.out _).mono ?_
                      rintro e w' ⟨rfl, rfl⟩
                      go_wp2_with fail
                      go_ret
                      exact ⟨by rw [he3.out]; rfl, hK.out⟩
end Go.Proofs.YtmmglikbajiepaaDoor
