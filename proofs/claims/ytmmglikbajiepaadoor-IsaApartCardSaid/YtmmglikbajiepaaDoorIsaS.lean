/- Two structs compared. -/
import Derived.Test.YtmmglikbajiepaaDoorIsaG
import Derived.Test.YtmmglikbajiepaaDoorQuietRow
import Derived.Laws.StructEq
namespace Go.Proofs.YtmmglikbajiepaaDoor
open Go.RowKit
theorem eqF_cons {P : Program} {d : Nat} {xs ys : Array Value} {f : Field} {fs : List Field} {a b : Value} {e : Bool} (w : World) (hn : f.name ≠ "_") (ha : (part f.type xs f.offset).run P w = .ok a w) (hb : (part f.type ys f.offset).run P w = .ok b w) (he : (Op.equalIn d f.type a b).run P w = .ok e w) :
    (Op.eqFields d xs ys (f :: fs)).run P w = if e then (Op.eqFields d xs ys fs).run P w else .ok false w := by
  simp only [Op.eqFields, if_pos hn, Sem.run_bind, ha, hb, he, Result.andThen_ok, Sem.run_ite]
  cases e <;> rfl
theorem fieldsUses : (Tryd.prog.fieldsOf 58).toList.map (fun f => (f.name, f.type, f.offset)) = [("dst", 4, 0), ("src", 4, 1), ("off", 4, 2), ("imm", 4, 3)] := by kernel_rfl
theorem four_of {α β : Type} {g : α → β} {l : List α} {a b c d : β} (h : l.map g = [a, b, c, d]) : ∃ x y z u, l = [x, y, z, u] ∧ g x = a ∧ g y = b ∧ g z = c ∧ g u = d := by
  match l, h with
  | [x, y, z, u], h => simp only [List.map_cons, List.map_nil, List.cons.injEq, and_true] at h; exact ⟨x, y, z, u, rfl, h.1, h.2.1, h.2.2.1, h.2.2.2⟩
  | [], h => cases h
  | [_], h => cases h
  | [_, _], h => cases h
  | [_, _, _], h => cases h
  | _ :: _ :: _ :: _ :: _ :: _, h => cases h
theorem neqUses (a b c d a' b' c' d' : Bool) (w : World) : (binOp .neq 58 (.agg #[.bool a, .bool b, .bool c, .bool d]) (.agg #[.bool a', .bool b', .bool c', .bool d'])).run Tryd.prog w = .ok (.bool (!decide ((a, b, c, d) = (a', b', c', d')))) w := by
  rw [run_neq_struct, run_equalIn_struct w 9999 _ _ _ (by kernel_rfl) (by kernel_rfl)]
  obtain ⟨f1, f2, f3, f4, hl, h1, h2, h3, h4⟩ := four_of fieldsUses
  rw [hl]
  simp only [Prod.mk.injEq] at h1 h2 h3 h4
  obtain ⟨n1, t1, o1⟩ := h1
  obtain ⟨n2, t2, o2⟩ := h2
  obtain ⟨n3, t3, o3⟩ := h3
  obtain ⟨n4, t4, o4⟩ := h4
  have hu : Tryd.prog.underlying 4 = some .bool := Tryd.underlying4
  rw [eqF_cons (a := .bool a) (b := .bool a') (e := a == a') w (by rw [n1]; decide) (by rw [t1, o1]; kernel_rfl) (by rw [t1, o1]; kernel_rfl) (by rw [t1]; exact run_equalIn_bool' w 9998 _ _ _ hu)]
  rw [eqF_cons (a := .bool b) (b := .bool b') (e := b == b') w (by rw [n2]; decide) (by rw [t2, o2]; kernel_rfl) (by rw [t2, o2]; kernel_rfl) (by rw [t2]; exact run_equalIn_bool' w 9998 _ _ _ hu)]
  rw [eqF_cons (a := .bool c) (b := .bool c') (e := c == c') w (by rw [n3]; decide) (by rw [t3, o3]; kernel_rfl) (by rw [t3, o3]; kernel_rfl) (by rw [t3]; exact run_equalIn_bool' w 9998 _ _ _ hu)]
  rw [eqF_cons (a := .bool d) (b := .bool d') (e := d == d') w (by rw [n4]; decide) (by rw [t4, o4]; kernel_rfl) (by rw [t4, o4]; kernel_rfl) (by rw [t4]; exact run_equalIn_bool' w 9998 _ _ _ hu)]
  simp only [Op.eqFields, Sem.run_pure]
  cases a <;> cases b <;> cases c <;> cases d <;> cases a' <;> cases b' <;> cases c' <;> cases d' <;> rfl
/-- Two structs compared in a region that draws its order. -/
theorem quietBin {P : Program} {ops : Array Oper} {C : World → Prop} {Q : Act → Prop} {a : Act} {o : Oper} {rest : List Oper} {op : BinOp} {t t' : TypeId} {x y : Operand} {xs ys : Array Value} {v : Value} (hw : Region.wanted o (yielded ops a.tmps) = true) (ho : o.op = .binOp op t x y t')
    (hx : a.eval x = .agg xs) (hy : a.eval y = .agg ys) (hm : P.eqGuardType P.depth t = false) (hv : ∀ w, (binOp op t (.agg xs) (.agg ys)).run P w = .ok v w)
    (h : wpQuiet P ops C Q rest (a.put o.dst v)) : wpQuiet P ops C Q (o :: rest) a := by
  unfold wpQuiet
  rw [if_pos hw]
  refine ⟨v, fun w hC => ?_, h⟩
  unfold Oper.quietAt execOp
  simp only [ho, hx, hy, Sem.run_bind, Sem.run_pure, Result.andThen_ok, run_eqGuard_agg w op t x y xs ys hm, hv]
  exact ⟨rfl, rfl⟩
end Go.Proofs.YtmmglikbajiepaaDoor
