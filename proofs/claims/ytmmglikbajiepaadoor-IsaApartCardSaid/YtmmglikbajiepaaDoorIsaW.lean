/- What isa.Text puts. -/
import Derived.Test.YtmmglikbajiepaaDoorIsaV
namespace Go.Proofs.YtmmglikbajiepaaDoor
open Go.RowKit Go.Lib

theorem blk_ne {W : World} {a b : Nat} {t t' : TypeId} {cs cs' : List Value} (h : Blk W a t cs) (h' : Blk W b t' cs') (hne : t ≠ t') : a ≠ b := by
  rintro rfl
  have := h.symm.trans h'
  simp only [Option.some.injEq, Obj.cells.injEq] at this
  exact hne this.2.1
theorem own_chg {S : Nat → Prop} {W W' : World} {base sz n : Nat} {e : TypeId} {v : Value} {xs : List Value} (h : W.ownsRow base e sz v n xs) (hc : Chg S W W') (hne : ∀ g, v.ownBlock = some g → ¬ S g) : W'.ownsRow base e sz v n xs := by
  obtain ⟨hl, hr⟩ := h
  refine ⟨hl, hr.imp id ?_⟩
  rintro ⟨g, cap, cur, rfl, h3, h4, h5⟩
  exact ⟨g, cap, cur, rfl, h3, (hc.block g (Array.getElem?_eq_some_iff.1 h4).1 (hne g rfl)).trans h4, h5⟩
/-- A call at a step of a region that draws its order. -/
theorem callStep {P : Program} {ops : Array Oper} {o : Oper} {a : Act} {w0 : World} {K : Act → World → Prop} {Q : Exit → Act → World → Prop} {E : Prop} {f : FuncId} {args : Array Value} {v : Value} {R : World → Prop} (hgd : o.guard = none)
    (ho : ∀ w, (execOp a.eval o).run P w = .ok (.enter f args) w) (hc : Calls P f args w0 fun e w' => e = .returned v ∧ R w') (h : ∀ w', R w' → K (a.put o.dst v) w') : if Region.wanted o (yielded ops a.tmps) = true then Oper.wp P o a w0 K Q else E := by
  rw [if_pos (by simp [Region.wanted, hgd])]
  unfold Oper.wp
  rw [ho, Oper.upon_enter]
  refine hc.mono ?_
  rintro e w' ⟨rfl, hr⟩
  exact h w' hr
theorem infoStr : (Tryd.prog.info? 9).map (fun i => (i.zero, i.size, i.bytes)) = some (some (.string ⟨#[]⟩), 1, 16) := by kernel_rfl
/-- Where Text is: the instruction, what it uses, the parts. -/
structure TxS (n0 : Nat) (W : World) (B C P : Nat) (i : InsS) (u : Bool × Bool × Bool × Bool) (v : Value) (xs : List (List UInt8)) : Prop where
  ins : Blk W B 34 (insC i)
  us : Blk W C 58 (usesC u)
  cell : Blk W P 53 [v]
  row : W.ownsRow n0 9 1 v xs.length (xs.map fun l => .string (str l))
  np : n0 ≤ P
theorem TxS.keeps {n0 : Nat} {W W' : World} {B C P : Nat} {i : InsS} {u : Bool × Bool × Bool × Bool} {v : Value} {xs : List (List UInt8)} (h : TxS n0 W B C P i u v xs) (hk : Keeps W W') : TxS n0 W' B C P i u v xs :=
  ⟨h.ins.keeps hk, h.us.keeps hk, h.cell.keeps hk, own_keeps h.row hk, h.np⟩
/-- A part is put. -/
theorem TxS.put {n0 : Nat} {W W1 : World} {B C P : Nat} {i : InsS} {u : Bool × Bool × Bool × Bool} {v v' : Value} {xs : List (List UInt8)} {l : List UInt8} (h : TxS n0 W B C P i u v xs) (hr : W1.ownsRow n0 9 1 v' (xs.length + 1) ((xs.map fun l => .string (str l)) ++ [.string (str l)])) (hg : W.grownBy W1 v.ownBlock) :
    TxS n0 (W1.setCell ⟨P, 0, none⟩ v') B C P i u v' (xs ++ [l]) := by
  have h1 := h.ins.kept hg (own_ne h.row h.ins (by decide))
  have h2 := h.us.kept hg (own_ne h.row h.us (by decide))
  have h3 := h.cell.kept hg (own_ne h.row h.cell (by decide))
  refine ⟨h1.other (blk_ne h1 h3 (by decide)) _ _, h2.other (blk_ne h2 h3 (by decide)) _ _, h3.set 0 _, ?_, h.np⟩
  rw [List.length_append, List.map_append]
  refine own_chg hr (Chg.setCell (S := (· = P)) 0 v' rfl) (fun g hg' e => ?_)
  subst e
  exact own_ne hr h3 (by decide) hg'.symm
set_option maxRecDepth 100000 in
set_option maxHeartbeats 2000000 in
theorem put_any {n0 : Nat} {W : World} {B C P : Nat} {i : InsS} {u : Bool × Bool × Bool × Bool} {v : Value} {xs : List (List UInt8)} (h : TxS n0 W B C P i u v xs) (hn : n0 ≤ W.heap.size) (hT : Tabs W) (hx : xs.length ≤ 10) (b : Bool) (m : List UInt8) (hm : m.length ≤ 1) (n : Int) (l0 : -4294967296 ≤ n) (l1 : n ≤ 4294967296) :
    Calls Tryd.prog 30 #[.bool b, .string (str m), .int .i64 n, .pointer (some ⟨P, 0, none⟩)] W fun e w' => e = .returned (.tuple #[]) ∧ ∃ v', TxS n0 w' B C P i u v' (xs ++ if b then [m ++ itoa n] else []) ∧ Below n0 W w' := by
  cases b with
  | false =>
    simp only [Bool.false_eq_true, if_false, List.append_nil]
    replace h := Lib.hid h
    go_enter Tryd.func30, Tryd.ntmps30
    go_wp2_with fail
    go_end0
    exact ⟨rfl, v, h.out, Below.refl _ _⟩
  | true =>
    simp only [if_true]
    have fi : ∀ W', Keeps W W' → Calls Tryd.prog 31 #[.int .i64 n] W' fun e w' => e = .returned (.string (str (itoa n))) ∧ Keeps W' w' := fun W' hk => itoa_any n (by omega) (by omega) _ (hT.keeps hk)
    have hz : (str (itoa n)).size ≤ 21 := by rw [str_size]; exact itoa_length_le n (by omega) (by omega)
    have hz2 : (str m).size ≤ 1 := by rw [str_size]; exact hm
    have hl : str m ++ str (itoa n) = str (m ++ itoa n) := str_app _ _
    generalize str (itoa n) = sn at *
    obtain ⟨sm, hsm⟩ : ∃ s, s = str m := ⟨_, rfl⟩
    rw [← hsm] at hl hz2 ⊢
    have x0 := h.cell.cell 0 (by simp)
    simp only [List.getElem_cons_zero] at x0
    have hz1 : xs.length + 1 ≤ maxLen := by unfold maxLen; omega
    have hz3 : (xs.length + 1) * 16 ≤ 140737488355328 := by omega
    have hy1 : ∀ y ∈ [Value.string (sm ++ sn)], y.oneCell' = true := by intro y hy; rw [List.mem_singleton.1 hy]; rfl
    have hn2 : n0 ≤ W.drew.heap.size := hn
    have hss : ¬ 9223372036854775807 < sm.size + sn.size := by omega
    have hnp := Lib.hid h.np
    replace hz1 := Lib.hid hz1
    replace hz3 := Lib.hid hz3
    replace hy1 := Lib.hid hy1
    replace hl := Lib.hid hl
    replace fi := Lib.hid fi
    replace h := Lib.hid h
    replace hsm := Lib.hid hsm
    replace hT := Lib.hid hT
    go_enter Tryd.func30, Tryd.ntmps30
    go_upto_region 1 with (fail)
    go_region_law (first
      | (refine callStep (f := 31) (args := #[.int .i64 n]) (by rfl) (fun w => by go_simp) (fi.out _ (Keeps.drew _)) ?_; (intro w3 hK3; have h3 := (h.out.keeps (Keeps.drew _)).keeps hK3; have h3a := h3.keeps (Keeps.alloc w3 (.cells #[.string (sm ++ sn)] 9)); have c3 := h3.cell.cell 0 (by simp); have c3a := h3a.cell.cell 0 (by simp); simp only [List.getElem_cons_zero] at c3 c3a; have hsrc := (Blk.new w3 9 [.string (sm ++ sn)]).slc 1 1 (by simp) (by simp) (by unfold maxLen; omega); have hb3 := Below.trans (Below.mono (Keeps.drew W) hn) (Below.mono (hK3.trans (Keeps.alloc w3 (.cells #[.string (sm ++ sn)] 9))) hn2); have hbs := Nat.le_trans hn hb3.size; replace h3 := Lib.hid h3; replace h3a := Lib.hid h3a; replace hsrc := Lib.hid hsrc; replace hbs := Lib.hid hbs; replace hb3 := Lib.hid hb3; replace hK3 := Lib.hid hK3))
      | (refine appStep (by rfl) _ _ 53 9 (.string ⟨#[]⟩) 16 (by rfl) Tryd.underlying53 infoStr rfl n0 _ xs.length _ (by rfl) h3a.out.row (some ⟨w3.heap.size, 0, none⟩) 1 1 [.string (sm ++ sn)] (by rfl) (by simp) hsrc.out hy1.out hz1.out hz3.out hbs.out ?_; intro v' w4 hr4 hg4 hb4; obtain ⟨g4, cap4, rfl⟩ := ownsRow_succ hr4; have hput := h3a.out.put (l := m ++ itoa n) (by rw [← hl.out]; exact hr4) hg4; have hc4 := h3a.out.cell.kept hg4 (own_ne h3a.out.row h3a.out.cell (by decide)); have f4 := hc4.frozen 0; have c4 := hc4.cell 0 (by simp); simp only [List.getElem_cons_zero] at c4; have hb5 := Below.trans hb3.out hb4; replace hput := Lib.hid hput; replace hb5 := Lib.hid hb5; clear hr4 hg4 hb4 hc4))
    all_goals go_wp2_with fail
    all_goals go_end0
    all_goals exact ⟨rfl, _, hput.out, Below.trans hb5.out ((Chg.setCell (S := (· = P)) 0 _ rfl).below (Nat.le_trans hn hb5.out.size) (fun k hk e => by have := hnp.out; omega))⟩
end Go.Proofs.YtmmglikbajiepaaDoor
