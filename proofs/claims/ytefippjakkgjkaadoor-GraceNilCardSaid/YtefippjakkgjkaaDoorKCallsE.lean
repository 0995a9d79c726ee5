/- The walks of package calls: front, Done. -/
import Derived.Test.YtefippjakkgjkaaDoorKCallsD
import Derived.Test.YtefippjakkgjkaaDoorIterT
namespace Go.Proofs.YtefippjakkgjkaaDoor.K
open Go.RowKit Go.Shelf
attribute [local go_sem] Oper.semAt_some

/-- Is it done? -/
def dnB (g : Int) (c : Cl) : Bool := decide (c.2 ≠ 0) && decide (c.2 ≤ g)
def dnL (g : Int) (xs : List Cl) : List Cl := xs.takeWhile (dnB g)
def lfL (g : Int) (xs : List Cl) : List Cl := xs.dropWhile (dnB g)
theorem dn_lf (g : Int) (xs : List Cl) : dnL g xs ++ lfL g xs = xs := List.takeWhile_append_dropWhile
theorem dn_drop (g : Int) (xs : List Cl) (k : Nat) (hk : k < (dnL g xs).length) : ∃ c, (dnL g xs)[k]? = some c ∧ xs.drop k = c :: xs.drop (k + 1) ∧ c.2 ≠ 0 ∧ c.2 ≤ g := by
  have h1 : xs[k]? = some ((dnL g xs)[k]) := by
    conv => lhs; rw [← dn_lf g xs]
    rw [List.getElem?_append_left hk, List.getElem?_eq_getElem hk]
  obtain ⟨hx, hx2⟩ := List.getElem?_eq_some_iff.1 h1
  refine ⟨(dnL g xs)[k], List.getElem?_eq_getElem hk, by rw [List.drop_eq_getElem_cons hx, hx2], ?_⟩
  have h2 : dnB g (dnL g xs)[k] = true := by
    have := List.all_takeWhile (p := dnB g) (l := xs)
    exact List.all_eq_true.1 this _ (List.getElem_mem hk)
  simpa [dnB] using h2
theorem dn_end (g : Int) (xs : List Cl) : xs.drop (dnL g xs).length = lfL g xs := by
  conv => lhs; arg 2; rw [← dn_lf g xs]
  rw [List.drop_left]
theorem lf_head (g : Int) (xs : List Cl) : lfL g xs = [] ∨ ∃ c t, lfL g xs = c :: t ∧ (c.2 = 0 ∨ (c.2 ≠ 0 ∧ g < c.2)) := by
  unfold lfL
  induction xs with
  | nil => exact .inl rfl
  | cons c t ih =>
    rw [List.dropWhile_cons]
    split
    · exact ih
    · rename_i h
      refine .inr ⟨c, t, rfl, ?_⟩
      simp only [dnB, Bool.and_eq_true, decide_eq_true_eq, not_and] at h
      by_cases h0 : c.2 = 0
      · exact .inl h0
      · exact .inr ⟨h0, by have := h h0; omega⟩
/-- How many a ring at p holds, read off the world. -/
def ringN (p : Nat) (w : World) : Nat := match w.cell? ⟨p, 2, none⟩ with | some (.int _ n) => n.toNat | _ => 0
theorem ringN_eq {w : World} {p b room hd : Nat} {xs : List Cl} (h : RingAt w p b room hd xs) : ringN p w = xs.length := by
  have := h.hdr.cell 2 (by simp)
  simp only [List.getElem_cons_zero, List.getElem_cons_succ] at this
  unfold ringN; rw [this]; simp
def FrK (B1 B2 p b k : Nat) : Prop := k = B1 ∨ k = B2 ∨ k = p ∨ k = b
set_option maxRecDepth 100000 in
set_option maxHeartbeats 2000000 in
/-- **front's function.** -/
theorem front1_in (l B1 B2 p b hd : Nat) (xs : List Cl) (g : Int) (J Jx : List Cl → World → Prop) (W : World)
    (hJT : ∀ pre A B, J pre A → Chg (fun k => k = p ∨ k = b) A B → J pre B)
    (hY : ∀ pre x W1, J pre W1 → pre.length < (dnL g xs).length → YieldAt Fence.wide 7 Tryd.prog l #[.agg #[.int .i64 x.1, .int .i64 x.2]] W1 fun e W' =>
      (e = .returned (.bool true) ∧ J (pre ++ [x]) W' ∧ KeepK (FrK B1 B2 p b) W1 W') ∨ (e = .returned (.bool false) ∧ Jx (pre ++ [x]) W'))
    (hB1 : Boxed W B1 110 (.pointer (some ⟨p, 0, none⟩))) (hB2 : Boxed W B2 3 (.int .i64 g)) (hn1 : B1 ≠ p ∧ B1 ≠ b) (hn2 : B2 ≠ p ∧ B2 ≠ b) (hR : RingAt W p b 64 hd xs) (h0 : J [] W) :
    CallsIn Fence.wide 8 Tryd.prog 91 #[.func (.yield l) #[] #[], .pointer (some ⟨B1, 0, none⟩), .pointer (some ⟨B2, 0, none⟩)] W fun e W' => (∃ v, e = .returned v) ∧
      ((J (dnL g xs) W' ∧ ∃ hd, RingAt W' p b 64 hd (lfL g xs)) ∨ (∃ pre, pre <+: dnL g xs ∧ Jx pre W')) := by
  replace hY := Lib.hid hY
  replace hJT := Lib.hid hJT
  refine callsIn_of_wp Tryd.func91 rfl trivial ?_ rfl
  simp only [Tryd.ntmps91, List.size_toArray, List.length_cons, List.length_nil, Nat.reduceAdd, Nat.reduceSub, Array.replicate_succ, Array.replicate_zero, List.push_toArray, List.append_toArray, List.nil_append, List.cons_append]
  gi_wp2_with fail
  gi_loopw [] (fun wr => ∃ k hd, k ≤ (dnL g xs).length ∧ J ((dnL g xs).take k) wr ∧ RingAt wr p b 64 hd (xs.drop k) ∧ Boxed wr B1 110 (.pointer (some ⟨p, 0, none⟩)) ∧ Boxed wr B2 3 (.int .i64 g)) (fun wr => ringN p wr)
  case atStart => exact ⟨0, hd, Nat.zero_le _, by rw [List.take_zero]; exact h0, by rw [List.drop_zero]; exact hR, hB1, hB2⟩
  case round =>
    clear hR hB1 hB2 h0
    obtain ⟨k, hd, hk, hJ, hR, hB1, hB2⟩ := hrel
    have hmeas := ringN_eq hR
    have c1 := hB1.cell
    have hkl : k < (dnL g xs).length ∨ k = (dnL g xs).length := by omega
    rcases hkl with hlt | rfl
    · obtain ⟨c, hc, hdr, hc0, hcg⟩ := dn_drop g xs k hlt
      rw [hdr] at hR
      have htk : (dnL g xs).take (k + 1) = (dnL g xs).take k ++ [c] := by
        obtain ⟨h1, h2⟩ := List.getElem?_eq_some_iff.1 hc
        rw [List.take_succ_eq_append_getElem h1, h2]
      have hpr : (dnL g xs).take (k + 1) <+: dnL g xs := List.take_prefix _ _
      rw [htk] at hpr
      have hat := at_yes 0 hR (x := c) rfl
      rw [show ((0 : Nat) : Int) = 0 from rfl] at hat
      have hpop := fun (W : World) (h : RingAt W p b 64 hd (c :: xs.drop (k + 1))) => pop_yes h
      have hy0 := fun (W : World) (h : Chg (fun k => k = p ∨ k = b) wr W) => hY.out ((dnL g xs).take k) c W (hJT.out _ _ _ hJ h) (by rw [List.length_take]; omega)
      have hlr := hR.lt
      have hlen : (xs.drop (k + 1)).length + 1 = ringN p wr := by rw [hmeas, hdr]; rfl
      obtain ⟨c1', c2'⟩ := c
      have e1 : (c2' == 0) = false := by simpa using hc0
      have e2 : decide (g < c2') = false := by simp only at hcg; simp; omega
      replace hc0 := Lib.hid hc0
      replace hcg := Lib.hid hcg
      replace hpr := Lib.hid hpr
      replace htk := Lib.hid htk
      replace hat := Lib.hid hat
      replace hpop := Lib.hid hpop
      replace hy0 := Lib.hid hy0
      replace hlen := Lib.hid hlen
      replace hR := Lib.hid hR
      replace hB1 := Lib.hid hB1
      replace hB2 := Lib.hid hB2
      clear hJ hmeas hdr hc
      gi_wp2_with fail
      refine ⟨trivial, (callsIn_wide.2 hat.out).mono ?_⟩
      rintro e W2 ⟨rfl, hK2⟩
      obtain ⟨B4, hB4⟩ : ∃ B4, B4 = W2.heap.size := ⟨_, rfl⟩
      have hR3 := (hR.out.keeps hK2).keeps (Keeps.alloc W2 (.cells #[.int .i64 c1', .int .i64 c2'] 114))
      have hpop3 := hpop.out _ hR3
      have g2 := (Blk.keeps (cs := [Value.int .i64 g]) hB2.out hK2).cell 0 (by simp)
      have g1 := (Blk.keeps (cs := [Value.pointer (some ⟨p, 0, none⟩)]) hB1.out hK2).cell 0 (by simp)
      simp only [List.getElem_cons_zero] at g1 g2
      have l1 := cell_lt g1
      have l2 := cell_lt g2
      simp only at l1 l2
      have hCq : Chg (fun k => k = p ∨ k = b) wr (W2.alloc (.cells #[.int .i64 c1', .int .i64 c2'] 114)) := Chg.of_keeps (Keeps.trans hK2 (Keeps.alloc _ _))
      have hx3 := Blk.new W2 114 [.int .i64 c1', .int .i64 c2']
      have hne4 : ¬ (W2.heap.size = p ∨ W2.heap.size = b) := by have := hK2.size; omega
      replace hpop3 := Lib.hid hpop3
      replace hCq := Lib.hid hCq
      replace hx3 := Lib.hid hx3
      replace hB4 := Lib.hid hB4
      clear hpop hat hR hR3 hK2 c1
      gi_wp2_with fail
      refine ⟨trivial, (callsIn_wide.2 hpop3.out).mono ?_⟩
      rintro e W4 ⟨rfl, hR4, hC4⟩
      have hx4 := hx3.out.chg hC4 hne4
      have x0 := hx4.cell 0 (by simp)
      have x1 := hx4.cell 1 (by simp)
      simp only [List.getElem_cons_zero, List.getElem_cons_succ] at x0 x1
      obtain ⟨fn, tmps, assign, body, hy, hRd⟩ := hy0.out W4 (hCq.out.trans hC4)
      have hB1' := boxed_chg hB1.out (hCq.out.trans hC4) (by omega)
      have hB2' := boxed_chg hB2.out (hCq.out.trans hC4) (by omega)
      replace hRd := Lib.hid hRd
      replace hR4 := Lib.hid hR4
      replace hB1' := Lib.hid hB1'
      replace hB2' := Lib.hid hB2'
      clear hx4 hx3 hC4 hCq hpop3 hy0 g1 g2 hB1 hB2
      gi_wp2_with fail
      refine hRd.out.mono ?_
      rintro e W5 (⟨rfl, hJ5, hk5⟩ | ⟨rfl, hJx5⟩)
      · have hR5 : RingAt W5 p b 64 ((hd + 1) % 64) (xs.drop (k + 1)) := by
          have h := hR4.out
          exact ⟨h.ne, hk5.blk h.hdr (.inr (.inr (.inl rfl))), by obtain ⟨els, h1, h2⟩ := h.buf; exact ⟨els, hk5.blk h1 (.inr (.inr (.inr rfl))), h2⟩, h.hdlt, h.len, h.lo, h.hi⟩
        have hB15 := hk5.boxed hB1'.out (.inl rfl)
        have hB25 := hk5.boxed hB2'.out (.inr (.inl rfl))
        have hm5 := ringN_eq hR5
        replace hR5 := Lib.hid hR5
        replace hB15 := Lib.hid hB15
        replace hB25 := Lib.hid hB25
        replace hm5 := Lib.hid hm5
        replace hJ5 := Lib.hid hJ5
        clear hR4 hB1' hB2' hRd hk5
        gi_wp2_with fail
        go_roundw
        case rel => exact ⟨k + 1, _, by omega, by rw [htk.out]; exact hJ5.out, hR5.out, hB15.out, hB25.out⟩
        case measure => (rw [hm5.out, ← hlen.out]; omega)
      · gi_wp2_with fail
        refine bodyPost_ret (results_none rfl _ _ _) rfl ?_
        exact ⟨⟨_, rfl⟩, .inr ⟨_, hpr.out, hJx5⟩⟩
    · rw [dn_end] at hR
      rw [List.take_of_length_le (Nat.le_refl _)] at hJ
      have hJr := fun (W : World) (h : Chg (fun k => k = p ∨ k = b) wr W) => hJT.out _ _ _ hJ h
      replace hJr := Lib.hid hJr
      have hRk := fun (W : World) (hk : Keeps wr W) => hR.keeps hk
      have cc := hB2.cell
      have lb1 := hB1.lt
      have lb2 := hB2.lt
      rcases lf_head g xs with he | ⟨c, t, he, hcc⟩
      · have hat := at_no (.pointer (some ⟨p, 0, none⟩)) 0 wr (.inr ⟨p, b, 64, hd, _, rfl, hR, .inr (by rw [he]; simp)⟩)
        replace hat := Lib.hid hat
        replace hRk := Lib.hid hRk
        replace he := Lib.hid he
        clear hR hB1 hB2 hmeas hJ
        gi_wp2_with fail
        refine ⟨trivial, (callsIn_wide.2 hat.out).mono ?_⟩
        rintro e W2 ⟨rfl, hK2⟩
        have hK3 := Lib.hid (Keeps.trans hK2 (Keeps.alloc W2 (.cells #[.int .i64 0, .int .i64 0] 114)))
        clear hK2
        gi_wp2_with fail
        refine bodyPost_ret (results_none rfl _ _ _) rfl ?_
        exact ⟨⟨_, rfl⟩, .inl ⟨hJr.out _ (Chg.of_keeps hK3.out), ⟨_, hRk.out _ hK3.out⟩⟩⟩
      · have hat := at_yes 0 hR (x := c) (by rw [he]; rfl)
        rw [show ((0 : Nat) : Int) = 0 from rfl] at hat
        obtain ⟨c1', c2'⟩ := c
        replace hat := Lib.hid hat
        replace hRk := Lib.hid hRk
        replace he := Lib.hid he
        simp only at hcc
        have hc2 : (c2' == 0) = true ∨ ((c2' == 0) = false ∧ decide (g < c2') = true) := by
          rcases hcc with h | ⟨h, h'⟩
          · exact .inl (by simpa using h)
          · exact .inr ⟨by simpa using h, by simpa using h'⟩
        clear hR hmeas hJ hcc
        have hg2 := fun (W : World) (hk : Keeps wr W) => (Blk.keeps (cs := [Value.int .i64 g]) hB2 hk).cell 0 (by simp)
        simp only [List.getElem_cons_zero] at hg2
        replace hg2 := Lib.hid hg2
        clear hB1 hB2
        rcases hc2 with h1 | ⟨h1, h2⟩
        all_goals
          gi_wp2_with fail
          refine ⟨trivial, (callsIn_wide.2 hat.out).mono ?_⟩
          rintro e W2 ⟨rfl, hK2⟩
          have g2 := hg2.out W2 hK2
          have l2 := cell_lt g2
          simp only at l2
          have hK3 := Lib.hid (Keeps.trans hK2 (Keeps.alloc W2 (.cells #[.int .i64 c1', .int .i64 c2'] 114)))
          clear hK2
          gi_wp2_with fail
          refine bodyPost_ret (results_none rfl _ _ _) rfl ?_
          exact ⟨⟨_, rfl⟩, .inl ⟨hJr.out _ (Chg.of_keeps hK3.out), ⟨_, hRk.out _ hK3.out⟩⟩⟩
end Go.Proofs.YtefippjakkgjkaaDoor.K
