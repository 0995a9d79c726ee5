/- The walks of detentref10: Ended, Look. -/
import Derived.Test.YtpncnddlmlciaaaDoorRef10
namespace Go.Proofs.YtpncnddlmlciaaaDoor
open Go.RowKit Go.Shelf

def scCells (b p : Int) (v : Value) : List Value := [.int .i64 b, .int .i64 p, v]
/-- Has the section that a reader was in ended, since the stamp b? -/
def endB (S : SSt) (b : Int) (r : Int) : Bool := !(decide (0 < S.sinI r) && decide (S.sinI r ≤ b))
theorem sinI_nonneg (S : SSt) (r : Int) : 0 ≤ S.sinI r := by unfold SSt.sinI; split <;> omega
theorem sizeSc : (Tryd.prog.info? 50).map (·.size) = some 3 := by kernel_rfl
theorem scCells_one (b p : Int) (v : Value) (hv : v.oneCell' = true) : ∀ c ∈ scCells b p v, c.oneCell' = true := by
  intro c hc
  simp only [scCells, List.mem_cons, List.not_mem_nil, or_false] at hc
  rcases hc with rfl | rfl | rfl
  · rfl
  · rfl
  · exact hv
theorem loadS {ops : Array Oper} {rest : List Oper} {o : Oper} {a : Act} {w : World} {Q : Exit → Act → World → Prop} {g : Nat} {b p : Int} {v : Value} (hb : Blk w g 50 (scCells b p v)) (hgd : o.guard = none) (x : Operand) (ho : o.op = .load 50 x)
    (hx : a.eval x = .pointer (some ⟨g, 0, none⟩)) (h : wpList Tryd.prog ops Q rest (a.put o.dst (.agg (scCells b p v).toArray)) w) : wpList Tryd.prog ops Q (o :: rest) a w :=
  loadRow hb hgd _ x ho hx _ Tryd.underlying50 rfl 3 sizeSc rfl h
theorem storeS {ops : Array Oper} {rest : List Oper} {o : Oper} {a : Act} {w : World} {Q : Exit → Act → World → Prop} {g : Nat} {b p b' p' : Int} {v v' : Value} (hb : Blk w g 50 (scCells b' p' v')) (hv : v.oneCell' = true) (hgd : o.guard = none) (x y : Operand) (ho : o.op = .store 50 x y) (hd : o.dst = none)
    (hx : a.eval x = .pointer (some ⟨g, 0, none⟩)) (hy : a.eval y = .agg (scCells b p v).toArray) (h : wpList Tryd.prog ops Q rest a (w.setRow g (scCells b p v).toArray)) : wpList Tryd.prog ops Q (o :: rest) a w :=
  storeRow hb (scCells b p v) hgd _ x y ho hd hx hy 3 sizeSc rfl rfl (scCells_one b p v hv) h
theorem Bools.keeps {w w' : World} {v : Value} {m : Nat} (h : Bools w v m) (hk : Keeps w w') : Bools w' v m := Slc.below h hk
theorem Bools.one {w : World} {v : Value} {m : Nat} (h : Bools w v m) : v.oneCell' = true := by obtain ⟨_, _, rfl, _⟩ := h; rfl

set_option maxRecDepth 100000 in
set_option maxHeartbeats 1000000 in
theorem r10Ended_any (b p : Int) (v u : Value) (l : List (Int × Bool)) (r : Int) (w : World) (_hv : v.oneCell' = true) (hu : Deeds w u l) (hg : Good l) (hl : l.length ≤ 100000) :
    Calls Tryd.prog 40 #[.agg (scCells b p v).toArray, u, .int .i64 r] w fun e w' => e = .returned (.bool (endB (runD l) b r)) ∧ Keeps w w' := by
  have hst := fun (W : World) (hk : Keeps w W) => rStamps_any u l r W (hu.keeps hk) hg hl
  have h0 := sinI_nonneg (runD l) r
  unfold endB
  generalize (runD l).sinI r = s at *
  generalize (runD l).st = t at *
  obtain ⟨up, uc, rfl, _⟩ := hu.get
  replace hst := Lib.hid hst
  clear hu hg hl
  go_enter Tryd.func40, Tryd.ntmps40
  go_upto_region 1 with (fail)
  refine wp_gen (fun W => Blk W w.heap.size 50 (scCells b p v) ∧ Keeps w W) ⟨Blk.at rfl rfl, Keeps.alloc _ _⟩ ?_
  rintro W ⟨hB, hK⟩
  have hst2 := hst.out W hK
  replace hst2 := Lib.hid hst2
  replace hB := Lib.hid hB
  replace hK := Lib.hid hK
  clear hst
  go_wp2_with fail
  refine hst2.out.mono ?_
  rintro e W2 ⟨rfl, hK2⟩
  have c0 := (hB.out.keeps hK2).cell 0 (by simp [scCells])
  simp only [scCells, List.getElem_cons_zero] at c0
  replace hK := Lib.hid (Keeps.trans hK.out hK2)
  clear hB hK2 hst2
  have hc : s = 0 ∨ (0 < s ∧ b < s) ∨ (0 < s ∧ s ≤ b) := by omega
  rcases hc with rfl | ⟨h1, h2⟩ | ⟨h1, h2⟩
  · go_wp2_with fail
    go_ret
    exact ⟨rfl, hK.out⟩
  · have h3 : ¬ s ≤ b := by omega
    have h4 : ¬ s = 0 := by omega
    have h5 : (!(decide (0 < s) && decide (s ≤ b))) = true := by rw [decide_eq_false h3]; simp
    replace h5 := Lib.hid h5
    go_wp2_with fail
    go_ret
    exact ⟨by rw [h5.out]; rfl, hK.out⟩
  · have h3 : ¬ b < s := by omega
    have h4 : ¬ s = 0 := by omega
    have h6 : (s == 0 || decide (b < s)) = false := by simp [h3, h4]
    replace h6 := Lib.hid h6
    have h5 : (!(decide (0 < s) && decide (s ≤ b))) = false := by rw [decide_eq_true h1, decide_eq_true h2]; rfl
    replace h5 := Lib.hid h5
    go_wp2_with fail
    go_ret
    exact ⟨by rw [h5.out]; exact congrArg (fun x => Ending.returned (Value.bool x)) h6.out, hK.out⟩

theorem falseBits : ∀ m : Nat, ((bitsL m).map Value.bool).length = 64 := fun m => by simp [bitsL]
theorem bitsL_without (m k : Nat) : (bitsL m).set k false = bitsL (withoutN m [(k : Int)]) := by
  apply List.ext_getElem
  · simp [bitsL]
  · intro j h1 h2
    have hj : j < 64 := by simpa [bitsL] using h2
    rw [List.getElem_set]
    simp only [bitsL, List.getElem_map, List.getElem_range, testBit_withoutN j hj]
    by_cases e : k = j
    · subst e; simp
    · have : ¬ (j : Int) = (k : Int) := by omega
      rw [if_neg e]; simp [this]
set_option maxRecDepth 100000 in
set_option maxHeartbeats 1000000 in
/-- Look, where the scan stays. -/
theorem r10Look_no (b p : Int) (v u : Value) (m : Nat) (l : List (Int × Bool)) (r : Int) (w : World) (hv : Bools w v m) (hu : Deeds w u l) (hg : Good l) (hl : l.length ≤ 100000) (h : (hasN m r && endB (runD l) b r) = false) :
    Calls Tryd.prog 22 #[.agg (scCells b p v).toArray, u, .int .i64 r] w fun e w' => e = .returned (.tuple #[.agg (scCells b p v).toArray, .bool false]) ∧ Keeps w w' := by
  have hv1 := hv.one
  have hend := fun (W : World) (hk : Keeps w W) => r10Ended_any b p v u l r W hv1 (hu.keeps hk) hg hl
  obtain ⟨up, uc, rfl, _⟩ := hu.get
  obtain ⟨vb, off, cap, rfl, h64, hcm, hvlt, hcell⟩ := hv.open
  have hcase : r < 0 ∨ (¬ r < 0 ∧ 63 < r) ∨ (∃ k : Nat, r = k ∧ k < 64 ∧ (m.testBit k = false ∨ (m.testBit k = true ∧ endB (runD l) b r = false))) := by
    by_cases h1 : r < 0
    · exact .inl h1
    · by_cases h2 : 63 < r
      · exact .inr (.inl ⟨h1, h2⟩)
      · refine .inr (.inr ⟨r.toNat, by omega, by omega, ?_⟩)
        unfold hasN at h
        rw [decide_eq_true (show 0 ≤ r ∧ r < 64 by omega), Bool.true_and] at h
        cases hb : m.testBit r.toNat with
        | false => exact .inl rfl
        | true => rw [hb, Bool.true_and] at h; exact .inr ⟨rfl, h⟩
  replace hend := Lib.hid hend
  replace hcell := Lib.hid hcell
  clear hv hu hg hl h
  go_enter Tryd.func22, Tryd.ntmps22
  go_upto_region 1 with (fail)
  refine wp_gen (fun W => Blk W w.heap.size 50 (scCells b p (.slice (some ⟨vb, off, none⟩) 64 cap)) ∧ Blk W (w.heap.size + 1) 50 (scCells 0 0 (.slice none 0 0)) ∧ Keeps w W) ⟨(Blk.new _ _ _).alloc _, Blk.at (by simp) rfl, (Keeps.alloc _ _).trans (Keeps.alloc _ _)⟩ ?_
  rintro W ⟨hB, hB6, hK⟩
  have c0 := hB.cell 0 (by simp [scCells])
  have c1 := hB.cell 1 (by simp [scCells])
  have c2 := hB.cell 2 (by simp [scCells])
  simp only [scCells, List.getElem_cons_succ, List.getElem_cons_zero] at c0 c1 c2
  have hend2 := hend.out W hK
  have hcellW := fun k hk => (hK.cell (p := ⟨vb, off + k, none⟩) hvlt).trans (hcell.out k hk)
  have fin : ∀ W2, Keeps W W2 → Blk (W2.setRow (w.heap.size + 1) (scCells b p (.slice (some ⟨vb, off, none⟩) 64 cap)).toArray) (w.heap.size + 1) 50 (scCells b p (.slice (some ⟨vb, off, none⟩) 64 cap)) ∧ Keeps w (W2.setRow (w.heap.size + 1) (scCells b p (.slice (some ⟨vb, off, none⟩) 64 cap)).toArray) := fun W2 hk2 =>
    ⟨(hB6.keeps hk2).setRow _, Chg.keeps (S := fun k => k = w.heap.size + 1) (Chg.setRow _ rfl) (Keeps.trans hK hk2) (fun k hk => by omega)⟩
  replace fin := Lib.hid fin
  replace hB := Lib.hid hB
  replace hB6 := Lib.hid hB6
  replace hK := Lib.hid hK
  replace hcellW := Lib.hid hcellW
  replace hend2 := Lib.hid hend2
  clear hend hcell
  rcases hcase with h1 | ⟨h1, h2⟩ | ⟨k, rfl, hk, hb | ⟨hb, he⟩⟩
  · go_wp2_with (first | (refine loadS hB.out rfl _ rfl rfl ?_) | (refine storeS hB6.out rfl rfl _ _ rfl rfl rfl rfl ?_))
    refine bodyPost_ret (results_row_slot rfl _ (fin.out _ (Keeps.refl _)).1 rfl _ Tryd.underlying50 rfl 3 sizeSc rfl) rfl ⟨rfl, (fin.out _ (Keeps.refl _)).2⟩
  · go_wp2_with (first | (refine loadS hB.out rfl _ rfl rfl ?_) | (refine storeS hB6.out rfl rfl _ _ rfl rfl rfl rfl ?_))
    refine bodyPost_ret (results_row_slot rfl _ (fin.out _ (Keeps.refl _)).1 rfl _ Tryd.underlying50 rfl 3 sizeSc rfl) rfl ⟨rfl, (fin.out _ (Keeps.refl _)).2⟩
  · have ck := hcellW.out k hk
    rw [hb] at ck
    have h1 : ¬ (k : Int) < 0 := by omega
    have h2 : ¬ 63 < (k : Int) := by omega
    go_wp2_with (first | (refine loadS hB.out rfl _ rfl rfl ?_) | (refine storeS hB6.out rfl rfl _ _ rfl rfl rfl rfl ?_))
    refine bodyPost_ret (results_row_slot rfl _ (fin.out _ (Keeps.refl _)).1 rfl _ Tryd.underlying50 rfl 3 sizeSc rfl) rfl ⟨rfl, (fin.out _ (Keeps.refl _)).2⟩
  · have ck := hcellW.out k hk
    rw [hb] at ck
    have h1 : ¬ (k : Int) < 0 := by omega
    have h2 : ¬ 63 < (k : Int) := by omega
    have hend3 := hend2.out
    rw [he] at hend3
    replace hend3 := Lib.hid hend3
    clear hend2
    go_wp2_with fail
    refine hend3.out.mono ?_
    rintro e W2 ⟨rfl, hK2⟩
    have f2 := fin.out W2 hK2
    have hB2 := hB.out.keeps hK2
    have hB62 := hB6.out.keeps hK2
    replace f2 := Lib.hid f2
    replace hB2 := Lib.hid hB2
    replace hB62 := Lib.hid hB62
    clear hK2 hB hB6 fin
    go_wp2_with (first | (refine loadS hB2.out rfl _ rfl rfl ?_) | (refine storeS hB62.out rfl rfl _ _ rfl rfl rfl rfl ?_))
    refine bodyPost_ret (results_row_slot rfl _ f2.out.1 rfl _ Tryd.underlying50 rfl 3 sizeSc rfl) rfl ⟨rfl, f2.out.2⟩
end Go.Proofs.YtpncnddlmlciaaaDoor
