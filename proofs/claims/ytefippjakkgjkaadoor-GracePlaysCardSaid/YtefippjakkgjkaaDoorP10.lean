/- Merged: qRef10F qRef10bF qRef10cF qRef10dF qRef10eF qRef10fF. -/
import Derived.Test.YtefippjakkgjkaaDoorScanC
import Derived.Test.YtefippjakkgjkaaDoorRef01F
import Derived.Test.YtefippjakkgjkaaDoorS10
import Derived.Deep.DeepCutAuto
import Derived.Deep.RegionHeld3
import Derived.Deep.RegionLaw
import Derived.Deep.AppendLies
/- The walks of detentref10: Word, Count. -/
namespace Go.Proofs.YtefippjakkgjkaaDoor
open Go.RowKit Go.Shelf

set_option maxRecDepth 100000 in
set_option maxHeartbeats 1000000 in
theorem r10Word_any (b p : Int) (v : Value) (m : Nat) (w : World) (hm : m < 18446744073709551616) (hv : Bools w v m) :
    Calls Tryd.prog 61 #[.agg #[.int .i64 b, .int .i64 p, v]] w fun e w' => e = .returned (.int .u64 m) ∧ Keeps w w' := by
  obtain ⟨vb, off, cap, rfl, h64, hc, hvlt, hcell⟩ := hv.open
  replace hcell := Lib.hid hcell
  clear hv
  go_enter Tryd.func61, Tryd.ntmps61
  go_upto_region 1 with (fail)
  refine wp_gen (fun W => Blk W w.heap.size 55 [.int .i64 b, .int .i64 p, .slice (some ⟨vb, off, none⟩) 64 cap] ∧ Keeps w W) ⟨Blk.at rfl rfl, Keeps.alloc _ _⟩ ?_
  rintro W ⟨hB, hK⟩
  have c2 := hB.cell 2 (by simp)
  simp only [List.getElem_cons_succ, List.getElem_cons_zero] at c2
  replace hK := Lib.hid hK
  clear hB
  go_wp2
  go_loop [3, 4] (fun x i => ∃ j : Nat, j ≤ 64 ∧ i = .int .i64 ((j : Int) - 1) ∧ x = .int .u64 (wordL ((bitsL m).drop j))) (fun _ i => (intOf i + 1).toNat)
  case atStart => exact ⟨64, by omega, rfl, by rw [List.drop_of_length_le (by rw [bitsL_len]; exact Nat.le_refl _)]; rfl⟩
  case round =>
    obtain ⟨j, hj, rfl, rfl⟩ := hrel
    cases j with
    | zero =>
      go_wp2
      go_ret
      exact ⟨ret_int (by rw [wordL_bitsL m hm]), hK.out⟩
    | succ j =>
      rw [show ((j + 1 : Nat) : Int) - 1 = (j : Int) by omega]
      have hs := drop_bits m j (by omega)
      have hl := drop_lt m (j + 1)
      have hl2 : wordL ((bitsL m).drop (j + 1)) < 9223372036854775808 := Nat.lt_of_lt_of_le hl (Nat.pow_le_pow_right (by omega) (by omega : 64 - (j + 1) ≤ 63))
      have hk := (hK.out.cell (p := ⟨vb, off + j, none⟩) hvlt).trans (hcell.out j (by omega))
      clear hcell hl
      generalize wordL ((bitsL m).drop (j + 1)) = x at *
      cases hb : m.testBit j with
      | true =>
        rw [hb] at hk hs
        replace hs := Lib.hid hs
        replace hb := Lib.hid hb
        go_wp2
        go_round
        case rel => exact ⟨j, by omega, rfl, by rw [hs.out]; go_num⟩
        case measure => (simp [intOf]; try omega)
      | false =>
        rw [hb] at hk hs
        replace hs := Lib.hid hs
        replace hb := Lib.hid hb
        go_wp2
        go_round
        case rel => exact ⟨j, by omega, rfl, by rw [hs.out]; go_num⟩
        case measure => (simp [intOf]; try omega)
def upC (m k : Nat) : Nat := ((List.range k).filter (m.testBit ·)).length
theorem upC_yes (m k : Nat) (h : m.testBit k = true) : upC m (k + 1) = upC m k + 1 := by simp [upC, List.range_succ, h]
theorem upC_no (m k : Nat) (h : m.testBit k = false) : upC m (k + 1) = upC m k := by simp [upC, List.range_succ, h]
theorem upC_le (m k : Nat) : upC m k ≤ k := by unfold upC; exact Nat.le_trans (List.length_filter_le _ _) (by simp)
set_option maxRecDepth 100000 in
set_option maxHeartbeats 1000000 in
theorem r10Count_any (b p : Int) (v : Value) (m : Nat) (w : World) (hv : Bools w v m) :
    Calls Tryd.prog 53 #[.agg #[.int .i64 b, .int .i64 p, v]] w fun e w' => e = .returned (.int .i64 (lenN m : Nat)) ∧ Keeps w w' := by
  obtain ⟨vb, off, cap, rfl, h64, hc, hvlt, hcell⟩ := hv.open
  replace hcell := Lib.hid hcell
  clear hv
  go_enter Tryd.func53, Tryd.ntmps53
  go_upto_region 1 with (fail)
  refine wp_gen (fun W => Blk W w.heap.size 55 [.int .i64 b, .int .i64 p, .slice (some ⟨vb, off, none⟩) 64 cap] ∧ Keeps w W) ⟨Blk.at rfl rfl, Keeps.alloc _ _⟩ ?_
  rintro W ⟨hB, hK⟩
  have c2 := hB.cell 2 (by simp)
  simp only [List.getElem_cons_succ, List.getElem_cons_zero] at c2
  replace hK := Lib.hid hK
  clear hB
  go_wp2
  go_loop [3, 4] (fun x i => ∃ k : Nat, k ≤ 64 ∧ i = .int .i64 k ∧ x = .int .i64 (upC m k : Nat)) (fun _ i => 64 - (intOf i).toNat)
  case atStart => exact ⟨0, by omega, rfl, rfl⟩
  case round =>
    obtain ⟨k, hk, rfl, rfl⟩ := hrel
    by_cases hlt : k < 64
    · have hk' := (hK.out.cell (p := ⟨vb, off + k, none⟩) hvlt).trans (hcell.out k hlt)
      have hy := upC_yes m k
      have hn := upC_no m k
      have hle := upC_le m k
      generalize upC m k = x at *
      clear hcell
      cases hb : m.testBit k with
      | true =>
        rw [hb] at hk'
        have hy' := hy hb
        replace hy' := Lib.hid hy'
        clear hy hn hb
        go_wp2
        go_round
        case rel => exact ⟨k + 1, by omega, by go_num, by rw [hy'.out]; go_num⟩
        case measure => (simp [intOf]; try omega)
      | false =>
        rw [hb] at hk'
        have hn' := hn hb
        replace hn' := Lib.hid hn'
        clear hy hn hb
        go_wp2
        go_round
        case rel => exact ⟨k + 1, by omega, by go_num, by rw [hn'.out]⟩
        case measure => (simp [intOf]; try omega)
    · obtain rfl : k = 64 := by omega
      have h64e : upC m 64 = lenN m := rfl
      go_wp2
      go_ret
      exact ⟨rfl, hK.out⟩
end Go.Proofs.YtefippjakkgjkaaDoor

/- The walks of detentref10: Ended, Look. -/
namespace Go.Proofs.YtefippjakkgjkaaDoor
open Go.RowKit Go.Shelf

def scCells (b p : Int) (v : Value) : List Value := [.int .i64 b, .int .i64 p, v]
/-- Has the section that a reader was in ended, since the stamp b? -/
def endB (S : SSt) (b : Int) (r : Int) : Bool := !(decide (0 < S.sinI r) && decide (S.sinI r ≤ b))
theorem sinI_nonneg (S : SSt) (r : Int) : 0 ≤ S.sinI r := by unfold SSt.sinI; split <;> omega
theorem sizeSc : (Tryd.prog.info? 55).map (·.size) = some 3 := by kernel_rfl
theorem scCells_one (b p : Int) (v : Value) (hv : v.oneCell' = true) : ∀ c ∈ scCells b p v, c.oneCell' = true := by
  intro c hc
  simp only [scCells, List.mem_cons, List.not_mem_nil, or_false] at hc
  rcases hc with rfl | rfl | rfl
  · rfl
  · rfl
  · exact hv
theorem loadS {ops : Array Oper} {rest : List Oper} {o : Oper} {a : Act} {w : World} {Q : Exit → Act → World → Prop} {g : Nat} {b p : Int} {v : Value} (hb : Blk w g 55 (scCells b p v)) (hgd : o.guard = none) (x : Operand) (ho : o.op = .load 55 x)
    (hx : a.eval x = .pointer (some ⟨g, 0, none⟩)) (h : wpList Tryd.prog ops Q rest (a.put o.dst (.agg (scCells b p v).toArray)) w) : wpList Tryd.prog ops Q (o :: rest) a w :=
  loadRow hb hgd _ x ho hx _ Tryd.underlying55 rfl 3 sizeSc rfl h
theorem storeS {ops : Array Oper} {rest : List Oper} {o : Oper} {a : Act} {w : World} {Q : Exit → Act → World → Prop} {g : Nat} {b p b' p' : Int} {v v' : Value} (hb : Blk w g 55 (scCells b' p' v')) (hv : v.oneCell' = true) (hgd : o.guard = none) (x y : Operand) (ho : o.op = .store 55 x y) (hd : o.dst = none)
    (hx : a.eval x = .pointer (some ⟨g, 0, none⟩)) (hy : a.eval y = .agg (scCells b p v).toArray) (h : wpList Tryd.prog ops Q rest a (w.setRow g (scCells b p v).toArray)) : wpList Tryd.prog ops Q (o :: rest) a w :=
  storeRow hb (scCells b p v) hgd _ x y ho hd hx hy 3 sizeSc rfl rfl (scCells_one b p v hv) h
theorem Bools.keeps {w w' : World} {v : Value} {m : Nat} (h : Bools w v m) (hk : Keeps w w') : Bools w' v m := Slc.below h hk
theorem Bools.one {w : World} {v : Value} {m : Nat} (h : Bools w v m) : v.oneCell' = true := by obtain ⟨_, _, rfl, _⟩ := h; rfl

set_option maxRecDepth 100000 in
set_option maxHeartbeats 1000000 in
theorem r10Ended_any (b p : Int) (v u : Value) (l : List (Int × Bool)) (r : Int) (w : World) (_hv : v.oneCell' = true) (hu : Deeds w u l) (hg : Good l) (hl : l.length ≤ 100000) :
    Calls Tryd.prog 86 #[.agg (scCells b p v).toArray, u, .int .i64 r] w fun e w' => e = .returned (.bool (endB (runD l) b r)) ∧ Keeps w w' := by
  have hst := fun (W : World) (hk : Keeps w W) => rStamps_any u l r W (hu.keeps hk) hg hl
  have h0 := sinI_nonneg (runD l) r
  unfold endB
  generalize (runD l).sinI r = s at *
  generalize (runD l).st = t at *
  obtain ⟨up, uc, rfl, _⟩ := hu.get
  replace hst := Lib.hid hst
  clear hu hg hl
  go_enter Tryd.func86, Tryd.ntmps86
  go_upto_region 1 with (fail)
  refine wp_gen (fun W => Blk W w.heap.size 55 (scCells b p v) ∧ Keeps w W) ⟨Blk.at rfl rfl, Keeps.alloc _ _⟩ ?_
  rintro W ⟨hB, hK⟩
  have hst2 := hst.out W hK
  replace hst2 := Lib.hid hst2
  replace hB := Lib.hid hB
  replace hK := Lib.hid hK
  clear hst
  go_wp2_with fail
  refine hst2.out.mono ?_
  rintro e W2 ⟨rfl, hK2⟩
  have c0 := (hB.out.keeps hK2).cell 0 (by simp [scCells])
  simp only [scCells, List.getElem_cons_zero] at c0
  replace hK := Lib.hid (Keeps.trans hK.out hK2)
  clear hB hK2 hst2
  have hc : s = 0 ∨ (0 < s ∧ b < s) ∨ (0 < s ∧ s ≤ b) := by omega
  rcases hc with rfl | ⟨h1, h2⟩ | ⟨h1, h2⟩
  · go_wp2_with fail
    go_ret
    exact ⟨rfl, hK.out⟩
  · have h3 : ¬ s ≤ b := by omega
    have h4 : ¬ s = 0 := by omega
    have h5 : (!(decide (0 < s) && decide (s ≤ b))) = true := by rw [decide_eq_false h3]; simp
    replace h5 := Lib.hid h5
    go_wp2_with fail
    go_ret
    exact ⟨by rw [h5.out]; rfl, hK.out⟩
  · have h3 : ¬ b < s := by omega
    have h4 : ¬ s = 0 := by omega
    have h6 : (s == 0 || decide (b < s)) = false := by simp [h3, h4]
    replace h6 := Lib.hid h6
    have h5 : (!(decide (0 < s) && decide (s ≤ b))) = false := by rw [decide_eq_true h1, decide_eq_true h2]; rfl
    replace h5 := Lib.hid h5
    go_wp2_with fail
    go_ret
    exact ⟨by rw [h5.out]; exact congrArg (fun x => Ending.returned (Value.bool x)) h6.out, hK.out⟩

theorem falseBits : ∀ m : Nat, ((bitsL m).map Value.bool).length = 64 := fun m => by simp [bitsL]
theorem bitsL_without (m k : Nat) : (bitsL m).set k false = bitsL (withoutN m [(k : Int)]) := by
  apply List.ext_getElem
  · simp [bitsL]
  · intro j h1 h2
    have hj : j < 64 := by simpa [bitsL] using h2
    rw [List.getElem_set]
    simp only [bitsL, List.getElem_map, List.getElem_range, testBit_withoutN j hj]
    by_cases e : k = j
    · subst e; simp
    · have : ¬ (j : Int) = (k : Int) := by omega
      rw [if_neg e]; simp [this]
set_option maxRecDepth 100000 in
set_option maxHeartbeats 1000000 in
/-- Look, where the scan stays. -/
theorem r10Look_no (b p : Int) (v u : Value) (m : Nat) (l : List (Int × Bool)) (r : Int) (w : World) (hv : Bools w v m) (hu : Deeds w u l) (hg : Good l) (hl : l.length ≤ 100000) (h : (hasN m r && endB (runD l) b r) = false) :
    Calls Tryd.prog 73 #[.agg (scCells b p v).toArray, u, .int .i64 r] w fun e w' => e = .returned (.tuple #[.agg (scCells b p v).toArray, .bool false]) ∧ Keeps w w' := by
  have hv1 := hv.one
  have hend := fun (W : World) (hk : Keeps w W) => r10Ended_any b p v u l r W hv1 (hu.keeps hk) hg hl
  obtain ⟨up, uc, rfl, _⟩ := hu.get
  obtain ⟨vb, off, cap, rfl, h64, hcm, hvlt, hcell⟩ := hv.open
  have hcase : r < 0 ∨ (¬ r < 0 ∧ 63 < r) ∨ (∃ k : Nat, r = k ∧ k < 64 ∧ (m.testBit k = false ∨ (m.testBit k = true ∧ endB (runD l) b r = false))) := by
    by_cases h1 : r < 0
    · exact .inl h1
    · by_cases h2 : 63 < r
      · exact .inr (.inl ⟨h1, h2⟩)
      · refine .inr (.inr ⟨r.toNat, by omega, by omega, ?_⟩)
        unfold hasN at h
        rw [decide_eq_true (show 0 ≤ r ∧ r < 64 by omega), Bool.true_and] at h
        cases hb : m.testBit r.toNat with
        | false => exact .inl rfl
        | true => rw [hb, Bool.true_and] at h; exact .inr ⟨rfl, h⟩
  replace hend := Lib.hid hend
  replace hcell := Lib.hid hcell
  clear hv hu hg hl h
  go_enter Tryd.func73, Tryd.ntmps73
  go_upto_region 1 with (fail)
  refine wp_gen (fun W => Blk W w.heap.size 55 (scCells b p (.slice (some ⟨vb, off, none⟩) 64 cap)) ∧ Blk W (w.heap.size + 1) 55 (scCells 0 0 (.slice none 0 0)) ∧ Keeps w W) ⟨(Blk.new _ _ _).alloc _, Blk.at (by simp) rfl, (Keeps.alloc _ _).trans (Keeps.alloc _ _)⟩ ?_
  rintro W ⟨hB, hB6, hK⟩
  have c0 := hB.cell 0 (by simp [scCells])
  have c1 := hB.cell 1 (by simp [scCells])
  have c2 := hB.cell 2 (by simp [scCells])
  simp only [scCells, List.getElem_cons_succ, List.getElem_cons_zero] at c0 c1 c2
  have hend2 := hend.out W hK
  have hcellW := fun k hk => (hK.cell (p := ⟨vb, off + k, none⟩) hvlt).trans (hcell.out k hk)
  have fin : ∀ W2, Keeps W W2 → Blk (W2.setRow (w.heap.size + 1) (scCells b p (.slice (some ⟨vb, off, none⟩) 64 cap)).toArray) (w.heap.size + 1) 55 (scCells b p (.slice (some ⟨vb, off, none⟩) 64 cap)) ∧ Keeps w (W2.setRow (w.heap.size + 1) (scCells b p (.slice (some ⟨vb, off, none⟩) 64 cap)).toArray) := fun W2 hk2 =>
    ⟨(hB6.keeps hk2).setRow _, Chg.keeps (S := fun k => k = w.heap.size + 1) (Chg.setRow _ rfl) (Keeps.trans hK hk2) (fun k hk => by omega)⟩
  replace fin := Lib.hid fin
  replace hB := Lib.hid hB
  replace hB6 := Lib.hid hB6
  replace hK := Lib.hid hK
  replace hcellW := Lib.hid hcellW
  replace hend2 := Lib.hid hend2
  clear hend hcell
  rcases hcase with h1 | ⟨h1, h2⟩ | ⟨k, rfl, hk, hb | ⟨hb, he⟩⟩
  · go_wp2_with (first | (refine loadS hB.out rfl _ rfl rfl ?_) | (refine storeS hB6.out rfl rfl _ _ rfl rfl rfl rfl ?_))
    refine bodyPost_ret (results_row_slot rfl _ (fin.out _ (Keeps.refl _)).1 rfl _ Tryd.underlying55 rfl 3 sizeSc rfl) rfl ⟨rfl, (fin.out _ (Keeps.refl _)).2⟩
  · go_wp2_with (first | (refine loadS hB.out rfl _ rfl rfl ?_) | (refine storeS hB6.out rfl rfl _ _ rfl rfl rfl rfl ?_))
    refine bodyPost_ret (results_row_slot rfl _ (fin.out _ (Keeps.refl _)).1 rfl _ Tryd.underlying55 rfl 3 sizeSc rfl) rfl ⟨rfl, (fin.out _ (Keeps.refl _)).2⟩
  · have ck := hcellW.out k hk
    rw [hb] at ck
    have h1 : ¬ (k : Int) < 0 := by omega
    have h2 : ¬ 63 < (k : Int) := by omega
    go_wp2_with (first | (refine loadS hB.out rfl _ rfl rfl ?_) | (refine storeS hB6.out rfl rfl _ _ rfl rfl rfl rfl ?_))
    refine bodyPost_ret (results_row_slot rfl _ (fin.out _ (Keeps.refl _)).1 rfl _ Tryd.underlying55 rfl 3 sizeSc rfl) rfl ⟨rfl, (fin.out _ (Keeps.refl _)).2⟩
  · have ck := hcellW.out k hk
    rw [hb] at ck
    have h1 : ¬ (k : Int) < 0 := by omega
    have h2 : ¬ 63 < (k : Int) := by omega
    have hend3 := hend2.out
    rw [he] at hend3
    replace hend3 := Lib.hid hend3
    clear hend2
    go_wp2_with fail
    refine hend3.out.mono ?_
    rintro e W2 ⟨rfl, hK2⟩
    have f2 := fin.out W2 hK2
    have hB2 := hB.out.keeps hK2
    have hB62 := hB6.out.keeps hK2
    replace f2 := Lib.hid f2
    replace hB2 := Lib.hid hB2
    replace hB62 := Lib.hid hB62
    clear hK2 hB hB6 fin
    go_wp2_with (first | (refine loadS hB2.out rfl _ rfl rfl ?_) | (refine storeS hB62.out rfl rfl _ _ rfl rfl rfl rfl ?_))
    refine bodyPost_ret (results_row_slot rfl _ f2.out.1 rfl _ Tryd.underlying55 rfl 3 sizeSc rfl) rfl ⟨rfl, f2.out.2⟩
end Go.Proofs.YtefippjakkgjkaaDoor

/- The walk of detentref10's Look, where a holdout falls. -/
namespace Go.Proofs.YtefippjakkgjkaaDoor
open Go.RowKit Go.Shelf

/-- A value whose row, if it has one, is younger than a world. -/
def FreshW (w : World) (v : Value) : Prop := ∀ c, v.ownBlock = some c → w.heap.size ≤ c
theorem FreshW.old {w W : World} {v : Value} (h : FreshW W v) (hk : Keeps w W) : FreshW w v := fun c hc => Nat.le_trans hk.size (h c hc)
set_option maxRecDepth 100000 in
set_option maxHeartbeats 2000000 in
theorem r10Look_yes (b p : Int) (v u : Value) (m : Nat) (l : List (Int × Bool)) (k : Nat) (w : World) (hv : Bools w v m) (hu : Deeds w u l) (hg : Good l) (hl : l.length ≤ 100000) (hk : k < 64) (hb : m.testBit k = true) (he : endB (runD l) b k = true) :
    Calls Tryd.prog 73 #[.agg (scCells b p v).toArray, u, .int .i64 k] w fun e w' => ∃ v2, e = .returned (.tuple #[.agg (scCells b p v2).toArray, .bool true]) ∧ Bools w' v2 (withoutN m [(k : Int)]) ∧ Keeps w w' ∧ FreshW w v2 := by
  have hv1 := hv.one
  have hend := fun (W : World) (hk2 : Keeps w W) => r10Ended_any b p v u l k W hv1 (hu.keeps hk2) hg hl
  rw [he] at hend
  obtain ⟨up, uc, rfl, _⟩ := hu.get
  obtain ⟨vb, off, cap, rfl, h64, hcm, hvlt, hcell⟩ := hv.open
  have e64 : ((bitsL m).map Value.bool).length = 64 := by simp [bitsL]
  have hwo := bitsL_without m k
  replace e64 := Lib.hid e64
  replace hwo := Lib.hid hwo
  replace hend := Lib.hid hend
  replace hcell := Lib.hid hcell
  replace hv := Lib.hid hv
  clear hu hg hl he
  go_enter Tryd.func73, Tryd.ntmps73
  go_upto_region 1 with (fail)
  refine wp_gen (fun W => Blk W w.heap.size 55 (scCells b p (.slice (some ⟨vb, off, none⟩) 64 cap)) ∧ Blk W (w.heap.size + 1) 55 (scCells 0 0 (.slice none 0 0)) ∧ Keeps w W) ⟨(Blk.new _ _ _).alloc _, Blk.at (by simp) rfl, (Keeps.alloc _ _).trans (Keeps.alloc _ _)⟩ ?_
  rintro W ⟨hB, hB6, hK⟩
  have c0 := hB.cell 0 (by simp [scCells])
  have c1 := hB.cell 1 (by simp [scCells])
  have c2 := hB.cell 2 (by simp [scCells])
  simp only [scCells, List.getElem_cons_succ, List.getElem_cons_zero] at c0 c1 c2
  have hend2 := hend.out W hK
  have ck := (hK.cell (p := ⟨vb, off + k, none⟩) hvlt).trans (hcell.out k hk)
  rw [hb] at ck
  have h1 : ¬ (k : Int) < 0 := by omega
  have h2 : ¬ 63 < (k : Int) := by omega
  replace hB := Lib.hid hB
  replace hB6 := Lib.hid hB6
  replace hK := Lib.hid hK
  replace hend2 := Lib.hid hend2
  clear hend hcell
  go_wp2_with fail
  refine hend2.out.mono ?_
  rintro e W2 ⟨rfl, hK2⟩
  have hB2 := hB.out.keeps hK2
  have hB62 := hB6.out.keeps hK2
  have hKw2 := Keeps.trans hK.out hK2
  have hv2 := hv.out.keeps hKw2
  clear hB hB6 hK hK2 hend2 ck c0 c1 c2
  have c2 := hB2.cell 2 (by simp [scCells])
  simp only [scCells, List.getElem_cons_succ, List.getElem_cons_zero] at c2
  have hs1 := hB2.lt
  have hs2 := hB62.lt
  have hown := ownsRow_empty W2 4 W2.heap.size (Nat.le_refl _)
  have hsrc : Slc (W2.alloc (.cells #[] 4)) (.slice (some ⟨vb, off, none⟩) 64 cap) ((bitsL m).map .bool) := Slc.below hv2 (Keeps.alloc W2 _)
  have hB0 := Keeps.alloc W2 (.cells #[] 4)
  replace hB2 := Lib.hid hB2
  replace hB62 := Lib.hid hB62
  replace hKw2 := Lib.hid hKw2
  clear hv2
  go_wp2_with (at_builtin; refine appS rfl _ _ 53 4 (.bool false) 1 rfl Tryd.underlying53 infoBool rfl W2.heap.size _ _ _ rfl hown _ _ rfl hsrc ?_ ?_ ?_ ?_ ?_)
  · intro y hy; simp [List.mem_map] at hy; rcases hy with ⟨_, rfl⟩ | ⟨_, rfl⟩ <;> rfl
  · rw [e64.out]; decide
  · rw [e64.out]; decide
  · exact hB0.size
  · intro v' w1 hown' _ hbel
    have hown' : w1.ownsRow W2.heap.size 4 1 v' 64 ((bitsL m).map .bool) := by simpa [bitsL_len] using hown'
    obtain ⟨g, cap1, cs, rfl, hg, hblk, hn1, hm1, hlen, ht⟩ := row_blk hown'
    have hK1 : Keeps W2 w1 := Below.trans hB0 hbel
    have hB3 := hB2.out.keeps hK1
    have hB63 := hB62.out.keeps hK1
    have hKw3 := Keeps.trans hKw2.out hK1
    clear hown hsrc hown' hbel hB0 hB2 hB62 hKw2 hK1 c2
    have c0 := hB3.cell 0 (by simp [scCells])
    have c1 := hB3.cell 1 (by simp [scCells])
    simp only [scCells, List.getElem_cons_succ, List.getElem_cons_zero] at c0 c1
    have hcl : 64 ≤ cs.length := by
      have := congrArg List.length ht
      simp [bitsL] at this; omega
    have hc := hblk.cellD k (by omega)
    have hf := hblk.frozen k
    have hset := hblk.set k (.bool false)
    have hbo : Bools (w1.setCell ⟨g, k, none⟩ (.bool false)) (.slice (some ⟨g, 0, none⟩) 64 cap1) (withoutN m [(k : Int)]) := Bools.of_blk hset hn1 hm1 (by
      rw [List.take_set, ht, ← hwo.out, List.map_set])
    have f3 := hB3.other (b' := g) (by omega) k (.bool false)
    have f63 := hB63.other (b' := g) (by omega) k (.bool false)
    have fK : Keeps w (w1.setCell ⟨g, k, none⟩ (.bool false)) := Chg.keeps (S := fun j => j = g) (Chg.setCell _ _ rfl) hKw3 (fun j hj => by omega)
    replace hbo := Lib.hid hbo
    replace f3 := Lib.hid f3
    replace f63 := Lib.hid f63
    replace fK := Lib.hid fK
    clear hset hblk ht hB3 hB63 hKw3
    go_upto_region 5 with (fail)
    refine wp_gen (fun W => Bools W (.slice (some ⟨g, 0, none⟩) 64 cap1) (withoutN m [(k : Int)]) ∧ Blk W w.heap.size 55 (scCells b p (.slice (some ⟨vb, off, none⟩) 64 cap)) ∧ Blk W (w.heap.size + 1) 55 (scCells 0 0 (.slice none 0 0)) ∧ Keeps w W) ⟨hbo.out, f3.out, f63.out, fK.out⟩ ?_
    clear hbo f3 f63 fK c0 c1 hc hf
    rintro W5 ⟨hbo, hB, hB6, hK⟩
    have c0 := hB.cell 0 (by simp [scCells])
    have c1 := hB.cell 1 (by simp [scCells])
    simp only [scCells, List.getElem_cons_succ, List.getElem_cons_zero] at c0 c1
    have hC : Chg (fun j => j = w.heap.size + 1) W5 (W5.setRow (w.heap.size + 1) (scCells b p (.slice (some ⟨g, 0, none⟩) 64 cap1)).toArray) := Chg.setRow _ rfl
    have fin : Blk (W5.setRow (w.heap.size + 1) (scCells b p (.slice (some ⟨g, 0, none⟩) 64 cap1)).toArray) (w.heap.size + 1) 55 (scCells b p (.slice (some ⟨g, 0, none⟩) 64 cap1)) ∧ Keeps w (W5.setRow (w.heap.size + 1) (scCells b p (.slice (some ⟨g, 0, none⟩) 64 cap1)).toArray) :=
      ⟨hB6.setRow _, Chg.keeps hC hK (fun j hj => by omega)⟩
    have fbo : Bools (W5.setRow (w.heap.size + 1) (scCells b p (.slice (some ⟨g, 0, none⟩) 64 cap1)).toArray) (.slice (some ⟨g, 0, none⟩) 64 cap1) (withoutN m [(k : Int)]) := Slc.chgN hbo hC (fun c hc _ => by
      simp only [Value.ownBlock, Option.some.injEq] at hc; omega)
    replace fin := Lib.hid fin
    replace fbo := Lib.hid fbo
    replace hB6 := Lib.hid hB6
    clear hC hbo hB hK
    go_wp2_with (refine storeS hB6.out rfl rfl _ _ rfl rfl rfl rfl ?_)
    refine bodyPost_ret (results_row_slot rfl _ fin.out.1 rfl _ Tryd.underlying55 rfl 3 sizeSc rfl) rfl ⟨_, rfl, fbo.out, fin.out.2, fun c hc => by simp only [Value.ownBlock, Option.some.injEq] at hc; omega⟩
end Go.Proofs.YtefippjakkgjkaaDoor

/- Look of detentref10, whole. -/
namespace Go.Proofs.YtefippjakkgjkaaDoor
open Go.RowKit Go.Shelf

theorem lookB_end (S : SSt) (c : ScSt) (r : Int) : lookB S c r = (hasN c.left r && endB S c.began r) := rfl
theorem r10Look_any (c : ScSt) (v u : Value) (l : List (Int × Bool)) (r : Int) (w : World) (hv : Bools w v c.left) (hu : Deeds w u l) (hg : Good l) (hl : l.length ≤ 100000) :
    Calls Tryd.prog 73 #[.agg (scCells c.began c.place v).toArray, u, .int .i64 r] w fun e w' => ∃ v2, e = .returned (.tuple #[.agg (scCells c.began c.place v2).toArray, .bool (lookB (runD l) c r)]) ∧ Bools w' v2 (look (runD l) c r).left ∧ Keeps w w' ∧ (v2 = v ∨ FreshW w v2) := by
  cases h : lookB (runD l) c r with
  | false =>
    have e : look (runD l) c r = c := by unfold look; rw [h]; rfl
    rw [e]
    exact (r10Look_no c.began c.place v u c.left l r w hv hu hg hl h).mono fun e w' ⟨h1, h2⟩ => ⟨v, h1, hv.keeps h2, h2, .inl rfl⟩
  | true =>
    have e : (look (runD l) c r).left = withoutN c.left [r] := by unfold look; rw [if_pos h]
    rw [e]
    rw [lookB_end, Bool.and_eq_true] at h
    obtain ⟨h1, h2⟩ := h
    unfold hasN at h1
    rw [Bool.and_eq_true, decide_eq_true_eq] at h1
    obtain ⟨k, rfl⟩ : ∃ k : Nat, r = k := ⟨r.toNat, by omega⟩
    rw [Int.toNat_natCast] at h1
    exact (r10Look_yes c.began c.place v u c.left l k w hv hu hg hl (by omega) h1.2 h2).mono fun e w' ⟨v2, a1, a2, a3, a4⟩ => ⟨v2, a1, a2, a3, .inr a4⟩
end Go.Proofs.YtefippjakkgjkaaDoor

/- Poll of detentref10: its order, its looks. -/
namespace Go.Proofs.YtefippjakkgjkaaDoor
open Go.RowKit Go.Shelf

def ordTo (m p k : Nat) : List Nat := ((circ p).take k).filter (m.testBit ·)
theorem ordTo_end (m p : Nat) : ordTo m p 64 = orderN m p := by unfold ordTo orderN; rw [List.take_of_length_le (by rw [circ_len]; exact Nat.le_refl _)]
theorem ordTo_succ (m p k : Nat) (hk : k < 64) : ordTo m p (k + 1) = ordTo m p k ++ (if m.testBit ((p + k) % 64) = true then [(p + k) % 64] else []) := by
  unfold ordTo
  rw [List.take_succ_eq_append_getElem (by rw [circ_len]; exact hk), List.filter_append, circ_get]
  congr 1
  cases h : m.testBit ((p + k) % 64) <;> simp [h]
theorem ordTo_len (m p k : Nat) : (ordTo m p k).length ≤ k := by unfold ordTo; exact Nat.le_trans (List.length_filter_le _ _) (by simp; omega)

/-- Bools lie in no block of fewer than 64 cells. -/
theorem Bools.sep {W : World} {v : Value} {m g : Nat} {t : TypeId} {cs : List Value} (h : Bools W v m) (hB : Blk W g t cs) (hl : cs.length < 64) : ∀ c, v.ownBlock = some c → c ≠ g := by
  obtain ⟨vb, off, cap, rfl, _, _, _, hcell⟩ := h.open
  intro c hc e
  simp only [Value.ownBlock, Option.some.injEq] at hc
  subst hc e
  have h1 := hcell 63 (by omega)
  have h2 : (off + 63) < cs.length := by
    simp only [World.cell?, show W.heap[vb]? = _ from hB] at h1
    simp only [List.getElem?_toArray] at h1
    exact (List.getElem?_eq_some_iff.1 h1).1
  omega
theorem foldl_take_succ {α β : Type} (f : β → α → β) (c : β) (l : List α) (k : Nat) (h : k < l.length) : (l.take (k + 1)).foldl f c = f ((l.take k).foldl f c) l[k] := by
  rw [List.take_succ_eq_append_getElem h, List.foldl_append]; rfl
theorem docFold_began (S : SSt) : ∀ (l : List Nat) (c : ScSt), (l.foldl (docStep S) c).began = c.began
  | [], _ => rfl
  | r :: l, c => by rw [List.foldl_cons, docFold_began S l]; exact look_began c S r
theorem row_ownP {w : World} {base : Nat} {e : TypeId} {v : Value} {n : Nat} {xs : List Value} (h : w.ownsRow base e 1 v n xs) : ∀ b, v.ownBlock = some b → base ≤ b := by
  intro b hb
  rcases h.2 with ⟨rfl, _⟩ | ⟨g, cap, cur, rfl, hg, _⟩
  · simp [Value.ownBlock] at hb
  · obtain rfl : g = b := by simpa [Value.ownBlock] using hb
    exact hg
/-- What holds in Poll's second loop. -/
structure PollI (w : World) (c : ScSt) (l : List (Int × Bool)) (O : List Nat) (q : Option Addr) (ocap : Nat) (j : Nat) (v2 : Value) (W : World) : Prop where
  blk : Blk W w.heap.size 55 (scCells c.began ((O.take j).foldl (docStep (runD l)) c).place v2)
  bools : Bools W v2 ((O.take j).foldl (docStep (runD l)) c).left
  res : Blk W (w.heap.size + 1) 55 (scCells 0 0 (.slice none 0 0))
  ord : Slc W (.slice q O.length ocap) (natInts O)
  sep : ∀ ad, q = some ad → ad.block ≠ w.heap.size
  keeps : Keeps w W
theorem PollI.kept {w : World} {c : ScSt} {l : List (Int × Bool)} {O : List Nat} {q : Option Addr} {ocap j : Nat} {v2 : Value} {W W' : World} (h : PollI w c l O q ocap j v2 W) (hk : Keeps W W') : PollI w c l O q ocap j v2 W' :=
  ⟨h.blk.keeps hk, h.bools.keeps hk, h.res.keeps hk, Slc.below h.ord hk, h.sep, Keeps.trans h.keeps hk⟩
theorem PollI.far {w : World} {c : ScSt} {l : List (Int × Bool)} {O : List Nat} {q : Option Addr} {ocap j : Nat} {v2 : Value} {W : World} (h : PollI w c l O q ocap j v2 W) (hO : 0 < O.length) : ∃ b off, q = some ⟨b, off, none⟩ ∧ b ≠ w.heap.size ∧ ∀ k, (hk : k < O.length) → W.cell? ⟨b, off + k, none⟩ = some (.int .i64 (O[k] : Nat)) := by
  obtain ⟨q', cap', hv, _, _, _, hc⟩ := h.ord
  rw [natInts_len] at hv hc
  obtain ⟨rfl, -, rfl⟩ : q = q' ∧ True ∧ ocap = cap' := by simp at hv; exact ⟨hv.1, trivial, hv.2⟩
  obtain ⟨b, off, rfl, h0⟩ := hc 0 hO
  refine ⟨b, off, rfl, h.sep _ rfl, fun k hk => ?_⟩
  · obtain ⟨b', off', e, h1⟩ := hc k hk
    obtain ⟨rfl, rfl⟩ : b = b' ∧ off = off' := by simpa using e
    rw [h1]; simp [natInts, List.getD, hk]
/-- The next look. -/
theorem PollI.next {w : World} {c : ScSt} {l : List (Int × Bool)} {O : List Nat} {q : Option Addr} {ocap j : Nat} {v2 v3 : Value} {W W2 W3 : World} (h : PollI w c l O q ocap j v2 W) (hj : j < O.length) (hk : Keeps W W2)
    (hb : Bools W2 v3 (look (runD l) ((O.take j).foldl (docStep (runD l)) c) (O[j] : Nat)).left)
    (hC : Chg (· = w.heap.size) W2 W3)
    (hB : Blk W3 w.heap.size 55 (scCells c.began (((O[j] : Nat) + 1) % 64 : Nat) v3)) : PollI w c l O q ocap (j + 1) v3 W3 := by
  have h2 := h.kept hk
  have hne := hb.sep h2.blk (by simp [scCells])
  have e := foldl_take_succ (docStep (runD l)) c O j hj
  refine ⟨?_, ?_, h2.res.chg hC (by omega), Slc.chg h2.ord hC (fun b hb' => ?_), h.sep, Chg.keeps hC h2.keeps (fun k hk => by omega)⟩
  · rw [e]; exact hB
  · rw [e]; exact Slc.chg hb hC hne
  · cases q with
    | none => cases hb'
    | some ad =>
      have := h.sep ad rfl
      simp only [Value.ownBlock, Option.some.injEq] at hb'
      rw [← hb']; exact this
set_option maxRecDepth 100000 in
set_option maxHeartbeats 2000000 in
theorem r10Poll_any (c : ScSt) (hp : c.place < 64) (v u : Value) (l : List (Int × Bool)) (n : Int) (w : World) (hv : Bools w v c.left) (hu : Deeds w u l) (hg : Good l) (hl : l.length ≤ 100000) :
    Calls Tryd.prog 52 #[.agg (scCells c.began c.place v).toArray, u, .int .i64 n] w fun e w' => ∃ v2, e = .returned (.agg (scCells c.began (poll (runD l) c n).place v2).toArray) ∧ Bools w' v2 (poll (runD l) c n).left ∧ Keeps w w' ∧ (v2 = v ∨ FreshW w v2) := by
  obtain ⟨up, uc, rfl, _⟩ := hu.get
  obtain ⟨vb, off, cap, rfl, h64, hcm, hvlt, hcell⟩ := hv.open
  obtain ⟨m, hm⟩ : ∃ m, m = c.left := ⟨_, rfl⟩
  obtain ⟨p, hpe⟩ : ∃ p, p = c.place := ⟨_, rfl⟩
  obtain ⟨b, hbe⟩ : ∃ b, b = c.began := ⟨_, rfl⟩
  rw [← hm] at hcell
  rw [← hpe, ← hbe]
  rw [← hpe] at hp
  replace hcell := Lib.hid hcell
  replace hv := Lib.hid hv
  replace hu := Lib.hid hu
  replace hg := Lib.hid hg
  replace hm := Lib.hid hm
  replace hpe := Lib.hid hpe
  replace hbe := Lib.hid hbe
  go_enter Tryd.func52, Tryd.ntmps52
  go_upto_region 1 with (fail)
  refine wp_gen (fun W => Blk W w.heap.size 55 (scCells b p (.slice (some ⟨vb, off, none⟩) 64 cap)) ∧ Blk W (w.heap.size + 1) 55 (scCells 0 0 (.slice none 0 0)) ∧ Keeps w W) ⟨(Blk.new _ _ _).alloc _, Blk.at (by simp) rfl, (Keeps.alloc _ _).trans (Keeps.alloc _ _)⟩ ?_
  rintro W ⟨hB, hB6, hK⟩
  have hblt := hB6.lt
  replace hB := Lib.hid hB
  replace hB6 := Lib.hid hB6
  replace hK := Lib.hid hK
  go_wp2_with fail
  go_loopw [7, 8] (fun o i wr => ∃ k : Nat, k ≤ 64 ∧ i = .int .i64 k ∧ wr.ownsRow W.heap.size 3 1 o (ordTo m p k).length (natInts (ordTo m p k)) ∧ Keeps W wr) (fun _ i _ => 64 - (intOf i).toNat)
  case atStart => exact ⟨0, by omega, rfl, World.ownsRow_nil _ _ _ _, Keeps.refl _⟩
  case round =>
    obtain ⟨k, hk, rfl, hrow, hK1⟩ := hrel
    by_cases hlt : k < 64
    · have ck := ((Keeps.trans hK.out hK1).cell (p := ⟨vb, off + (p + k) % 64, none⟩) hvlt).trans (hcell.out ((p + k) % 64) (Nat.mod_lt _ (by decide)))
      have hB1 := hB.out.keeps hK1
      have c1 := hB1.cell 1 (by simp [scCells])
      have c2 := hB1.cell 2 (by simp [scCells])
      simp only [scCells, List.getElem_cons_succ, List.getElem_cons_zero] at c1 c2
      have hmod : ((p : Int) + (k : Int)).tmod 64 = (((p + k) % 64 : Nat) : Int) := by rw [Int.tmod_eq_emod_of_nonneg (by omega)]; omega
      have hs := ordTo_succ m p k hlt
      have hul := ordTo_len m p k
      have hx64 : (p + k) % 64 < 64 := Nat.mod_lt _ (by decide)
      generalize (p + k) % 64 = x at *
      replace hB := Lib.hid hB
      clear hB1
      cases hb : m.testBit x with
      | true =>
        rw [hb] at ck
        rw [hb, if_pos rfl] at hs
        replace hs := Lib.hid hs
        replace hb := Lib.hid hb
        go_wp2_with (at_builtin; refine app1 rfl _ _ 38 3 (.int .i64 0) 8 rfl Tryd.underlying38 infoInt rfl W.heap.size _ _ _ rfl hrow _ rfl rfl (by unfold maxLen; omega) (by omega) hK1.size ?_; intro g cap w1 hown' hgrow hbel)
        go_roundw
        case rel =>
          refine ⟨k + 1, by omega, by go_num, ?_, Below.trans hK1 hbel⟩
          rw [hs.out, List.length_append, natInts, List.map_append]
          exact hown'
        case measure => (simp [intOf]; try omega)
      | false =>
        rw [hb] at ck
        rw [hb, if_neg (by decide), List.append_nil] at hs
        replace hs := Lib.hid hs
        replace hb := Lib.hid hb
        go_wp2_with fail
        go_roundw
        case rel => exact ⟨k + 1, by omega, by go_num, by rw [hs.out]; exact hrow, hK1⟩
        case measure => (simp [intOf]; try omega)
    · obtain rfl : k = 64 := by omega
      rw [ordTo_end] at hrow
      have hOlt : ∀ r ∈ orderN m p, r < 64 := fun r hr => by
        unfold orderN circ at hr
        simp only [List.mem_filter, List.mem_map, List.mem_range] at hr
        obtain ⟨⟨j, _, rfl⟩, _⟩ := hr
        exact Nat.mod_lt _ (by decide)
      have hdoc := poll_doc (runD l) c (by rw [← hpe.out]; exact hp) n
      rw [← hm.out, ← hpe.out] at hdoc
      have hOlen : (orderN m p).length ≤ 64 := by rw [← ordTo_end]; exact ordTo_len m p 64
      generalize orderN m p = O at *
      have hsep := row_ownP hrow
      obtain ⟨q, ocap, rfl, hocl, hocm, hon, hoc⟩ := slc_of_row hrow
      rw [natInts_len] at hocl hoc
      rw [natInts_len] at *
      unfold maxLen at hocm
      replace hdoc := Lib.hid hdoc
      replace hOlt := Lib.hid hOlt
      replace hon := Lib.hid hon
      have hK1' := hK1
      replace hK1 := Lib.hid hK1
      have hosl : Slc wr (.slice q O.length ocap) (natInts O) := slc_of_row hrow
      replace hosl := Lib.hid hosl
      replace hsep := Lib.hid hsep
      clear hrow hoc
      obtain ⟨wo, rfl⟩ : ∃ wo : World, wo = wr := ⟨_, rfl⟩
      go_wp2_with fail
      have hB := hB.out.keeps hK1'
      have hB6 := hB6.out.keeps hK1'
      have hKw : Keeps w wo := Keeps.trans hK.out hK1'
      have hWo : w.heap.size + 1 < W.heap.size := hblt
      have hbo := hv.out.keeps hKw
      replace hB := Lib.hid hB
      replace hB6 := Lib.hid hB6
      replace hKw := Lib.hid hKw
      replace hbo := Lib.hid hbo
      clear hK1' hK1 hK hcell
      go_loopw [10] (fun i wr => ∃ (j : Nat) (v2 : Value), j ≤ O.length ∧ i = .int .i64 j ∧ (j : Int) ≤ max n 0 ∧ PollI w c l O q ocap j v2 wr ∧ (v2 = .slice (some ⟨vb, off, none⟩) 64 cap ∨ FreshW w v2)) (fun i _ => O.length - (intOf i).toNat)
      case atStart => exact ⟨0, .slice (some ⟨vb, off, none⟩) 64 cap, Nat.zero_le _, rfl, by omega, ⟨by rw [List.take_zero, List.foldl_nil, ← hbe.out, ← hpe.out]; exact hB.out, by rw [List.take_zero, List.foldl_nil]; exact hbo.out, hB6.out, hosl.out, fun ad e => by have := hsep.out ad.block (by rw [e]; rfl); omega, hKw.out⟩, .inl rfl⟩
      case round =>
        clear hB hB6 hKw hbo hv hm hpe hosl hsep hon
        obtain ⟨j, v2, hj, rfl, hjn, hI, hfr⟩ := hrel
        replace hfr := Lib.hid hfr
        by_cases hlt : j < O.length ∧ (j : Int) < n
        · obtain ⟨hlt, hltn⟩ := hlt
          obtain ⟨ob, ooff, rfl, hne, hoc⟩ := hI.far (by omega)
          have co := hoc j hlt
          clear hoc
          have h64 := hOlt.out _ (List.getElem_mem hlt)
          have hnext := fun (v3 : Value) (W2 W3 : World) => hI.next (v3 := v3) (W2 := W2) (W3 := W3) hlt
          have hcb := hI.blk
          have hlook := fun (W2 : World) (hk : Keeps wr W2) => r10Look_any ((O.take j).foldl (docStep (runD l)) c) v2 _ l (O[j] : Nat) W2 (hI.bools.keeps hk) (hu.out.keeps (Keeps.trans hI.keeps hk)) hg.out hl
          have hI2 := hI
          rw [docFold_began] at hlook
          generalize (O.take j).foldl (docStep (runD l)) c = cj at *
          obtain ⟨r, hr⟩ : ∃ r, r = O[j] := ⟨_, rfl⟩
          rw [← hr] at co h64 hlook hnext
          replace hlook : ∀ (W2 : World), Keeps wr W2 → Calls Tryd.prog 73 #[.agg #[.int .i64 c.began, .int .i64 cj.place, v2], .slice up l.length uc, .int .i64 (r : Nat)] W2 fun e w' => ∃ v3, e = .returned (.tuple #[.agg #[.int .i64 c.began, .int .i64 cj.place, v3], .bool (lookB (runD l) cj (r : Nat))]) ∧ Bools w' v3 (look (runD l) cj (r : Nat)).left ∧ Keeps W2 w' ∧ (v3 = v2 ∨ FreshW W2 v3) := hlook
          replace hr := Lib.hid hr
          replace hI := Lib.hid hI
          replace hI2 := Lib.hid hI2
          replace hlook := Lib.hid hlook
          replace hnext := Lib.hid hnext
          replace hcb := Lib.hid hcb
          have hhlt := hI.out.res.lt
          go_upto_region 11 with (fail)
          go_cut [] (fun wx => ∃ (W2 : World) (v3 : Value), (v3 = v2 ∨ FreshW wr v3) ∧ Keeps wr W2 ∧ Bools W2 v3 (look (runD l) cj (r : Nat)).left ∧ Chg (· = w.heap.size) W2 wx ∧ Blk wx w.heap.size 55 (scCells c.began cj.place v3))
          case first =>
            have hc0 := hcb.out.cell 0 (by simp [scCells])
            have hc1 := hcb.out.cell 1 (by simp [scCells])
            have hc2 := hcb.out.cell 2 (by simp [scCells])
            simp only [scCells, List.getElem_cons_succ, List.getElem_cons_zero] at hc0 hc1 hc2
            go_region_with
              (first | (go_at_call 73; with_reducible refine (hlook.out _ (Keeps.drew _)).mono ?_; rintro e W2 ⟨v3, rfl, hb3, hk3, hf3⟩; replace hf3 := Lib.hid hf3; obtain ⟨vb3, off3, cap3, rfl, _, _, _, _⟩ := hb3.open; have hb2 := hcb.out.keeps (Keeps.trans (Keeps.drew _) hk3); have d0 := hb2.cell 0 (by simp [scCells]); have d1 := hb2.cell 1 (by simp [scCells]); have d2 := hb2.cell 2 (by simp [scCells]); have f0 := hb2.frozen 0; have f1 := hb2.frozen 1; have f2 := hb2.frozen 2; simp only [scCells, List.getElem_cons_succ, List.getElem_cons_zero] at d0 d1 d2; replace hb2 := Lib.hid hb2; replace hb3 := Lib.hid hb3; replace hk3 := Lib.hid hk3))
            all_goals
              go_wp2_with fail
              go_meet
              exact ⟨_, _, hf3.out.imp id (fun h => h.old (Keeps.drew _)), Keeps.trans (Keeps.drew _) hk3.out, hb3.out, ((Chg.setCell (S := (· = w.heap.size)) 0 _ rfl).trans (Chg.setCell (S := (· = w.heap.size)) 1 _ rfl)).trans (Chg.setCell (S := (· = w.heap.size)) 2 _ rfl), ((hb2.out.set 0 _).set 1 _).set 2 _⟩
          case rest =>
            obtain ⟨W2, v3, hf3, hk2, hb2, hC, hBx⟩ := hcut
            have hkI := hI.out.keeps
            have hfr3 : v3 = .slice (some ⟨vb, off, none⟩) 64 cap ∨ FreshW w v3 := by
              rcases hf3 with rfl | hf3
              · exact hfr.out
              · exact .inr (hf3.old hkI)
            replace hfr3 := Lib.hid hfr3
            clear hf3 hkI
            have e1 := hBx.cell 1 (by simp [scCells])
            have f1 := hBx.frozen 1
            simp only [scCells, List.getElem_cons_succ, List.getElem_cons_zero] at e1
            have co2 : wc.cell? ⟨ob, ooff + j, none⟩ = some (.int .i64 (r : Nat)) := (World.cell?_of_block (w := wr) (a := ⟨ob, ooff + j, none⟩) ((hC.block ob (by have := hk2.size; have := cell_lt co; simp only at this; omega) hne).trans (hk2.block ob (cell_lt co)))).trans co
            have hfin := hnext.out v3 W2 (wc.setCell ⟨w.heap.size, 1, none⟩ (.int .i64 (((r + 1) % 64 : Nat) : Int))) hk2 hb2 (hC.trans (Chg.setCell (S := (· = w.heap.size)) _ _ rfl)) (hBx.set 1 _)
            rw [show (((r + 1) % 64 : Nat) : Int) = ((r : Int) + 1) % 64 by omega] at hfin
            replace hfin := Lib.hid hfin
            clear hk2 hb2 hC hBx co hnext hcb hlook
            go_wp2_with fail
            go_roundw
            case rel => exact ⟨j + 1, v3, by omega, by go_num, by omega, hfin.out, hfr3.out⟩
            case measure => (simp [intOf]; try omega)
        · have hcb := hI.blk
          have hI2 := hI
          have hlast : (O.take j).foldl (docStep (runD l)) c = Proofs.YtefippjakkgjkaaDoor.poll (runD l) c n := by
            rw [hdoc.out]
            congr 1
            by_cases h1 : j < O.length
            · congr 1; omega
            · rw [List.take_of_length_le (by omega), List.take_of_length_le (by omega)]
          have hcb2 := hI.blk
          have hbl := hI.bools
          have hrs := hI.res
          have hkk := hI.keeps
          rw [hlast] at hcb2 hbl
          replace hlast := Lib.hid hlast
          have hres := hrs.lt
          have fin := fun (cs : List Value) => hrs.setRow cs
          have hkf : ∀ cs : Array Value, Keeps w (wr.setRow (w.heap.size + 1) cs) := fun cs => Chg.keeps (S := fun k => k = w.heap.size + 1) (Chg.setRow _ rfl) hkk (fun k hk => by omega)
          have hbf : ∀ cs : Array Value, Bools (wr.setRow (w.heap.size + 1) cs) v2 (Proofs.YtefippjakkgjkaaDoor.poll (runD l) c n).left := fun cs => Slc.chg hbl (Chg.setRow (S := fun k => k = w.heap.size + 1) _ rfl) (hbl.sep hrs (by simp [scCells]))
          have hone := hbl.one
          replace hcb2 := Lib.hid hcb2
          replace hrs := Lib.hid hrs
          replace fin := Lib.hid fin
          replace hkf := Lib.hid hkf
          replace hbf := Lib.hid hbf
          replace hI := Lib.hid hI
          replace hone := Lib.hid hone
          clear hI2 hcb hbl hkk
          have hcase : (¬ j < O.length ∧ j = O.length) ∨ (j < O.length ∧ ¬ (j : Int) < n) := by omega
          rcases hcase with ⟨h1, h2⟩ | ⟨h1, h2⟩
          all_goals
            try subst h2
            go_wp2_with (first | (refine loadS hcb2.out rfl _ rfl rfl ?_) | (refine storeS hrs.out hone.out rfl _ _ rfl rfl rfl rfl ?_))
            refine bodyPost_ret (results_row rfl _ (fin.out _) rfl _ Tryd.underlying55 rfl 3 sizeSc rfl) rfl ⟨v2, ?_, hbf.out _, hkf.out _, hfr.out⟩
            rw [hbe.out]
end Go.Proofs.YtefippjakkgjkaaDoor

/- New of detentref10. -/
namespace Go.Proofs.YtefippjakkgjkaaDoor
open Go.RowKit Go.Shelf

def newBits (l : List (Int × Bool)) (k : Nat) : List Value := (List.range k).map fun (r : Nat) => Value.bool (decide (0 < dTo l (r : Int)))
theorem newBits_succ (l : List (Int × Bool)) (k : Nat) : newBits l (k + 1) = newBits l k ++ [Value.bool (decide (0 < dTo l (k : Int)))] := by
  unfold newBits; rw [List.range_succ, List.map_append]; rfl
theorem newBits_len (l : List (Int × Bool)) (k : Nat) : (newBits l k).length = k := by simp [newBits]
theorem newBits_all {l : List (Int × Bool)} (hg : Good l) : newBits l 64 = (bitsL (runD l).m).map Value.bool := by
  unfold newBits bitsL
  rw [List.map_map]
  apply List.map_congr_left
  intro j hj
  have hj : j < 64 := List.mem_range.1 hj
  show Value.bool _ = Value.bool _
  congr 1
  have hb := (runD_ok l).bits j hj
  unfold hasN at hb
  rw [decide_eq_true (show (0 : Int) ≤ (j : Int) ∧ (j : Int) < 64 by omega), Bool.true_and, Int.toNat_natCast] at hb
  show _ = (runD l).m.testBit j
  rw [hb, dTo_all hg]
  unfold SSt.depI
  rw [if_pos (by omega), Int.toNat_natCast, decide_eq_decide]
  omega
theorem slc_one_at (W : World) (t : TypeId) (y : Value) (b : Nat) (hb : b = W.heap.size) : Slc (W.alloc (.cells #[y] t)) (.slice (some ⟨b, 0, none⟩) 1 1) [y] := by
  subst hb
  have := (Blk.new W t [y]).slc 1 1 (by simp) (Nat.le_refl _) (by decide)
  exact this
theorem row_chgP {S : Nat → Prop} {sz base n : Nat} {e : TypeId} {w w' : World} {v : Value} {xs : List Value} (h : w.ownsRow base e sz v n xs) (hm : Chg S w w') (hsep : ∀ b, base ≤ b → ¬ S b) : w'.ownsRow base e sz v n xs := by
  refine ⟨h.1, ?_⟩
  rcases h.2 with h0 | ⟨g, cap, cur, hv, hb, hg, hr⟩
  · exact .inl h0
  · exact .inr ⟨g, cap, cur, hv, hb, (hm.block g ((Array.getElem?_eq_some_iff.1 hg).1) (hsep g hb)).trans hg, hr⟩
/-- What holds in New's loop: x's block, its list in a row of the call's own. -/
structure NewI (w : World) (x b : Nat) (l : List (Int × Bool)) (k : Nat) (v : Value) (W : World) : Prop where
  blk : Blk W x 55 (scCells b 0 v)
  row : W.ownsRow (x + 1) 4 1 v k (newBits l k)
  keeps : Keeps w W

set_option maxRecDepth 100000 in
set_option maxHeartbeats 2000000 in
theorem r10New_any (u : Value) (l : List (Int × Bool)) (w : World) (hu : Deeds w u l) (hg : Good l) (hl : l.length ≤ 100000) :
    Calls Tryd.prog 57 #[u] w fun e w' => ∃ v2, e = .returned (.agg (scCells (runD l).st 0 v2).toArray) ∧ Bools w' v2 (runD l).m ∧ Keeps w w' ∧ FreshW w v2 := by
  obtain ⟨up, uc, rfl, _⟩ := hu.get
  have hst := fun (W : World) (hk : Keeps w W) => rStamps_any _ l 0 W (hu.keeps hk) hg hl
  have hde := fun (r : Int) (W : World) (hk : Keeps w W) => rDepth_any _ l r W (hu.keeps hk) hl
  have hall := newBits_all hg
  have hs0 := fun k => newBits_succ l k
  generalize (runD l).st = b at *
  generalize (runD l).sinI 0 = s at *
  generalize (runD l).m = m at *
  replace hst := Lib.hid hst
  replace hde := Lib.hid hde
  replace hall := Lib.hid hall
  replace hs0 := Lib.hid hs0
  clear hu hg
  go_enter Tryd.func57, Tryd.ntmps57
  go_upto_region 1 with (fail)
  refine wp_gen (fun W => Blk W w.heap.size 55 (scCells 0 0 (.slice none 0 0)) ∧ W.heap.size = w.heap.size + 1 ∧ Keeps w W) ⟨Blk.at rfl rfl, by simp, Keeps.alloc _ _⟩ ?_
  rintro W ⟨hB, hsz, hK⟩
  have hst2 := hst.out W hK
  replace hB := Lib.hid hB
  replace hst2 := Lib.hid hst2
  replace hK := Lib.hid hK
  replace hsz := Lib.hid hsz
  clear hst
  go_wp2_with fail
  refine hst2.out.mono ?_
  rintro e W2 ⟨rfl, hK2⟩
  have hK3 := Keeps.trans hK.out hK2
  have hB2 := hB.out.keeps hK2
  have hs2 : w.heap.size + 1 ≤ W2.heap.size := by have := hK2.size; have := hsz.out; omega
  replace hB2 := Lib.hid hB2
  replace hK3 := Lib.hid hK3
  clear hK2 hst2 hK hB hsz
  go_upto_region 3 with (fail)
  refine wp_gen (fun W => NewI w W2.heap.size b l 0 (.slice none 0 0) W ∧ Blk W w.heap.size 55 (scCells 0 0 (.slice none 0 0))) ⟨⟨Blk.at rfl rfl, World.ownsRow_nil _ _ _ _, Keeps.trans hK3.out (Keeps.alloc _ _)⟩, hB2.out.keeps (Keeps.alloc _ _)⟩ ?_
  rintro W ⟨hI, hB⟩
  clear hK3 hB2
  generalize hx : W2.heap.size = x at *
  clear hx
  replace hI := Lib.hid hI
  replace hB := Lib.hid hB
  go_wp2_with fail
  go_loopw [6] (fun i wr => ∃ (k : Nat) (v : Value), k ≤ 64 ∧ i = .int .i64 k ∧ NewI w x b l k v wr ∧ Blk wr w.heap.size 55 (scCells 0 0 (.slice none 0 0))) (fun i _ => 64 - (intOf i).toNat)
  case atStart => exact ⟨0, _, by omega, rfl, hI.out, hB.out⟩
  case round =>
    clear hI hB
    obtain ⟨k, v, hk, rfl, hI, hB⟩ := hrel
    by_cases hlt : k < 64
    · have hd := hde.out (k : Int) wr hI.keeps
      have hdw := hde.out (k : Int) wr.drew (Keeps.trans hI.keeps (Keeps.drew _))
      have hrow := hI.row
      have hs := hs0.out k
      have x2 := hI.blk.cell 2 (by simp [scCells])
      have f2 := hI.blk.frozen 2
      simp only [scCells, List.getElem_cons_succ, List.getElem_cons_zero] at x2
      have hxl := hI.blk.lt
      have hnl := newBits_len l k
      generalize newBits l k = nb at *
      generalize dTo l (k : Int) = d at *
      replace hs := Lib.hid hs
      replace hnl := Lib.hid hnl
      replace hB := Lib.hid hB
      replace hI := Lib.hid hI
      replace hd := Lib.hid hd
      replace hdw := Lib.hid hdw
      have hyy : ∀ y ∈ [Value.bool (decide (0 < d))], y.oneCell' = true := by intro y hy; simp at hy; subst hy; rfl
      have hz1 : k + [Value.bool (decide (0 < d))].length ≤ maxLen := by simp only [List.length_singleton]; unfold maxLen; omega
      have hz2 : (k + [Value.bool (decide (0 < d))].length) * 1 ≤ 140737488355328 := by simp only [List.length_singleton]; omega
      replace hyy := Lib.hid hyy
      replace hz1 := Lib.hid hz1
      replace hz2 := Lib.hid hz2
      go_wp2_with fail
      go_region_law (first
          | (refine appStep (by rfl) _ _ 53 4 (.bool false) 1 (by rfl) Tryd.underlying53 infoBool rfl (x + 1) _ _ _ (by rfl) (hrow.drew.alloc _) (some _) _ _ _ (by rfl) (by simp) (slc_one_at _ _ _ _ rfl) hyy.out hz1.out hz2.out (by simp; omega) ?_; intro v' w1 hown' hgrow hbel; obtain ⟨g, gcap, rfl⟩ := ownsRow_succ hown'; have hb3 := ((hI.out.blk.keeps (Keeps.drew _)).alloc (.cells #[.bool (decide (0 < d))] 4)).below hbel (Nat.lt_succ_self x); have hb4 := ((hB.out.keeps (Keeps.drew _)).alloc (.cells #[.bool (decide (0 < d))] 4)).below hbel (by omega); have d2 := hb3.cell 2 (by simp [scCells]); have f2 := hb3.frozen 2; simp only [scCells, List.getElem_cons_succ, List.getElem_cons_zero] at d2; replace hb3 := Lib.hid hb3; replace hb4 := Lib.hid hb4; replace hown' := Lib.hid hown'; replace hbel := Lib.hid hbel; clear hgrow)
          | (go_simp; go_at_call 32; with_reducible refine hdw.out.mono ?_; rintro e W3 ⟨rfl, rfl⟩))
      all_goals
        have hK1 : Keeps w w1 := Below.trans (Keeps.trans hI.out.keeps (Keeps.trans (Keeps.alloc wr _) (Keeps.drew _))) (Below.mono hbel.out (by omega))
        have hC : Chg (· = x) w1 (w1.setCell ⟨x, 2, none⟩ (.slice (some ⟨g, 0, none⟩) (k + 1) gcap)) := Chg.setCell _ _ rfl
        have hfin : NewI w x b l (k + 1) (.slice (some ⟨g, 0, none⟩) (k + 1) gcap) (w1.setCell ⟨x, 2, none⟩ (.slice (some ⟨g, 0, none⟩) (k + 1) gcap)) := ⟨hb3.out.set 2 _, by rw [hs.out]; exact row_chgP (by simpa using hown'.out) hC (fun c hc => by omega), Chg.keeps hC hK1 (fun k hk => by omega)⟩
        have hbf := hb4.out.chg hC (by omega)
        replace hfin := Lib.hid hfin
        replace hbf := Lib.hid hbf
        clear hK1 hC d2 f2 hown' hbel hb3 hb4
        go_wp2_with fail
        go_roundw
        case rel => exact ⟨k + 1, _, by omega, by go_num, hfin.out, hbf.out⟩
        case measure => (simp [intOf]; try omega)
    · obtain rfl : k = 64 := by omega
      have hrow := hI.row
      rw [hall.out] at hrow
      obtain ⟨g, cap1, cs, rfl, hg, hblk, hn1, hm1, hlen, ht⟩ := row_blk hrow
      have hbo : Bools wr (.slice (some ⟨g, 0, none⟩) 64 cap1) m := Bools.of_blk hblk hn1 hm1 ht
      have hxl := hI.blk.lt
      have hC : Chg (fun j => j = w.heap.size) wr (wr.setRow w.heap.size (scCells b 0 (.slice (some ⟨g, 0, none⟩) 64 cap1)).toArray) := Chg.setRow _ rfl
      have fin := hB.setRow (scCells b 0 (.slice (some ⟨g, 0, none⟩) 64 cap1))
      have fK := Chg.keeps hC hI.keeps (fun j hj => by omega)
      have fbo := Slc.chg hbo hC (hbo.sep hB (by simp [scCells]))
      have hb := hI.blk
      replace fin := Lib.hid fin
      replace fK := Lib.hid fK
      replace fbo := Lib.hid fbo
      replace hB := Lib.hid hB
      replace hb := Lib.hid hb
      clear hrow hblk ht hbo hC hI
      go_wp2_with (first | (refine loadS hb.out rfl _ rfl rfl ?_) | (refine storeS hB.out rfl rfl _ _ rfl rfl rfl rfl ?_))
      exact bodyPost_ret (results_row rfl _ fin.out rfl _ Tryd.underlying55 rfl 3 sizeSc rfl) rfl ⟨_, rfl, fbo.out, fK.out, fun c hc => by simp only [Value.ownBlock, Option.some.injEq] at hc; omega⟩
end Go.Proofs.YtefippjakkgjkaaDoor
