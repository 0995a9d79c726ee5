/- The document's answer for the waits: By, Wake, Wait. -/
import Derived.Test.YtacdmiafppmabaaDoorRef24
namespace Go.Proofs.YtacdmiafppmabaaDoor
open Go.RowKit

theorem div_bit (W i : Nat) : W / 2 ^ i = 2 * (W / 2 ^ (i + 1)) + (W.testBit i).toNat := by
  rw [Nat.pow_succ, ← Nat.div_div_eq_div_mul, Nat.testBit_eq_decide_div_mod_eq]
  by_cases h : W / 2 ^ i % 2 = 1 <;> simp [h] <;> omega
theorem suchW_lt32 (f : WS) (q : Nat → Bool) : suchW f q 32 < 4294967296 := by
  have : suchW f q 32 < 2 ^ 32 := Nat.lt_pow_two_of_testBit _ fun i hi => by
    by_cases h : i < 64
    · rw [suchW_bit f q 32 i h]; simp; omega
    · exact Nat.testBit_lt_two_pow (Nat.lt_of_lt_of_le (suchW_lt f q 32) (by rw [show (18446744073709551616 : Nat) = 2 ^ 64 from rfl]; exact Nat.pow_le_pow_right (by omega) (by omega)))
  exact this
set_option maxRecDepth 100000 in
set_option maxHeartbeats 1000000 in
theorem rBy_any (f : WS) (b : Int) (all : Bool) (w : World) : Calls Tryd.prog 19 #[.agg (wc f).toArray, .int .i64 b, .bool all] w fun e w' => e = .returned (.int .u64 (suchW f (fun c => all || (c : Int) == b) 32 : Nat)) ∧ Keeps w w' := by
  have hB0 := Blk.new w 38 (wc f)
  have hK0 := Keeps.alloc w (.cells (wc f).toArray 38)
  have hW := suchW_lt32 f (fun c => all || (c : Int) == b)
  have hbit := fun i hi => suchW_bit f (fun c => all || (c : Int) == b) 32 i hi
  obtain ⟨W0, hW0⟩ : ∃ W0, W0 = suchW f (fun c => all || (c : Int) == b) 32 := ⟨_, rfl⟩
  rw [← hW0] at hW ⊢
  have hd := fun i => div_bit W0 i
  rw [← hW0] at hbit
  have hst : W0 / 2 ^ 32 = 0 := Nat.div_eq_of_lt hW
  replace hB0 := Lib.hid hB0
  replace hK0 := Lib.hid hK0
  replace hW0 := Lib.hid hW0
  replace hbit := Lib.hid hbit
  replace hd := Lib.hid hd
  go_enter Tryd.func19, Tryd.ntmps19
  go_upto_region 1 with (fail)
  refine wp_gen (fun W => Blk W w.heap.size 38 (wc f) ∧ Keeps w W) ⟨hB0.out, hK0.out⟩ ?_
  clear hB0 hK0
  rintro W ⟨hB, hK⟩
  replace hK := Lib.hid hK
  go_wp2_with fail
  go_loop [7, 8] (fun nv iv => ∃ j : Nat, j ≤ 32 ∧ iv = .int .i64 ((j : Int) - 1) ∧ nv = .int .u64 (W0 / 2 ^ j : Nat)) (fun _ i => (intOf i + 1).toNat)
  case atStart => exact ⟨32, by omega, rfl, by rw [hst]; rfl⟩
  case round =>
    obtain ⟨j, hj, rfl, rfl⟩ := hrel
    cases j with
    | zero =>
      go_wp2
      go_ret
      exact ⟨rfl, hK.out⟩
    | succ j =>
      rw [show ((j + 1 : Nat) : Int) - 1 = (j : Int) by omega]
      have hs := hd.out j
      have hb := hbit.out j (by omega)
      have hle : W0 / 2 ^ (j + 1) < 4294967296 := Nat.lt_of_le_of_lt (Nat.div_le_self _ _) hW
      have hj32 : j < 32 := by omega
      have hjI : (j : Int) < 32 := by omega
      have hj0 : (0 : Int) ≤ (j : Int) := by omega
      have hcell := hB.cellK (wc_get f j hj32)
      generalize W0 / 2 ^ (j + 1) = x at *
      cases hfj : f j with
      | none =>
        have hwi : wI f j = -1 := by unfold wI; rw [hfj]
        rw [hwi] at hcell
        rw [hfj] at hb
        simp only [Option.any_none, Bool.and_false] at hb
        rw [hb] at hs
        replace hs := Lib.hid hs
        replace hb := Lib.hid hb
        replace hfj := Lib.hid hfj
        replace hwi := Lib.hid hwi
        go_wp2
        go_round
        case rel => exact ⟨j, by omega, rfl, by rw [hs.out]; go_num⟩
        case measure => (simp [intOf]; try omega)
      | some c =>
        have hwi : wI f j = c := by unfold wI; rw [hfj]
        rw [hwi] at hcell
        rw [hfj] at hb
        simp only [Option.any_some, decide_eq_true hj32, Bool.true_and] at hb
        have hc0 : (0 : Int) ≤ (c : Int) := by omega
        replace hfj := Lib.hid hfj
        replace hwi := Lib.hid hwi
        cases all with
        | true =>
          rw [Bool.true_or] at hb
          rw [hb] at hs
          replace hs := Lib.hid hs
          replace hb := Lib.hid hb
          go_wp2
          go_round
          case rel => exact ⟨j, by omega, rfl, by rw [hs.out]; go_num⟩
          case measure => (simp [intOf]; try omega)
        | false =>
          rw [Bool.false_or] at hb
          cases hcb : ((c : Int) == b) with
          | true =>
            rw [hb, hcb] at hs
            replace hs := Lib.hid hs
            replace hb := Lib.hid hb
            go_wp2
            go_round
            case rel => exact ⟨j, by omega, rfl, by rw [hs.out]; go_num⟩
            case measure => (simp [intOf]; try omega)
          | false =>
            rw [hb, hcb] at hs
            replace hs := Lib.hid hs
            replace hb := Lib.hid hb
            go_wp2
            go_round
            case rel => exact ⟨j, by omega, rfl, by rw [hs.out]; go_num⟩
            case measure => (simp [intOf]; try omega)
theorem row_chg {S : Nat → Prop} {W W' : World} {base base' sz : Nat} {e : TypeId} {v : Value} {n : Nat} {xs : List Value} (h : W.ownsRow base e sz v n xs) (hc : Chg S W W') (hn : ∀ b, base ≤ b → ¬ S b) (hb : base' ≤ base) : W'.ownsRow base' e sz v n xs := by
  refine ⟨h.1, ?_⟩
  rcases h.2 with h0 | ⟨g, cap, cur, hv, hbg, hg, hr⟩
  · exact .inl h0
  · exact .inr ⟨g, cap, cur, hv, by omega, (hc.block g (Array.getElem?_eq_some_iff.1 hg).1 (hn g hbg)).trans hg, hr⟩
theorem suchL_not (f : WS) (q : Nat → Bool) (k : Nat) : (suchL f q k).contains k = false := by
  rw [Bool.eq_false_iff]
  intro h
  rw [List.contains_iff_mem] at h
  have := (suchL_mem.1 h).1
  omega
set_option maxRecDepth 100000 in
set_option maxHeartbeats 1000000 in
theorem rWake_any (f : WS) (x y : Int) (w : World) : Calls Tryd.prog 14 #[.agg (wc f).toArray, .int .i64 x, .int .i64 y] w fun e w' => ∃ v, e = .returned (.tuple #[.agg (wc (dropAll f (suchL f (fun c => (c : Int) == x || (c : Int) == y) 32))).toArray, v]) ∧
      w'.ownsRow w.heap.size 3 1 v (suchL f (fun c => (c : Int) == x || (c : Int) == y) 32).length (natInts (suchL f (fun c => (c : Int) == x || (c : Int) == y) 32)) ∧ Keeps w w' := by
  have hz := zero32
  have hmk : ∀ W : World, W = (w.alloc (.cells (wc f).toArray 38)).alloc (.cells zc32.toArray 38) → Blk W w.heap.size 38 (wc f) ∧ Blk W (w.heap.size + 1) 38 zc32 ∧ Keeps w W := by
    rintro W rfl
    exact ⟨(Blk.new _ _ _).alloc _, Blk.at (by simp) rfl, (Keeps.alloc _ _).trans (Keeps.alloc _ _)⟩
  replace hmk := Lib.hid hmk
  obtain ⟨q, hq⟩ : ∃ q : Nat → Bool, q = fun (c : Nat) => (c : Int) == x || (c : Int) == y := ⟨_, rfl⟩
  have hqd : ∀ c : Nat, q c = ((c : Int) == x || (c : Int) == y) := fun c => by rw [hq]
  rw [← hq]
  replace hqd := Lib.hid hqd
  clear hq
  go_enter Tryd.func14, Tryd.ntmps14
  go_upto_region 1 with (fail)
  refine wp_gen (fun W => Blk W w.heap.size 38 (wc f) ∧ Blk W (w.heap.size + 1) 38 zc32 ∧ Keeps w W) (hmk.out _ rfl) ?_
  clear hz hmk
  rintro W ⟨hB0, hR0, hK0⟩
  replace hB0 := Lib.hid hB0
  replace hR0 := Lib.hid hR0
  replace hK0 := Lib.hid hK0
  go_wp2_with fail
  go_loopw [8, 9] (fun ov iv wr => ∃ (k : Nat) (v' : Value), v' = ov ∧ k ≤ 32 ∧ iv = .int .i64 (k : Int) ∧ wr.ownsRow (w.heap.size + 2) 3 1 v' (suchL f q k).length (natInts (suchL f q k)) ∧ Blk wr w.heap.size 38 (wc (dropAll f (suchL f q k))) ∧ Blk wr (w.heap.size + 1) 38 zc32 ∧ Keeps w wr) (fun _ iv _ => 32 - (intOf iv).toNat)
  case atStart => exact ⟨0, _, rfl, by omega, rfl, World.ownsRow_nil _ _ _ _, by rw [show suchL f q 0 = [] from rfl, dropAll_nil]; exact hB0.out, hR0.out, hK0.out⟩
  case round =>
    clear hB0 hR0 hK0
    obtain ⟨k, v, rfl, hk, rfl, hrow, hB, hR, hK⟩ := hrel
    by_cases hlt : k < 32
    · have hltI : (k : Int) < 32 := by omega
      have hk0 : (0 : Int) ≤ (k : Int) := by omega
      have hcell := hB.cellK (wc_get (dropAll f (suchL f q k)) k hlt)
      have hfk : wI (dropAll f (suchL f q k)) k = wI f k := by unfold wI dropAll; rw [suchL_not]; rfl
      rw [hfk] at hcell
      cases hf : f k with
      | none =>
        have hwi : wI f k = -1 := by unfold wI; rw [hf]
        rw [hwi] at hcell
        have hnext := suchL_no (f := f) (q := q) (k := k) (by rw [hf]; rfl)
        replace hnext := Lib.hid hnext
        replace hrow := Lib.hid hrow
        replace hB := Lib.hid hB
        replace hR := Lib.hid hR
        replace hK := Lib.hid hK
        replace hf := Lib.hid hf
        replace hwi := Lib.hid hwi
        replace hfk := Lib.hid hfk
        go_wp2_with fail
        go_roundw
        case rel => exact ⟨k + 1, v, rfl, by omega, by go_num, by rw [hnext.out]; exact hrow.out, by rw [hnext.out]; exact hB.out, hR.out, hK.out⟩
        case measure => (simp [intOf]; try omega)
      | some c =>
        have hwi : wI f k = c := by unfold wI; rw [hf]
        rw [hwi] at hcell
        have hc0 : (0 : Int) ≤ (c : Int) := by omega
        have hqc := hqd.out c
        replace hwi := Lib.hid hwi
        replace hfk := Lib.hid hfk
        cases hqq : q c with
        | false =>
          have hnext := suchL_no (f := f) (q := q) (k := k) (by rw [hf]; exact hqq)
          rw [hqq] at hqc
          have e1 : ((c : Int) == x) = false := by cases h : ((c : Int) == x); rfl; rw [h] at hqc; cases hqc
          have e2 : ((c : Int) == y) = false := by cases h : ((c : Int) == y); rfl; rw [h, Bool.or_true] at hqc; cases hqc
          replace hnext := Lib.hid hnext
          replace hrow := Lib.hid hrow
          replace hB := Lib.hid hB
          replace hR := Lib.hid hR
          replace hK := Lib.hid hK
          replace hf := Lib.hid hf
          replace hqq := Lib.hid hqq
          replace hqc := Lib.hid hqc
          go_wp2_with fail
          go_roundw
          case rel => exact ⟨k + 1, v, rfl, by omega, by go_num, by rw [hnext.out]; exact hrow.out, by rw [hnext.out]; exact hB.out, hR.out, hK.out⟩
          case measure => (simp [intOf]; try omega)
        | true =>
          have hnext := suchL_yes (f := f) (q := q) (k := k) (by rw [hf]; exact hqq)
          have hsl := suchL_le f q k
          rw [hqq] at hqc
          have hsz : w.heap.size + 2 ≤ wr.heap.size := by have := hR.lt; omega
          have hpost : ∀ (g cap : Nat) (w1 : World), w1.ownsRow (w.heap.size + 2) 3 1 (.slice (some ⟨g, 0, none⟩) ((suchL f q k).length + 1) cap) ((suchL f q k).length + 1) (natInts (suchL f q k) ++ [.int .i64 (k : Int)]) → Below (w.heap.size + 2) wr w1 →
              w1.frozen? ⟨w.heap.size, k, none⟩ = false ∧ (w1.cell? ⟨w.heap.size, k, none⟩ = some (.int .i64 (c : Int))) ∧ (w1.setCell ⟨w.heap.size, k, none⟩ (.int .i64 (-1))).ownsRow (w.heap.size + 2) 3 1 (.slice (some ⟨g, 0, none⟩) ((suchL f q k).length + 1) cap) (suchL f q (k + 1)).length (natInts (suchL f q (k + 1))) ∧ Blk (w1.setCell ⟨w.heap.size, k, none⟩ (.int .i64 (-1))) w.heap.size 38 (wc (dropAll f (suchL f q (k + 1)))) ∧ Blk (w1.setCell ⟨w.heap.size, k, none⟩ (.int .i64 (-1))) (w.heap.size + 1) 38 zc32 ∧ Keeps w (w1.setCell ⟨w.heap.size, k, none⟩ (.int .i64 (-1))) := by
            intro g cap w1 ho hb
            have hB1 : Blk w1 w.heap.size 38 (wc (dropAll f (suchL f q k))) := hB.below hb (by omega)
            have hR1 : Blk w1 (w.heap.size + 1) 38 zc32 := hR.below hb (by omega)
            have hK1 : Keeps w w1 := Below.trans hK (Below.mono hb (by omega))
            have h3 := hB1.set k (.int .i64 (-1))
            have h4 := wc_set (dropAll f (suchL f q k)) k none hlt
            simp only at h4
            rw [h4, dropAll_snoc, ← hnext] at h3
            refine ⟨hB1.frozen k, ?_, ?_, h3, hR1.other (by omega) _ _, Chg.keeps (S := fun j => j = w.heap.size) (Chg.setCell k _ rfl) hK1 (fun j hj => by omega)⟩
            · rw [hB1.cellK (wc_get (dropAll f (suchL f q k)) k hlt), hfk.out, hwi.out]
            · rw [hnext, List.length_append, natInts, List.map_append]
              exact row_chg ho (S := fun j => j = w.heap.size) (Chg.setCell k (.int .i64 (-1)) rfl) (fun b hb => by omega) (Nat.le_refl _)
          replace hpost := Lib.hid hpost
          replace hnext := Lib.hid hnext
          replace hf := Lib.hid hf
          replace hqq := Lib.hid hqq
          have hcs : ((c : Int) == x) = true ∨ (((c : Int) == x) = false ∧ ((c : Int) == y) = true) := by
            cases h : ((c : Int) == x)
            · rw [h, Bool.false_or] at hqc; exact .inr ⟨rfl, hqc.symm⟩
            · exact .inl rfl
          replace hqc := Lib.hid hqc
          replace hB := Lib.hid hB
          replace hR := Lib.hid hR
          replace hK := Lib.hid hK
          rcases hcs with e1 | ⟨e1, e2⟩
          all_goals
            go_wp2_with (at_builtin; refine app1 rfl _ _ 29 3 (.int .i64 0) 8 rfl Tryd.underlying29 infoInt rfl (w.heap.size + 2) _ _ _ rfl hrow _ rfl rfl (by unfold maxLen; omega) (by omega) hsz ?_; intro g cap w1 hown' hgrow hbel1; obtain ⟨p1, p2, p3, p4, p5, p6⟩ := hpost.out g cap w1 hown' hbel1; replace p3 := Lib.hid p3; replace p4 := Lib.hid p4; replace p5 := Lib.hid p5; replace p6 := Lib.hid p6; clear hown' hgrow hbel1 hcell)
            go_roundw
            case rel => exact ⟨k + 1, _, rfl, by omega, by go_num, p3.out, p4.out, p5.out, p6.out⟩
            case measure => (simp [intOf]; try omega)
    · obtain rfl : k = 32 := by omega
      have hrow2 := row_base_le hrow (base' := w.heap.size) (by omega)
      have hfin := hR.setRow (wc (dropAll f (suchL f q 32)))
      have hC : Chg (fun j => j = w.heap.size + 1) wr (wr.setRow (w.heap.size + 1) (wc (dropAll f (suchL f q 32))).toArray) := Chg.setRow _ rfl
      have hK2 : Keeps w (wr.setRow (w.heap.size + 1) (wc (dropAll f (suchL f q 32))).toArray) := Chg.keeps hC hK (fun j hj => by omega)
      have hrow3 : (wr.setRow (w.heap.size + 1) (wc (dropAll f (suchL f q 32))).toArray).ownsRow w.heap.size 3 1 v (suchL f q 32).length (natInts (suchL f q 32)) := row_chg hrow hC (fun b hb e => by omega) (by omega)
      replace hB := Lib.hid hB
      replace hR := Lib.hid hR
      replace hfin := Lib.hid hfin
      replace hK2 := Lib.hid hK2
      replace hrow3 := Lib.hid hrow3
      clear hK hrow hrow2 hC
      go_wp2_with (first | (refine loadW hB.out rfl _ rfl rfl ?_) | (refine storeW hR.out (by simp) rfl _ _ rfl rfl rfl rfl ?_))
      refine bodyPost_ret (results_row_slot rfl _ hfin.out rfl _ Tryd.underlying38 rfl 32 size32 (wc_len _)) rfl ⟨v, rfl, hrow3.out, hK2.out⟩
end Go.Proofs.YtacdmiafppmabaaDoor
