/- The document's answer for the waits: Wait. -/
import Derived.Test.YtacdmiafppmabaaDoorRef24b
namespace Go.Proofs.YtacdmiafppmabaaDoor
open Go.RowKit

/-- The boxes of the argument and of the result. -/
structure Box24 (w W : World) (f : WS) : Prop where
  b : Blk W w.heap.size 38 (wc f)
  r : Blk W (w.heap.size + 1) 38 zc32
  k : Keeps w W
theorem Box24.mk' (w : World) (f : WS) : Box24 w ((w.alloc (.cells (wc f).toArray 38)).alloc (.cells zc32.toArray 38)) f := ⟨(Blk.new _ _ _).alloc _, Blk.at (by simp) rfl, (Keeps.alloc _ _).trans (Keeps.alloc _ _)⟩
theorem Box24.keeps {w W W' : World} {f : WS} (h : Box24 w W f) (hk : Keeps W W') : Box24 w W' f := ⟨h.b.keeps hk, h.r.keeps hk, Keeps.trans h.k hk⟩
theorem Box24.fin {w W : World} {f : WS} (h : Box24 w W f) : Blk (W.setRow (w.heap.size + 1) (wc f).toArray) (w.heap.size + 1) 38 (wc f) ∧ Keeps w (W.setRow (w.heap.size + 1) (wc f).toArray) :=
  ⟨h.r.setRow _, Chg.keeps (S := fun j => j = w.heap.size + 1) (Chg.setRow _ rfl) h.k (fun j hj => by omega)⟩
theorem Box24.set {w W : World} {f : WS} (h : Box24 w W f) (a b : Nat) (ha : a < 32) : Box24 w (W.setCell ⟨w.heap.size, a, none⟩ (.int .i64 (b : Int))) (updW f a (some b)) := by
  refine ⟨?_, h.r.other (by omega) _ _, Chg.keeps (S := fun j => j = w.heap.size) (Chg.setCell a _ rfl) h.k (fun j hj => by omega)⟩
  have h3 := h.b.set a (.int .i64 (b : Int))
  have h4 := wc_set f a (some b) ha
  simp only at h4
  rwa [h4] at h3
set_option maxRecDepth 100000 in
set_option maxHeartbeats 1000000 in
theorem rWait_range (f : WS) (a b : Int) (w : World) (h : ¬ (0 ≤ a ∧ a < 32) ∨ ¬ (0 ≤ b ∧ b < 32)) : Calls Tryd.prog 13 #[.agg (wc f).toArray, .int .i64 a, .int .i64 b] w fun e w' => e = .returned (.tuple #[.agg (wc f).toArray, .int .i64 2]) ∧ Keeps w w' := by
  have hz := zero32
  have hmk := Box24.mk' w f
  have h1 := rIs_any a
  have h2 := rIs_any b
  have hcase : decide (0 ≤ a ∧ a < 32) = false ∨ (decide (0 ≤ a ∧ a < 32) = true ∧ decide (0 ≤ b ∧ b < 32) = false) := by
    by_cases ha : 0 ≤ a ∧ a < 32
    · exact .inr ⟨decide_eq_true ha, decide_eq_false (by rcases h with h | h; exact absurd ha h; exact h)⟩
    · exact .inl (decide_eq_false ha)
  generalize decide (0 ≤ a ∧ a < 32) = A at *
  generalize decide (0 ≤ b ∧ b < 32) = B at *
  replace h1 := Lib.hid h1
  replace h2 := Lib.hid h2
  replace hmk := Lib.hid hmk
  clear h
  rcases hcase with rfl | ⟨rfl, rfl⟩
  · go_enter Tryd.func13, Tryd.ntmps13
    go_upto_region 1 with (fail)
    refine wp_gen (fun W => Box24 w W f) hmk.out ?_
    clear hmk hz
    rintro W hB
    replace hB := Lib.hid hB
    have hfin := Lib.hid hB.out.fin
    go_wp2_with fail
    refine (h1.out _).mono ?_
    rintro e w' ⟨rfl, rfl⟩
    go_wp2_with (first | (refine loadW hB.out.b rfl _ rfl rfl ?_) | (refine storeW hB.out.r (by simp) rfl _ _ rfl rfl rfl rfl ?_))
    refine bodyPost_ret (results_row_slot rfl _ hfin.out.1 rfl _ Tryd.underlying38 rfl 32 size32 (wc_len _)) rfl ⟨rfl, hfin.out.2⟩
  · go_enter Tryd.func13, Tryd.ntmps13
    go_upto_region 1 with (fail)
    refine wp_gen (fun W => Box24 w W f) hmk.out ?_
    clear hmk hz
    rintro W hB
    replace hB := Lib.hid hB
    have hfin := Lib.hid hB.out.fin
    go_wp2_with fail
    refine (h1.out _).mono ?_
    rintro e w' ⟨rfl, rfl⟩
    go_wp2_with fail
    refine (h2.out _).mono ?_
    rintro e w' ⟨rfl, rfl⟩
    go_wp2_with (first | (refine loadW hB.out.b rfl _ rfl rfl ?_) | (refine storeW hB.out.r (by simp) rfl _ _ rfl rfl rfl rfl ?_))
    refine bodyPost_ret (results_row_slot rfl _ hfin.out.1 rfl _ Tryd.underlying38 rfl 32 size32 (wc_len _)) rfl ⟨rfl, hfin.out.2⟩
set_option maxRecDepth 100000 in
set_option maxHeartbeats 1000000 in
theorem rWait_twice (f : WS) (a b c : Nat) (w : World) (ha : a < 32) (hb : b < 32) (hf : f a = some c) : Calls Tryd.prog 13 #[.agg (wc f).toArray, .int .i64 (a : Int), .int .i64 (b : Int)] w fun e w' => e = .returned (.tuple #[.agg (wc f).toArray, .int .i64 5]) ∧ Keeps w w' := by
  have hz := zero32
  have hmk := Box24.mk' w f
  have h1 := rIs_yes a ha
  have h2 := rIs_yes b hb
  have hwi : wI f a = c := by unfold wI; rw [hf]
  have hget := wc_get f a ha
  rw [hwi] at hget
  have ha0 : (0 : Int) ≤ (a : Int) := by omega
  have haI : (a : Int) < 32 := by omega
  have hc0 : (0 : Int) ≤ (c : Int) := by omega
  replace h1 := Lib.hid h1
  replace h2 := Lib.hid h2
  replace hmk := Lib.hid hmk
  replace hget := Lib.hid hget
  replace hwi := Lib.hid hwi
  replace hf := Lib.hid hf
  go_enter Tryd.func13, Tryd.ntmps13
  go_upto_region 1 with (fail)
  refine wp_gen (fun W => Box24 w W f) hmk.out ?_
  clear hmk hz
  rintro W hB
  have hcell := hB.b.cellK hget.out
  replace hB := Lib.hid hB
  have hfin := Lib.hid hB.out.fin
  go_wp2_with fail
  refine (h1.out _).mono ?_
  rintro e w' ⟨rfl, rfl⟩
  go_wp2_with fail
  refine (h2.out _).mono ?_
  rintro e w' ⟨rfl, rfl⟩
  go_wp2_with (first | (refine loadW hB.out.b rfl _ rfl rfl ?_) | (refine storeW hB.out.r (by simp) rfl _ _ rfl rfl rfl rfl ?_))
  refine bodyPost_ret (results_row_slot rfl _ hfin.out.1 rfl _ Tryd.underlying38 rfl 32 size32 (wc_len _)) rfl ⟨rfl, hfin.out.2⟩
set_option maxRecDepth 100000 in
set_option maxHeartbeats 2000000 in
/-- One that does not wait: would a circle be closed? -/
theorem rWait_free {f : WS} (hok : WOk f) (a b : Nat) (w : World) (ha : a < 32) (hb : b < 32) (hf : f a = none) : Calls Tryd.prog 13 #[.agg (wc f).toArray, .int .i64 (a : Int), .int .i64 (b : Int)] w fun e w' =>
    e = .returned (if a = b ∨ a ∈ chainW f b then .tuple #[.agg (wc f).toArray, .int .i64 19] else .tuple #[.agg (wc (updW f a (some b))).toArray, .int .i64 0]) ∧ Keeps w w' := by
  have hz := zero32
  have hmk := Box24.mk' w f
  have h1 := rIs_yes a ha
  have h2 := rIs_yes b hb
  have hch := fun W => rChain_any hok (b : Int) W
  have hwi : wI f a = -1 := by unfold wI; rw [hf]
  have hget := wc_get f a ha
  rw [hwi] at hget
  have ha0 : (0 : Int) ≤ (a : Int) := by omega
  have haI : (a : Int) < 32 := by omega
  have hlen := chainI_len hok (b : Int)
  have hD : ((a : Int) == (b : Int) || (castW (chainI f (b : Int))).contains (a : Int)) = decide (a = b ∨ a ∈ chainW f b) := by
    rw [chain_has, Bool.eq_iff_iff]
    simp only [Bool.or_eq_true, beq_iff_eq, decide_eq_true_eq]
    exact ⟨fun h => h.imp (fun h => by omega) id, fun h => h.imp (fun h => by omega) id⟩
  obtain ⟨L, hL⟩ : ∃ L, L = chainI f (b : Int) := ⟨_, rfl⟩
  rw [← hL] at hch hlen hD
  replace h1 := Lib.hid h1
  replace h2 := Lib.hid h2
  replace hmk := Lib.hid hmk
  replace hget := Lib.hid hget
  replace hwi := Lib.hid hwi
  replace hf := Lib.hid hf
  replace hD := Lib.hid hD
  replace hch := Lib.hid hch
  replace hL := Lib.hid hL
  obtain ⟨RV, hRV⟩ : ∃ RV : Value, RV = if a = b ∨ a ∈ chainW f b then .tuple #[.agg (wc f).toArray, .int .i64 19] else .tuple #[.agg (wc (updW f a (some b))).toArray, .int .i64 0] := ⟨_, rfl⟩
  rw [← hRV]
  replace hRV := Lib.hid hRV
  go_enter Tryd.func13, Tryd.ntmps13
  go_upto_region 1 with (fail)
  refine wp_gen (fun W => Box24 w W f) hmk.out ?_
  clear hmk hz
  rintro W hB
  have hcell := hB.b.cellK hget.out
  replace hB := Lib.hid hB
  go_wp2_with fail
  refine (h1.out _).mono ?_
  rintro e w' ⟨rfl, rfl⟩
  go_wp2_with fail
  refine (h2.out _).mono ?_
  rintro e w' ⟨rfl, rfl⟩
  go_wp2_with (refine loadW hB.out.b rfl _ rfl rfl ?_)
  refine (hch.out _).mono ?_
  rintro e W1 ⟨v, rfl, hrow, hK1⟩
  have hB1 := hB.out.keeps hK1
  have hI1 : Ints W1 v (castW L) := by have := slc_of_row hrow; rw [natInts_ints] at this; exact this
  obtain ⟨vq, vcap, hv, _⟩ := slc_of_row hrow
  rw [natInts_len] at hv
  subst hv
  have hLI : (0 : Int) ≤ (L.length : Int) := by omega
  replace hB1 := Lib.hid hB1
  replace hI1 := Lib.hid hI1
  clear hrow hch hB hcell hK1
  go_wp2_with fail
  go_loopw [9, 10] (fun dv iv wr => ∃ j : Nat, j ≤ L.length ∧ iv = .int .i64 (j : Int) ∧ dv = .bool ((a : Int) == (b : Int) || ((castW L).take j).contains (a : Int)) ∧ Keeps W1 wr) (fun _ iv _ => L.length - (intOf iv).toNat)
  case atStart => exact ⟨0, Nat.zero_le _, rfl, by simp, Keeps.refl _⟩
  case round =>
    obtain ⟨j, hj, rfl, rfl, hK⟩ := hrel
    have hBr := hB1.out.keeps hK
    by_cases hlt : j < L.length
    · have hltI := Int.ofNat_lt.2 hlt
      have hj0 : (0 : Int) ≤ (j : Int) := by omega
      have hIr : Ints wr (.slice vq L.length vcap) (castW L) := Slc.below hI1.out hK
      obtain ⟨vq', vc', hv', _, _, hcell⟩ := hIr.open
      obtain ⟨vb, voff, hq', c0⟩ := hcell j (by rw [castW_len]; exact hlt)
      simp only [Value.slice.injEq] at hv'
      obtain rfl : vq = some ⟨vb, voff, none⟩ := hv'.1.trans hq'
      have hnext : ((castW L).take (j + 1)).contains (a : Int) = (((castW L).take j).contains (a : Int) || ((castW L)[j]'(by rw [castW_len]; exact hlt) == (a : Int))) := by
        rw [List.take_succ_eq_append_getElem (by rw [castW_len]; exact hlt), List.contains_append]
        congr 1
        simp only [List.contains_cons, List.contains_nil, Bool.or_false]
        rw [Bool.eq_iff_iff]; simp only [beq_iff_eq]; exact ⟨Eq.symm, Eq.symm⟩
      generalize (castW L)[j]'(by rw [castW_len]; exact hlt) = z at *
      obtain ⟨D, hDD⟩ : ∃ D, D = ((a : Int) == (b : Int) || ((castW L).take j).contains (a : Int)) := ⟨_, rfl⟩
      rw [← hDD]
      have hnext2 : ((a : Int) == (b : Int) || ((castW L).take (j + 1)).contains (a : Int)) = (D || (z == (a : Int))) := by rw [hnext, hDD, Bool.or_assoc]
      replace hnext2 := Lib.hid hnext2
      replace hBr := Lib.hid hBr
      replace hDD := Lib.hid hDD
      clear hcell hv' hq' hnext hIr
      cases D with
      | true =>
        go_wp2_with fail
        go_roundw
        case rel => exact ⟨j + 1, by omega, by go_num, by rw [hnext2.out, Bool.true_or], hK⟩
        case measure => (simp [intOf]; try omega)
      | false =>
        go_wp2_with fail
        go_roundw
        case rel => exact ⟨j + 1, by omega, by go_num, by rw [hnext2.out, Bool.false_or], hK⟩
        case measure => (simp [intOf]; try omega)
    · obtain rfl : j = L.length := by omega
      rw [List.take_of_length_le (by rw [castW_len]; exact Nat.le_refl _), hD.out]
      have hB4 := hBr.set a b ha
      have hfr := hBr.b.frozen a
      have hcell := hBr.b.cellK hget.out
      have hf0 := hBr.fin
      have hf1 := hB4.fin
      replace hBr := Lib.hid hBr
      replace hB4 := Lib.hid hB4
      replace hf0 := Lib.hid hf0
      replace hf1 := Lib.hid hf1
      by_cases hd : a = b ∨ a ∈ chainW f b
      · have hdd : decide (a = b ∨ a ∈ chainW f b) = true := decide_eq_true hd
        have hR : RV = .tuple #[.agg (wc f).toArray, .int .i64 19] := by rw [hRV.out, if_pos hd]
        rw [hdd]
        replace hd := Lib.hid hd
        clear hRV
        replace hR := Lib.hid hR
        clear hcell
        go_wp2_with (first | (refine loadW hBr.out.b rfl _ rfl rfl ?_) | (refine storeW hBr.out.r (by simp) rfl _ _ rfl rfl rfl rfl ?_))
        refine bodyPost_ret (results_row_slot rfl _ hf0.out.1 rfl _ Tryd.underlying38 rfl 32 size32 (wc_len _)) rfl ⟨by rw [hR.out]; rfl, hf0.out.2⟩
      · have hdd : decide (a = b ∨ a ∈ chainW f b) = false := decide_eq_false hd
        have hR : RV = .tuple #[.agg (wc (updW f a (some b))).toArray, .int .i64 0] := by rw [hRV.out, if_neg hd]
        rw [hdd]
        replace hd := Lib.hid hd
        clear hRV
        replace hR := Lib.hid hR
        go_wp2_with (first | (refine loadW hB4.out.b rfl _ rfl rfl ?_) | (refine storeW hB4.out.r (by simp) rfl _ _ rfl rfl rfl rfl ?_))
        refine bodyPost_ret (results_row_slot rfl _ hf1.out.1 rfl _ Tryd.underlying38 rfl 32 size32 (wc_len _)) rfl ⟨by rw [hR.out]; rfl, hf1.out.2⟩
end Go.Proofs.YtacdmiafppmabaaDoor
