/- Wait. -/
import Derived.Test.YtacdmiafppmabaaDoorWaitC
namespace Go.Proofs.YtacdmiafppmabaaDoor
open Go.RowKit

theorem eqMapN (w : World) : (binOp BinOp.eql 23 (.map none) (.map none)).run Tryd.prog w = .ok (.bool true) w := by kernel_rfl
theorem eqMapS (b : Nat) (w : World) : (binOp BinOp.eql 23 (.map (some b)) (.map none)).run Tryd.prog w = .ok (.bool false) w := by kernel_rfl
set_option maxHeartbeats 400000 in
theorem wait_nil (a b : Int) (w : World) : Calls Tryd.prog 10 #[.pointer none, .int .i64 a, .int .i64 b] w fun e w' => e = .returned (.int .i64 6) ∧ w = w' := by
  go_enter Tryd.func10, Tryd.ntmps10
  go_wp2
  go_ret
  exact ⟨rfl, rfl⟩
section
variable {p n : Nat} {bo : Option Nat} {f : WS} {w : World}
set_option maxHeartbeats 1000000 in
theorem wait_range (a b : Int) (h : ¬ (0 ≤ a ∧ a < 32) ∨ ¬ (0 ≤ b ∧ b < 32)) : Calls Tryd.prog 10 #[.pointer (some ⟨p, 0, none⟩), .int .i64 a, .int .i64 b] w fun e w' => e = .returned (.int .i64 2) ∧ w = w' := by
  have h1 := isCtx_any a
  have h2 := isCtx_any b
  have hcase : decide (0 ≤ a ∧ a < 32) = false ∨ (decide (0 ≤ a ∧ a < 32) = true ∧ decide (0 ≤ b ∧ b < 32) = false) := by
    by_cases ha : 0 ≤ a ∧ a < 32
    · exact .inr ⟨decide_eq_true ha, decide_eq_false (by rcases h with h | h; exact absurd ha h; exact h)⟩
    · exact .inl (decide_eq_false ha)
  generalize decide (0 ≤ a ∧ a < 32) = A at *
  generalize decide (0 ≤ b ∧ b < 32) = B at *
  replace h1 := Lib.hid h1
  replace h2 := Lib.hid h2
  clear h
  rcases hcase with rfl | ⟨rfl, rfl⟩
  · go_enter Tryd.func10, Tryd.ntmps10
    go_wp2_with fail
    refine (h1.out _).mono ?_
    rintro e w' ⟨rfl, rfl⟩
    go_wp2_with fail
    go_ret
    exact ⟨rfl, rfl⟩
  · go_enter Tryd.func10, Tryd.ntmps10
    go_wp2_with fail
    refine (h1.out _).mono ?_
    rintro e w' ⟨rfl, rfl⟩
    go_wp2_with fail
    refine (h2.out _).mono ?_
    rintro e w' ⟨rfl, rfl⟩
    go_wp2_with fail
    go_ret
    exact ⟨rfl, rfl⟩
theorem isCtx_yes (a : Nat) (h : a < 32) (w : World) : Calls Tryd.prog 27 #[.int .i64 (a : Int)] w fun e w' => e = .returned (.bool true) ∧ w = w' := by
  have := isCtx_any (a : Int) w
  rwa [show decide ((0 : Int) ≤ a ∧ (a : Int) < 32) = true from decide_eq_true ⟨by omega, by omega⟩] at this
set_option maxHeartbeats 1000000 in
theorem wait_twice (hA : WaitsAt w p bo n f) (a b c : Nat) (ha : a < 32) (hb : b < 32) (hf : f a = some c) : Calls Tryd.prog 10 #[.pointer (some ⟨p, 0, none⟩), .int .i64 (a : Int), .int .i64 (b : Int)] w fun e w' => e = .returned (.int .i64 5) ∧ w = w' := by
  have h1 := isCtx_yes a ha
  have h2 := isCtx_yes b hb
  have hfo := for_any hA (a : Int) ⟨by omega, by omega⟩
  rw [(whom_some hf).1, (whom_some hf).2] at hfo
  replace h1 := Lib.hid h1
  replace h2 := Lib.hid h2
  replace hfo := Lib.hid hfo
  clear hA hf
  go_enter Tryd.func10, Tryd.ntmps10
  go_wp2_with fail
  refine (h1.out _).mono ?_
  rintro e w' ⟨rfl, rfl⟩
  go_wp2_with fail
  refine (h2.out _).mono ?_
  rintro e w' ⟨rfl, rfl⟩
  go_wp2_with fail
  refine hfo.out.mono ?_
  rintro e w' ⟨rfl, rfl⟩
  go_wp2_with fail
  go_ret
  exact ⟨rfl, rfl⟩
theorem chain_has {a b : Nat} {f : WS} : (castW (chainI f (b : Int))).contains (a : Int) = decide (a ∈ chainW f b) := by
  rw [chainI_nat]
  rw [Bool.eq_iff_iff]
  simp only [List.contains_iff_mem, decide_eq_true_eq, castW, List.mem_map]
  exact ⟨fun ⟨x, hx, e⟩ => by have e2 : x = a := by omega
                              subst e2; exact hx, fun h => ⟨a, h, rfl⟩⟩
set_option maxHeartbeats 1000000 in
theorem wait_dead (hA : WaitsAt w p bo n f) (a b : Nat) (ha : a < 32) (hb : b < 32) (hf : f a = none) (hd : a = b ∨ a ∈ chainW f b) : Calls Tryd.prog 10 #[.pointer (some ⟨p, 0, none⟩), .int .i64 (a : Int), .int .i64 (b : Int)] w fun e w' => e = .returned (.int .i64 19) ∧ Keeps w w' := by
  have h1 := isCtx_yes a ha
  have h2 := isCtx_yes b hb
  have hfo := for_any hA (a : Int) ⟨by omega, by omega⟩
  rw [(whom_none hf).1, (whom_none hf).2] at hfo
  have hch := chain_any hA (b : Int) ⟨by omega, by omega⟩
  replace h1 := Lib.hid h1
  replace h2 := Lib.hid h2
  replace hfo := Lib.hid hfo
  replace hch := Lib.hid hch
  by_cases hab : a = b
  · subst hab
    clear hA hf hd
    go_enter Tryd.func10, Tryd.ntmps10
    go_wp2_with fail
    refine (h1.out _).mono ?_
    rintro e w' ⟨rfl, rfl⟩
    go_wp2_with fail
    refine (h2.out _).mono ?_
    rintro e w' ⟨rfl, rfl⟩
    go_wp2_with fail
    refine hfo.out.mono ?_
    rintro e w' ⟨rfl, rfl⟩
    go_wp2_with fail
    go_ret
    exact ⟨rfl, Keeps.refl _⟩
  · have hin : a ∈ chainW f b := by rcases hd with hd | hd; exact absurd hd hab; exact hd
    have habI : ((a : Int) == (b : Int)) = false := by rw [beq_eq_false_iff_ne]; omega
    have hcc := @chain_has a b f
    rw [decide_eq_true hin] at hcc
    replace hcc := Lib.hid hcc
    replace hin := Lib.hid hin
    replace hab := Lib.hid hab
    clear hA hf hd
    go_enter Tryd.func10, Tryd.ntmps10
    go_wp2_with fail
    refine (h1.out _).mono ?_
    rintro e w' ⟨rfl, rfl⟩
    go_wp2_with fail
    refine (h2.out _).mono ?_
    rintro e w' ⟨rfl, rfl⟩
    go_wp2_with fail
    refine hfo.out.mono ?_
    rintro e w' ⟨rfl, rfl⟩
    go_wp2_with fail
    refine hch.out.mono ?_
    rintro e w1 ⟨v, rfl, hrow, hK⟩
    have hco := contains_any (castW (chainI f (b : Int))) v (a : Int) w1 (by have := slc_of_row hrow; rw [natInts_ints] at this; exact this)
    rw [hcc.out] at hco
    replace hco := Lib.hid hco
    replace hK := Lib.hid hK
    obtain ⟨vq, vcap, hv, _⟩ := slc_of_row hrow
    rw [natInts_len] at hv
    subst hv
    clear hrow hch
    go_wp2_with fail
    refine hco.out.mono ?_
    rintro e w' ⟨rfl, rfl⟩
    go_wp2_with fail
    go_ret
    exact ⟨rfl, hK.out⟩
set_option maxHeartbeats 2000000 in
theorem wait_ok (hA : WaitsAt w p bo n f) (a b : Nat) (ha : a < 32) (hb : b < 32) (hf : f a = none) (hab : a ≠ b) (hin : a ∉ chainW f b) (hn : n < maxLen) : Calls Tryd.prog 10 #[.pointer (some ⟨p, 0, none⟩), .int .i64 (a : Int), .int .i64 (b : Int)] w fun e w' => e = .returned (.int .i64 0) ∧
    ∃ bo', WaitsAt w' p bo' (n + 1) (updW f a (some b)) ∧ Chg (WF p bo) w w' ∧ ∀ k, WF p bo' k → WF p bo k ∨ w.heap.size ≤ k := by
  have h1 := isCtx_yes a ha
  have h2 := isCtx_yes b hb
  have hfo := for_any hA (a : Int) ⟨by omega, by omega⟩
  rw [(whom_none hf).1, (whom_none hf).2] at hfo
  have hch := chain_any hA (b : Int) ⟨by omega, by omega⟩
  have habI : ((a : Int) == (b : Int)) = false := by rw [beq_eq_false_iff_ne]; omega
  have hcc := @chain_has a b f
  rw [decide_eq_false hin] at hcc
  have hok := hA.ok.add ha hb hf hab hin
  replace h1 := Lib.hid h1
  replace h2 := Lib.hid h2
  replace hfo := Lib.hid hfo
  replace hch := Lib.hid hch
  replace hcc := Lib.hid hcc
  replace hin := Lib.hid hin
  replace hab := Lib.hid hab
  replace hf := Lib.hid hf
  replace hA := Lib.hid hA
  replace hok := Lib.hid hok
  go_enter Tryd.func10, Tryd.ntmps10
  go_wp2_with fail
  refine (h1.out _).mono ?_
  rintro e w' ⟨rfl, rfl⟩
  go_wp2_with fail
  refine (h2.out _).mono ?_
  rintro e w' ⟨rfl, rfl⟩
  go_wp2_with fail
  refine hfo.out.mono ?_
  rintro e w' ⟨rfl, rfl⟩
  go_wp2_with fail
  refine hch.out.mono ?_
  rintro e w1 ⟨v, rfl, hrow, hK⟩
  have hco := contains_any (castW (chainI f (b : Int))) v (a : Int) w1 (by have := slc_of_row hrow; rw [natInts_ints] at this; exact this)
  rw [hcc.out] at hco
  have hA1 := hA.out.keeps hK
  have hc0 := hA1.cell
  have hfr := hA1.hdr.frozen 0
  have hsz := hK.size
  have hpl := hA.out.lt p (.inl rfl)
  replace hco := Lib.hid hco
  replace hK := Lib.hid hK
  obtain ⟨vq, vcap, hv, _⟩ := slc_of_row hrow
  rw [natInts_len] at hv
  subst hv
  clear hrow hch
  have hen := eqMapN
  have hes := eqMapS
  cases bo with
  | some bm =>
    obtain ⟨w2, hrun, hm2, hc2⟩ := hA1.map.2.put hn ha hb
    have hne := hA1.map.1
    have hA2 : WaitsAt w2 p (some bm) (n + 1) (updW f a (some b)) := ⟨hA1.hdr.chg hc2 (fun e => hne e.symm), ⟨hne, hm2⟩, hok.out⟩
    have hC : Chg (WF p (some bm)) w w2 := (Chg.of_keeps hK.out).trans (hc2.mono fun k _ hk => .inr (by rw [hk]))
    replace hA2 := Lib.hid hA2
    replace hC := Lib.hid hC
    clear hA1 hm2 hc2 hne hsz hpl
    go_wp2_with fail
    refine hco.out.mono ?_
    rintro e w' ⟨rfl, rfl⟩
    go_wp2_with fail
    go_ret
    exact ⟨rfl, some bm, hA2.out, hC.out, fun k hk => .inl hk⟩
  | none =>
    have hmm := @run_makeMap Tryd.prog
    obtain ⟨B, hB⟩ : ∃ B, B = w1.heap.size := ⟨_, rfl⟩
    have hf0 : f = wnone := hA1.map
    have hA2 : WaitsAt ((w1.alloc (.map #[] 0)).setCell ⟨p, 0, none⟩ (.map (some B))) p (some B) n f := by
      refine ⟨(hA1.hdr.alloc _).set 0 _, ⟨by omega, ?_⟩, hA.out.ok⟩
      rw [hf0, hB]
      exact ((MapOf.made w1).mono (Nat.zero_le _)).same (Below.heap_setCell _ ⟨p, 0, none⟩ _ _ (by simp only [ne_eq]; omega))
    have hC2 : Chg (WF p none) w ((w1.alloc (.map #[] 0)).setCell ⟨p, 0, none⟩ (.map (some B))) := (Chg.of_keeps (Keeps.trans hK.out (Keeps.alloc _ _))).trans (Chg.setCell 0 _ (.inl rfl))
    have hwB : w.heap.size ≤ B := by omega
    have hc9 := (hA1.hdr.alloc (.map #[] 0)).cell 0 (by simp)
    simp only [List.getElem_cons_zero] at hc9
    have hfr9 := (hA1.hdr.alloc (.map #[] 0)).frozen 0
    replace hA2 := Lib.hid hA2
    replace hC2 := Lib.hid hC2
    replace hB := Lib.hid hB
    clear hA1 hf0 hsz
    go_wp2_with fail
    refine hco.out.mono ?_
    rintro e w' ⟨rfl, rfl⟩
    go_upto_region 12 with (fail)
    rw [← hB.out]
    refine wp_gen (fun W => WaitsAt W p (some B) n f ∧ Chg (WF p none) w W) ⟨hA2.out, hC2.out⟩ ?_
    clear hA2 hC2 hB hc0 hfr hco hc9 hfr9
    rintro W ⟨hA2, hC2⟩
    have hc0 := hA2.cell
    obtain ⟨w2, hrun, hm2, hc2⟩ := hA2.map.2.put hn ha hb
    have hne := hA2.map.1
    have hA3 : WaitsAt w2 p (some B) (n + 1) (updW f a (some b)) := ⟨hA2.hdr.chg hc2 (fun e => hne e.symm), ⟨hne, hm2⟩, hok.out⟩
    have hC3 : Chg (WF p none) w w2 := ⟨hc2.os.trans hC2.os, hc2.tape.trans hC2.tape, hc2.output.trans hC2.output, Nat.le_trans hC2.size hc2.size, fun k hk hn => (hc2.block k (Nat.lt_of_lt_of_le hk hC2.size) (by omega)).trans (hC2.block k hk hn)⟩
    replace hA3 := Lib.hid hA3
    replace hC3 := Lib.hid hC3
    clear hA2 hC2 hm2 hc2 hne
    go_wp2_with fail
    go_ret
    exact ⟨rfl, some B, hA3.out, hC3.out, fun k hk => by
      rcases hk with hk | hk
      · exact .inl (.inl hk)
      · refine .inr ?_
        have := Option.some.inj hk; omega⟩
end
end Go.Proofs.YtacdmiafppmabaaDoor
