/- The laws of layer 10: known, ScanNil. -/
import Derived.Test.YtpncnddlmlciaaaDoorScanC
namespace Go.Proofs.YtpncnddlmlciaaaDoor
open Go.RowKit Go.Shelf

theorem ScanAt.resect {w w' : World} {x p : Nat} {S S2 : SSt} {c : ScSt} (h : ScanAt w x p S c) (hC : Chg (· = p) w w') (hS : SectAt w' p S2) : ScanAt w' x p S2 c := ⟨h.hdr.chg hC h.ne, hS, h.ok, h.ne⟩

set_option maxRecDepth 100000 in
set_option maxHeartbeats 4000000 in
theorem known10_any (w : World) (hT : TabAt w) :
    Calls Tryd.prog 15 #[] w fun e w' => e = .returned (.bool true) ∧ Keeps w w' := by
  have hz := zeroSect
  replace hT := Lib.hid hT
  go_enter Tryd.func15, Tryd.ntmps15
  go_upto_region 2 with (fail)
  refine wp_gen (fun W => SectAt W w.heap.size .init ∧ Keeps w W) ⟨sect_new w, Keeps.alloc _ _⟩ ?_
  clear hz
  rintro W1 ⟨hS, hK⟩
  generalize hp : w.heap.size = p at *
  have hkD : ∀ (W W' : World), Keeps w W → Chg (· = p) W W' → Keeps w W' := fun W W' hk hc => Chg.keeps hc hk (fun k hk => by omega)
  have hplt := hS.hdr.lt
  have h35 := enters_any (hS.keeps (Keeps.alloc W1 (.cells #[.int .i64 3, .int .i64 5] 3))) (.slice (some ⟨W1.heap.size, 0, none⟩) 2 2) [3, 5] (ints_at W1 3 [3, 5] _ rfl (by decide)) (fun b hb _ => by
    simp only [Value.ownBlock, Option.some.injEq] at hb; omega) (by decide)
  replace hkD := Lib.hid hkD
  replace h35 := Lib.hid h35
  replace hK := Lib.hid hK
  replace hp := Lib.hid hp
  clear hS
  go_wp2_with fail
  refine h35.out.mono ?_
  rintro e w2 ⟨rfl, hS, hC⟩
  replace hK := Lib.hid (hkD.out _ _ (Keeps.trans hK.out (Keeps.alloc _ _)) hC)
  have hsc := scNew_any hS
  have hws := hK.out.size
  obtain ⟨x, hxe⟩ : ∃ x, x = w2.heap.size := ⟨_, rfl⟩
  rw [← hxe] at hsc hws
  have hkX : ∀ (W W' : World), Keeps w W → Chg (· = x) W W' → Keeps w W' := fun W W' hk hc => Chg.keeps hc hk (fun k hk => by omega)
  replace hkX := Lib.hid hkX
  replace hsc := Lib.hid hsc
  clear hC h35 hS hplt hxe
  go_wp2_with fail
  refine hsc.out.mono ?_
  rintro e w3 ⟨rfl, hX, hK3⟩
  replace hK := Lib.hid (Keeps.trans hK.out hK3)
  have hex := exit_any hX.sect 3
  replace hex := Lib.hid hex
  replace hX := Lib.hid hX
  clear hK3 hsc
  go_wp2_with fail
  refine hex.out.mono ?_
  rintro e w4 ⟨rfl, hS, hC⟩
  replace hX := Lib.hid (hX.out.resect hC hS)
  replace hK := Lib.hid (hkD.out _ _ hK.out hC)
  have hen := enterOne hX.out.sect (by decide) 3
  replace hen := Lib.hid hen
  clear hC hS hex
  go_wp2_with fail
  refine hen.out.mono ?_
  rintro e w5 ⟨rfl, hS, hC⟩
  replace hX := hX.out.resect hC hS
  replace hK := Lib.hid (hkD.out _ _ hK.out hC)
  have hpo := poll_any hX (hT.out.keeps hK.out) 1
  clear hC hS hen
  generalize hS3 : (((SSt.init.ents [3, 5]).1.exi 3).ent 3) = S3 at *
  generalize hc0 : (ScSt.mk (SSt.init.ents [3, 5]).1.m (SSt.init.ents [3, 5]).1.st 0) = c0 at *
  have hc1 : poll S3 c0 1 = ⟨32, 2, 4⟩ := by rw [← hS3, ← hc0]; kernel_rfl
  rw [hc1] at hpo
  have hc2 : poll S3 ⟨32, 2, 4⟩ 1 = ⟨32, 2, 6⟩ := by rw [← hS3]; kernel_rfl
  replace hpo := Lib.hid hpo
  replace hc2 := Lib.hid hc2
  clear hX hS3 hc0 hc1
  go_wp2_with fail
  refine hpo.out.mono ?_
  rintro e w6 ⟨rfl, hX, hC⟩
  replace hK := Lib.hid (hkX.out _ _ hK.out hC)
  rw [show lenN (ScSt.mk 32 2 4).left = 1 by decide]
  have hpl := place_any hX
  have hpo2 := poll_any hX (hT.out.keeps hK.out) 1
  rw [hc2.out] at hpo2
  replace hpl := Lib.hid hpl
  replace hpo2 := Lib.hid hpo2
  clear hX hC hpo hc2
  go_wp2_with fail
  refine hpl.out.mono ?_
  rintro e w7 ⟨rfl, rfl⟩
  go_wp2_with fail
  refine hpo2.out.mono ?_
  rintro e w8 ⟨rfl, hX, hC⟩
  replace hK := Lib.hid (hkX.out _ _ hK.out hC)
  rw [show lenN (ScSt.mk 32 2 6).left = 1 by decide]
  have hpl := place_any hX
  have hle := left_any hX
  have hdo := done_any hX
  replace hpl := Lib.hid hpl
  replace hle := Lib.hid hle
  replace hdo := Lib.hid hdo
  clear hX hC hpo2
  go_wp2_with fail
  refine hpl.out.mono ?_
  rintro e w9 ⟨rfl, rfl⟩
  go_wp2_with fail
  refine hle.out.mono ?_
  rintro e w9 ⟨rfl, rfl⟩
  go_wp2_with fail
  refine hdo.out.mono ?_
  rintro e w9 ⟨rfl, rfl⟩
  go_wp2_with fail
  go_ret
  exact ⟨rfl, hK.out⟩

/-! ### Nil -/
theorem hasN_zeroS (r : Int) : hasN 0 r = false := by simp [hasN]
set_option maxRecDepth 100000 in
set_option maxHeartbeats 1000000 in
theorem look_zero {w : World} {x : Nat} (c1 : w.cell? ⟨x, 1, none⟩ = some (.int .u64 0)) (r : Int) :
    Calls Tryd.prog 37 #[.pointer (some ⟨x, 0, none⟩), .int .i64 r] w fun e w' => e = .returned (.bool false) ∧ Keeps w w' := by
  have hhas : ∀ y : After w, Calls Tryd.prog 49 #[.int .u64 0, .int .i64 r] y.now fun e w' => e = .returned (.bool false) ∧ ∃ z : After w, w' = z.now := fun y => by
    have := has_any 0 r y.now (by decide)
    rw [hasN_zeroS] at this
    exact After.same y this
  have x1 := After.cell c1
  replace hhas := Lib.hid hhas
  go_enter Tryd.func37, Tryd.ntmps37
  go_wp2_with fail
  refine region_after (by kernel_rfl) (by kernel_rfl) ?_
  repeat go_big_quiet_step (with_reducible exact hhas.out _)
  refine wpQuiet_nil ?_
  rintro W2 ⟨⟨_, hK2⟩, rfl⟩
  replace hK2 := Lib.hid hK2
  clear hhas x1
  go_wp2_with fail
  go_ret
  exact ⟨rfl, hK2.out⟩
set_option maxRecDepth 100000 in
set_option maxHeartbeats 1000000 in
theorem quiet_zero {w : World} (q : Option Addr) (r : Int) (hq : q = none ∨ ∃ x, q = some ⟨x, 0, none⟩ ∧ w.cell? ⟨x, 1, none⟩ = some (.int .u64 0)) :
    Calls Tryd.prog 23 #[.pointer q, .slice (some ⟨w.heap.size, 0, none⟩) 1 1] (w.alloc (.cells #[.int .i64 r] 3)) fun e w' => e = .returned (.int .i64 0) ∧ Keeps w w' := by
  have hB := Blk.new w 3 [.int .i64 r]
  have hK0 := Keeps.alloc w (.cells #[.int .i64 r] 3)
  have hlk : ∀ x, q = some ⟨x, 0, none⟩ → ∀ W, Keeps w W → Calls Tryd.prog 37 #[.pointer (some ⟨x, 0, none⟩), .int .i64 r] W fun e w' => e = .returned (.bool false) ∧ Keeps W w' := by
    intro x e W hk
    rcases hq with h | ⟨x', h, hc⟩
    · rw [h] at e; cases e
    · rw [h] at e; simp at e; subst e
      exact look_zero ((hk.cell (p := ⟨x', 1, none⟩) (cell_lt hc)).trans hc) r
  have hqq : q = none ∨ ∃ x, q = some ⟨x, 0, none⟩ := by
    rcases hq with h | ⟨x, h, _⟩
    · exact .inl h
    · exact .inr ⟨x, h⟩
  replace hB := Lib.hid hB
  replace hK0 := Lib.hid hK0
  replace hlk := Lib.hid hlk
  clear hq
  rcases hqq with rfl | ⟨x, rfl⟩
  · go_enter Tryd.func23, Tryd.ntmps23
    go_wp2_with fail
    go_loopw [5, 10] (fun n i wr => ∃ k : Nat, k ≤ 1 ∧ i = .int .i64 k ∧ n = .int .i64 0 ∧ Keeps w wr ∧ Blk wr w.heap.size 3 [.int .i64 r]) (fun _ i _ => 1 - (intOf i).toNat)
    case atStart => exact ⟨0, Nat.zero_le _, rfl, rfl, hK0.out, hB.out⟩
    case round =>
      obtain ⟨k, hk, rfl, rfl, hK, hBr⟩ := hrel
      have hk01 : k = 0 ∨ k = 1 := by omega
      have c0 := hBr.cell 0 (by simp)
      simp only [List.getElem_cons_zero] at c0
      replace hK := Lib.hid hK
      replace hBr := Lib.hid hBr
      rcases hk01 with rfl | rfl
      · go_wp2_with fail
        go_roundw
        case rel => exact ⟨1, by omega, rfl, rfl, hK.out, hBr.out⟩
        case measure => (simp [intOf]; try omega)
      · go_wp2_with fail
        go_ret
        exact ⟨rfl, hK.out⟩
  · replace hlk := Lib.hid (hlk.out x rfl)
    go_enter Tryd.func23, Tryd.ntmps23
    go_wp2_with fail
    go_loopw [5, 10] (fun n i wr => ∃ k : Nat, k ≤ 1 ∧ i = .int .i64 k ∧ n = .int .i64 0 ∧ Keeps w wr ∧ Blk wr w.heap.size 3 [.int .i64 r]) (fun _ i _ => 1 - (intOf i).toNat)
    case atStart => exact ⟨0, Nat.zero_le _, rfl, rfl, hK0.out, hB.out⟩
    case round =>
      obtain ⟨k, hk, rfl, rfl, hK, hBr⟩ := hrel
      have hk01 : k = 0 ∨ k = 1 := by omega
      have c0 := hBr.cell 0 (by simp)
      simp only [List.getElem_cons_zero] at c0
      have hl := hlk.out wr hK
      replace hl := Lib.hid hl
      replace hK := Lib.hid hK
      replace hBr := Lib.hid hBr
      rcases hk01 with rfl | rfl
      · go_wp2_with fail
        refine hl.out.mono ?_
        rintro e w2 ⟨rfl, hK2⟩
        replace hK2 := Lib.hid hK2
        go_wp2_with fail
        go_roundw
        case rel => exact ⟨1, by omega, rfl, rfl, Keeps.trans hK.out hK2.out, hBr.out.keeps hK2.out⟩
        case measure => (simp [intOf]; try omega)
      · go_wp2_with fail
        go_ret
        exact ⟨rfl, hK.out⟩
set_option maxRecDepth 100000 in
set_option maxHeartbeats 1000000 in
theorem poll_zero {w : World} {x : Nat} (c1 : w.cell? ⟨x, 1, none⟩ = some (.int .u64 0)) (n : Int) :
    Calls Tryd.prog 14 #[.pointer (some ⟨x, 0, none⟩), .int .i64 n] w fun e w' => e = .returned (.int .i64 0) ∧ w = w' := by
  have hle := len_any 0 w (by decide)
  rw [show lenN 0 = 0 by decide] at hle
  replace hle := Lib.hid hle
  by_cases h1 : n ≤ 0
  all_goals
    go_enter Tryd.func14, Tryd.ntmps14
    go_wp2_with fail
    go_step3
    go_wp2_with fail
    refine hle.out.mono ?_
    rintro e w' ⟨rfl, rfl⟩
    go_wp2_with fail
    go_step3
    go_wp2_with fail
    go_loopw [5] (fun i wr => i = .int .i64 0 ∧ w = wr) (fun i _ => 0)
    case atStart => exact ⟨rfl, rfl⟩
    case round =>
      obtain ⟨rfl, rfl⟩ := hrel
      go_wp2_with fail
      refine hle.out.mono ?_
      rintro e w3 ⟨rfl, rfl⟩
      go_wp2_with fail
      rw [Exit.noGoto_ret]
      go_ret
      exact ⟨rfl, rfl⟩

set_option maxRecDepth 100000 in
set_option maxHeartbeats 2000000 in
theorem lawScanNil_any (n : Int) (w : World) (hT : TabAt w) :
    Calls Tryd.prog 5 #[.int .i64 n] w fun e w' => e = .returned (.bool true) ∧ Keeps w w' := by
  replace hT := Lib.hid hT
  go_enter Tryd.func5, Tryd.ntmps5
  go_wp2_with fail
  refine (scNew_nil _).mono ?_
  rintro e w1 ⟨rfl, hB, hK⟩
  replace hB := Lib.hid hB
  replace hK := Lib.hid hK
  generalize w.heap.size = y at *
  go_wp2_with fail
  refine (known10_any _ (hT.out.keeps hK.out)).mono ?_
  rintro e w2 ⟨rfl, hK2⟩
  replace hB := Lib.hid (hB.out.keeps hK2)
  replace hK := Lib.hid (Keeps.trans hK.out hK2)
  clear hK2
  go_wp2_with fail
  refine (poll_nil n _).mono ?_
  rintro e w3 ⟨rfl, rfl⟩
  go_wp2_with fail
  refine (quiet_zero none n (.inl rfl)).mono ?_
  rintro e w3 ⟨rfl, hK2⟩
  replace hB := Lib.hid (hB.out.keeps hK2)
  replace hK := Lib.hid (Keeps.trans hK.out hK2)
  clear hK2
  go_wp2_with fail
  refine (left_nil _).mono ?_
  rintro e w4 ⟨rfl, rfl⟩
  go_wp2_with fail
  refine (done_nil _).mono ?_
  rintro e w4 ⟨rfl, rfl⟩
  go_wp2_with fail
  refine (began_nil _).mono ?_
  rintro e w4 ⟨rfl, rfl⟩
  go_wp2_with fail
  refine (place_nil _).mono ?_
  rintro e w4 ⟨rfl, rfl⟩
  have hpo := poll_zero (hB.out.cell 1 (by simp)) n
  replace hpo := Lib.hid hpo
  go_wp2_with fail
  refine hpo.out.mono ?_
  rintro e w4 ⟨rfl, rfl⟩
  clear hpo
  have hqu := quiet_zero (some ⟨y, 0, none⟩) n (.inr ⟨y, rfl, hB.out.cell 1 (by simp)⟩)
  replace hqu := Lib.hid hqu
  go_wp2_with fail
  refine hqu.out.mono ?_
  rintro e w4 ⟨rfl, hK2⟩
  replace hB := Lib.hid (hB.out.keeps hK2)
  replace hK := Lib.hid (Keeps.trans hK.out hK2)
  clear hK2 hqu
  have hle := left_cell (m := 0) (hB.out.cell 1 (by simp))
  have hdo := done_cell (m := 0) (hB.out.cell 1 (by simp))
  have hbe := began_cell (m := 0) (hB.out.cell 2 (by simp))
  replace hle := Lib.hid hle
  replace hdo := Lib.hid hdo
  replace hbe := Lib.hid hbe
  go_wp2_with fail
  refine hle.out.mono ?_
  rintro e w5 ⟨rfl, rfl⟩
  go_wp2_with fail
  refine hdo.out.mono ?_
  rintro e w5 ⟨rfl, rfl⟩
  go_wp2_with fail
  refine hbe.out.mono ?_
  rintro e w5 ⟨rfl, rfl⟩
  go_wp2_with fail
  go_ret
  exact ⟨rfl, hK.out⟩
end Go.Proofs.YtpncnddlmlciaaaDoor
