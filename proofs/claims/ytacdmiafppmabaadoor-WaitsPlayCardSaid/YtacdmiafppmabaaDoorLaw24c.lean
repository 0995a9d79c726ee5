/- WaitsWake: the walk. -/
import Derived.Test.YtacdmiafppmabaaDoorWaitR
import Derived.Test.YtacdmiafppmabaaDoorModn
import Derived.Test.YtacdmiafppmabaaDoorMaskQ
namespace Go.Proofs.YtacdmiafppmabaaDoor
open Go.RowKit

theorem tmod32 (a : Nat) : (a : Int).tmod 32 = ((a % 32 : Nat) : Int) := by rw [Int.tmod_eq_emod_of_nonneg (by omega)]; omega
theorem tmod32a (a b : Nat) : ((a : Int) + (b : Int)).tmod 32 = (((a + b) % 32 : Nat) : Int) := by rw [Int.tmod_eq_emod_of_nonneg (by omega)]; omega
theorem tmod32b (a b : Nat) : ((a : Int) + (b : Int) + 1).tmod 32 = (((a + (b + 1)) % 32 : Nat) : Int) := by rw [Int.tmod_eq_emod_of_nonneg (by omega)]; omega
theorem waiting_len {f : WS} : lenN (suchW f (fun _ => true) 32) = (suchL f (fun _ => true) 32).length := by unfold lenN; rw [suchW_list]
set_option maxRecDepth 100000 in
set_option maxHeartbeats 2000000 in
theorem lawWake24_any (n0 a0 : Int) (w : World) (hT : TabAt w) : Calls Tryd.prog 6 #[.int .i64 n0, .int .i64 a0] w fun e w' => e = .returned (.bool true) ∧ Keeps w w' := by
  have hkn := fun (W : World) (hk : Keeps w W) => known24_any W (hT.keeps hk)
  obtain ⟨n1, hn1, en⟩ := wrap_mod n0 31 (by decide)
  obtain ⟨a1, ha1, ea⟩ := wrap_mod a0 32 (by decide)
  obtain ⟨n, hn⟩ : ∃ n : Nat, n = 1 + n1 := ⟨_, rfl⟩
  have hn1' : 1 ≤ n := by omega
  have hn31 : n ≤ 31 := by omega
  have hnI : 1 + (n1 : Int) = (n : Int) := by omega
  have ha32 : a1 < 32 := by omega
  obtain ⟨P, hP⟩ : ∃ P, P = w.heap.size := ⟨_, rfl⟩
  have hI := WI.start w
  rw [← hP, ← rowF_zero a1] at hI
  replace hI := Lib.hid hI
  replace hP := Lib.hid hP
  replace hkn := Lib.hid hkn
  replace hnI := Lib.hid hnI
  replace hn := Lib.hid hn
  go_enter Tryd.func6, Tryd.ntmps6
  go_upto_region 4 with (fail)
  rw [← hP.out, hnI.out]
  refine wp_gen (fun W => WI w P none 0 (rowF a1 0) W) hI.out ?_
  clear hI
  rintro W hI
  replace hI := Lib.hid hI
  go_wp2_with fail
  go_loopw [6] (fun iv wr => ∃ (i : Nat) (bo : Option Nat), i ≤ n ∧ iv = .int .i64 (i : Int) ∧ WI w P bo i (rowF a1 i) wr) (fun iv _ => n - (intOf iv).toNat)
  case atStart => exact ⟨0, none, Nat.zero_le _, rfl, hI.out⟩
  case round =>
    clear hI
    obtain ⟨i, bo, hi, rfl, hI⟩ := hrel
    by_cases hlt : i < n
    · have hltI := Int.ofNat_lt.2 hlt
      have e1 := tmod32a a1 i
      have e2 := tmod32b a1 i
      have hw := rowF_wait (at' := a1) (i := i) ha32 (by omega)
      have h1 := hI.wait (((a1 + i) % 32 : Nat) : Int) (((a1 + (i + 1)) % 32 : Nat) : Int) (by unfold maxLen; omega)
      rw [hw.1, hw.2] at h1
      replace h1 := Lib.hid h1
      clear hw hI
      generalize ((a1 + i) % 32 : Nat) = X at *
      generalize ((a1 + (i + 1)) % 32 : Nat) = Y at *
      go_wp2_with fail
      refine h1.out.mono ?_
      rintro e W1 ⟨rfl, bo1, hI⟩
      replace hI := Lib.hid hI
      go_wp2_with fail
      go_roundw
      case rel => exact ⟨i + 1, bo1, by omega, by go_num, hI.out⟩
      case measure => (simp [intOf]; try omega)
    · obtain rfl : i = n := by omega
      have e1 := tmod32a a1 i
      have hd := rowF_dead (at' := a1) (n := i) ha32 hn1' hn31
      have h1 := hI.wait (((a1 + i) % 32 : Nat) : Int) (a1 : Int) (by unfold maxLen; omega)
      rw [hd, waitF_no (by rw [hd]; decide)] at h1
      have hch : castW (chainI (rowF a1 i) (a1 : Int)) = (List.range' 1 i).map fun t => (((a1 + t) % 32 : Nat) : Int) := by
        rw [chainI_nat, rowF_chainW ha32 hn31, castW, List.map_map]; rfl
      have hchl : (castW (chainI (rowF a1 i) (a1 : Int))).length = i := by rw [hch]; simp
      have hwl : lenN (suchW (rowF a1 i) (fun _ => true) 32) = i := by rw [waiting_len, rowF_len a1 ha32 i (by omega)]
      have hwlt := suchW_lt (rowF a1 i) (fun _ => true) 32
      have hX : ((a1 + i) % 32 : Nat) < 32 := by omega
      replace h1 := Lib.hid h1
      replace hchl := Lib.hid hchl
      replace hwl := Lib.hid hwl
      replace hX := Lib.hid hX
      clear hd hI hch
      obtain ⟨X, hXX⟩ : ∃ X, X = (a1 + i) % 32 := ⟨_, rfl⟩
      rw [← hXX] at e1 h1
      replace hXX := Lib.hid hXX
      go_wp2_with fail
      refine h1.out.mono ?_
      rintro e W1 ⟨rfl, bo1, hI⟩
      have h2 := hI.chain (a1 : Int) ⟨by omega, by omega⟩
      replace h2 := Lib.hid h2
      replace hI := Lib.hid hI
      clear h1
      go_wp2_with fail
      refine h2.out.mono ?_
      rintro e W2 ⟨v, rfl, hv, _, hk⟩
      obtain ⟨vq, vc, hvv, _⟩ := hv.open
      rw [hchl.out] at hvv
      subst hvv
      have hI2 := hI.out.kept hk
      have h3 := waiting_any hI2.at'
      replace h3 := Lib.hid h3
      replace hI2 := Lib.hid hI2
      clear hv hk hI h2
      go_wp2_with fail
      refine h3.out.mono ?_
      rintro e W3 ⟨rfl, hk⟩
      have hI3 := hI2.out.kept hk
      have h4 := len_any (suchW (rowF a1 i) (fun _ => true) 32) W3 hwlt
      rw [hwl.out] at h4
      replace h4 := Lib.hid h4
      replace hI3 := Lib.hid hI3
      clear hk hI2 h3 hwlt
      generalize suchW (rowF a1 i) (fun _ => true) 32 = m at *
      go_wp2_with fail
      refine h4.out.mono ?_
      rintro e w' ⟨rfl, rfl⟩
      go_wp2_with fail
      go_loopw [7, 8] (fun ev iv wr => ∃ (j : Nat) (bo : Option Nat) (c : Nat), j ≤ i ∧ iv = .int .i64 (j : Int) ∧ ev = .int .i64 (((a1 + j) % 32 : Nat) : Int) ∧ c ≤ i + 1 ∧ WI w P bo c (rowF a1 j) wr) (fun _ iv _ => (intOf iv).toNat)
      case atStart => exact ⟨i, bo1, i + 1, Nat.le_refl _, rfl, by rw [hXX.out], Nat.le_refl _, hI3.out⟩
      case round =>
        clear hI3
        obtain ⟨j, bo2, c, hj, rfl, rfl, hc, hI⟩ := hrel
        cases j with
        | zero =>
          have hk4 := hkn.out wr hI.keeps
          have hw0 := waitC_free (f := wnone) (a := X) (b := a1) (by have := hXX.out; omega) ha32 rfl (by have := hXX.out; omega) (by rw [show chainW wnone a1 = [] from chainN_none rfl 32]; simp)
          rw [rowF_zero] at hI
          replace hI := Lib.hid hI
          replace hw0 := Lib.hid hw0
          replace hk4 := Lib.hid hk4
          go_wp2_with fail
          refine hk4.out.mono ?_
          rintro e W4 ⟨rfl, hk⟩
          have hI4 := hI.out.kept hk
          have h5 := hI4.wait (X : Int) (a1 : Int) (by unfold maxLen; omega)
          rw [hw0.out.1] at h5
          replace h5 := Lib.hid h5
          clear hI4 hk
          go_wp2_with fail
          refine h5.out.mono ?_
          rintro e W5 ⟨rfl, bo5, hI5⟩
          replace hI5 := Lib.hid hI5
          go_wp2_with fail
          go_ret
          exact ⟨rfl, hI5.out.keeps⟩
        | succ j =>
          have hj31 : j < 31 := by omega
          have hjI : (0 : Int) < ((j + 1 : Nat) : Int) := by omega
          rw [show ((j + 1 : Nat) : Int) = (j : Int) + 1 by omega] at hjI ⊢
          have hk1 := Keeps.alloc wr (.cells #[.int .i64 (((a1 + (j + 1)) % 32 : Nat) : Int)] 3)
          have h5 := (hI.kept hk1).wake hT _ _ (ints_one wr (((a1 + (j + 1)) % 32 : Nat) : Int))
          rw [rowF_such' ha32 hj31, rowF_drop ha32 hj31] at h5
          have e3 := tmod32a a1 j
          have e4 : ((a1 : Int) + ((j : Int) + 1) - 1).tmod 32 = (((a1 + j) % 32 : Nat) : Int) := by rw [← e3]; congr 1; omega
          obtain ⟨Y, hY⟩ : ∃ Y, Y = (a1 + j) % 32 := ⟨_, rfl⟩
          obtain ⟨Z, hZ⟩ : ∃ Z, Z = (a1 + (j + 1)) % 32 := ⟨_, rfl⟩
          rw [← hY] at e3 e4 h5
          rw [← hZ] at h5 ⊢
          have hwl2 : lenN (suchW (rowF a1 j) (fun _ => true) 32) = j := by rw [waiting_len, rowF_len a1 ha32 j (by omega)]
          have hwlt2 := suchW_lt (rowF a1 j) (fun _ => true) 32
          replace h5 := Lib.hid h5
          replace hY := Lib.hid hY
          replace hZ := Lib.hid hZ
          replace hwl2 := Lib.hid hwl2
          clear hI hk1
          go_wp2_with fail
          refine h5.out.mono ?_
          rintro e W5 ⟨v, rfl, hv, _, hI5, _⟩
          obtain ⟨vq', vc', hvv, _, _, hcell⟩ := hv.open
          obtain ⟨vb, voff, hq, c0⟩ := hcell 0 (by simp [castW])
          have hvv2 : v = .slice (some ⟨vb, voff, none⟩) 1 vc' := by rw [hvv, hq]; simp [castW]
          subst hvv2
          have c1 : W5.cell? ⟨vb, voff + 0, none⟩ = some (.int .i64 (Y : Int)) := by rw [c0]; simp [castW]
          rw [Nat.add_zero] at c1
          have h6 := waiting_any hI5.at'
          replace h6 := Lib.hid h6
          replace hI5 := Lib.hid hI5
          clear hv hvv hq c0 hcell h5
          go_wp2_with fail
          refine h6.out.mono ?_
          rintro e W6 ⟨rfl, hk⟩
          have hI6 := hI5.out.kept hk
          have c6 : W6.cell? ⟨vb, voff, none⟩ = some (.int .i64 (Y : Int)) := (hk.cell (p := ⟨vb, voff, none⟩) (cell_lt c1)).trans c1
          have h7 := len_any (suchW (rowF a1 j) (fun _ => true) 32) W6 hwlt2
          rw [hwl2.out] at h7
          replace h7 := Lib.hid h7
          replace hI6 := Lib.hid hI6
          clear hk hI5 h6 c1 hwlt2
          generalize suchW (rowF a1 j) (fun _ => true) 32 = m2 at *
          go_wp2_with fail
          refine h7.out.mono ?_
          rintro e w' ⟨rfl, rfl⟩
          go_wp2_with fail
          go_roundw
          case rel => exact ⟨j, bo2, c, by omega, by go_num, by rw [hY.out], hc, hI6.out⟩
          case measure => (simp [intOf]; try omega)
end Go.Proofs.YtacdmiafppmabaaDoor
