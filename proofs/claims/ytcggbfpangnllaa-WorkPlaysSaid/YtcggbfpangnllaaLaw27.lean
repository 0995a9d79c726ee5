/- The laws of layer 27: known; WorkNil; WorkCloses. -/
import Derived.Test.YtcggbfpangnllaaWorkE
import Derived.Test.YtcggbfpangnllaaModn
namespace Go.Proofs.Ytcggbfpangnllaa
open Go.RowKit i64

/-- The example's works: j of them are posted. -/
def kst : Nat → WS
  | 0 => WS.zero
  | j + 1 => (postW 1 (setW (kst j) (5 + j) 3).1 (5 + j) 0).1
def k4 : WS := (beginW 1 (kst 3) 0 1).1
def k5 : WS := (beginW 1 k4 0 2).1
def k6 : WS := (beginW 1 k5 0 3).1
def k7 : WS := (endW k6 1).1
theorem kst_set : ∀ j, j < 3 → (setW (kst j) (5 + j) 3).2 = 0 ∧ (postW 1 (setW (kst j) (5 + j) 3).1 (5 + j) 0).2 = 0 := by
  intro j hj
  have : j = 0 ∨ j = 1 ∨ j = 2 := by omega
  rcases this with rfl | rfl | rfl <;> exact ⟨by kernel_rfl, by kernel_rfl⟩
set_option maxRecDepth 100000 in
set_option maxHeartbeats 2000000 in
theorem known27_any (w : World) : Calls Try.prog 15 #[] w fun e w' => e = .returned (.bool true) ∧ Keeps w w' := by
  have hst := WI.start (n := 1) (by decide) (by decide) w
  rw [show ((1 : Nat) : Int) = 1 from rfl] at hst
  replace hst := Lib.hid hst
  go_enter Try.func15, Try.ntmps15
  go_wp2_with fail
  refine hst.out.mono ?_
  rintro e w1 ⟨k, p, rb, cap, pp, bb, rfl, hI⟩
  replace hI := Lib.hid hI
  clear hst
  go_wp2_with fail
  go_loopw [3] (fun i wr => ∃ j : Nat, j ≤ 3 ∧ i = .int .i64 (5 + (j : Int)) ∧ WI w k p rb cap 1 pp bb (kst j) wr) (fun i _ => 8 - (intOf i).toNat)
  case atStart => exact ⟨0, by omega, rfl, hI.out⟩
  case round =>
    clear hI
    obtain ⟨j, hj, rfl, hI⟩ := hrel
    have hj3 : j < 3 ∨ j = 3 := by omega
    rcases hj3 with hlt | rfl
    · have hltI : (5 : Int) + (j : Int) < 8 := by omega
      have hs := hI.set (5 + (j : Int)) 3
      rw [(kst_set j hlt).1] at hs
      have hp := fun W2 (hI2 : WI w k p rb cap 1 pp bb (setW (kst j) (5 + (j : Int)) 3).1 W2) => hI2.post (5 + (j : Int)) 0
      rw [(kst_set j hlt).2] at hp
      have hm : (5 : Int) + (j : Int) + 1 ≤ 9223372036854775807 := by omega
      have hm0 : (0 : Int) ≤ (5 : Int) + (j : Int) := by omega
      have hnx : (5 : Int) + (j : Int) + 1 = 5 + ((j + 1 : Nat) : Int) := by omega
      replace hs := Lib.hid hs
      replace hp := Lib.hid hp
      replace hnx := Lib.hid hnx
      clear hI
      go_wp2_with fail
      refine hs.out.mono ?_
      rintro e w2 ⟨rfl, hI, -⟩
      have hp2 := hp.out w2 hI
      replace hp2 := Lib.hid hp2
      clear hI hs
      go_wp2_with fail
      refine hp2.out.mono ?_
      rintro e w3 ⟨rfl, hI, -⟩
      replace hI := Lib.hid hI
      clear hp2 hp
      go_wp2_with fail
      go_roundw
      case rel => exact ⟨j + 1, by omega, by rw [← hnx.out], hI.out⟩
      case measure => (simp [intOf]; try omega)
    · have hb := hI.begin 0 1
      rw [show beginW 1 (kst 3) 0 1 = (k4, 5, 3, 0) from by kernel_rfl] at hb
      replace hb := Lib.hid hb
      clear hI
      go_wp2_with fail
      refine hb.out.mono ?_
      rintro e w2 ⟨rfl, hI, -⟩
      have hb := hI.begin 0 2
      rw [show beginW 1 (k4, (5 : Int), (3 : Int), (0 : Int)).1 0 2 = (k5, 6, 3, 0) from by kernel_rfl] at hb
      replace hb := Lib.hid hb
      clear hI
      go_wp2_with fail
      refine hb.out.mono ?_
      rintro e w3 ⟨rfl, hI, -⟩
      have hb := hI.begin 0 3
      rw [show beginW 1 (k5, (6 : Int), (3 : Int), (0 : Int)).1 0 3 = (k6, 0, 0, 3) from by kernel_rfl] at hb
      replace hb := Lib.hid hb
      clear hI
      go_wp2_with fail
      refine hb.out.mono ?_
      rintro e w4 ⟨rfl, hI, -⟩
      have hb := hI.end' 1
      rw [show endW (k6, (0 : Int), (0 : Int), (3 : Int)).1 1 = (k7, 5, 0) from by kernel_rfl] at hb
      replace hb := Lib.hid hb
      clear hI
      go_wp2_with fail
      refine hb.out.mono ?_
      rintro e w5 ⟨rfl, hI, -⟩
      have hb := hI.begin 0 3
      rw [show beginW 1 (k7, (5 : Int), (0 : Int)).1 0 3 = ((beginW 1 k7 0 3).1, 7, 3, 0) from by kernel_rfl] at hb
      replace hb := Lib.hid hb
      clear hI
      go_wp2_with fail
      refine hb.out.mono ?_
      rintro e w6 ⟨rfl, hI, -⟩
      replace hI := Lib.hid hI
      clear hb
      go_wp2_with fail
      go_ret
      exact ⟨rfl, hI.out.keeps⟩
set_option maxRecDepth 100000 in
set_option maxHeartbeats 4000000 in
theorem lawNil27_any (id n : Int) (w : World) : Calls Try.prog 7 #[.int .i64 id, .int .i64 n] w fun e w' => e = .returned (.bool true) ∧ Keeps w w' := by
  have h1 := fun W => wstop_nil W id
  have h2 := fun W => wbegin_nil W n id
  have h3 := fun W => wend_nil W n
  have h4 := fun W => wready_nil W n
  have h5 := fun W => wruns_nil W id
  have h6 := fun W => wprog_nil W id
  have h7 := known27_any
  have h8 := fun W => wset_nil W id n
  have h9 := fun W => wpost_nil W id n
  have h10 := fun (W : World) (b : Nat) (hb : b = W.heap.size) => wshut_nil (W.alloc (.cells #[.int .i64 id] 3)) b id 3 (by rw [hb]; exact Blk.new W _ [_])
  have h11 := fun W => wclear_nil W id
  have h12 := fun W => wstate_nil W id
  have h13 := fun W => busyP_nil n W
  replace h1 := Lib.hid h1
  replace h2 := Lib.hid h2
  replace h3 := Lib.hid h3
  replace h4 := Lib.hid h4
  replace h5 := Lib.hid h5
  replace h6 := Lib.hid h6
  replace h7 := Lib.hid h7
  replace h8 := Lib.hid h8
  replace h9 := Lib.hid h9
  replace h10 := Lib.hid h10
  replace h11 := Lib.hid h11
  replace h12 := Lib.hid h12
  replace h13 := Lib.hid h13
  go_enter Try.func7, Try.ntmps7
  go_wp2_with fail
  with_reducible refine (h1.out _).mono ?_
  rintro e w1 ⟨rfl, K1⟩
  replace K1 := Lib.hid K1
  go_wp2_with fail
  with_reducible refine (h2.out _).mono ?_
  rintro e w2 ⟨rfl, rfl⟩
  go_wp2_with fail
  with_reducible refine (h3.out _).mono ?_
  rintro e w2 ⟨rfl, rfl⟩
  go_wp2_with fail
  with_reducible refine (h4.out _).mono ?_
  rintro e w2 ⟨rfl, rfl⟩
  go_wp2_with fail
  with_reducible refine (h5.out _).mono ?_
  rintro e w2 ⟨rfl, rfl⟩
  go_wp2_with fail
  with_reducible refine (h6.out _).mono ?_
  rintro e w2 ⟨rfl, K2⟩
  replace K2 := Lib.hid (K1.out.trans K2)
  clear K1
  go_wp2_with fail
  with_reducible refine (h7.out _).mono ?_
  rintro e w3 ⟨rfl, K3⟩
  replace K3 := Lib.hid (K2.out.trans K3)
  clear K2
  go_wp2_with fail
  with_reducible refine (h8.out _).mono ?_
  rintro e w4 ⟨rfl, K4⟩
  replace K4 := Lib.hid (K3.out.trans K4)
  clear K3
  go_wp2_with fail
  with_reducible refine (h9.out _).mono ?_
  rintro e w5 ⟨rfl, K5⟩
  replace K5 := Lib.hid (K4.out.trans K5)
  clear K4
  go_wp2_with fail
  with_reducible refine (h10.out _ _ ?hb).mono ?_
  case hb => rfl
  rintro e w6 ⟨rfl, K6⟩
  replace K6 := Lib.hid ((K5.out.trans (Keeps.alloc _ _)).trans K6)
  clear K5
  go_wp2_with fail
  with_reducible refine (h11.out _).mono ?_
  rintro e w7 ⟨rfl, K7⟩
  replace K7 := Lib.hid (K6.out.trans K7)
  clear K6
  go_wp2_with fail
  with_reducible refine (h12.out _).mono ?_
  rintro e w8 ⟨rfl, K8⟩
  replace K8 := Lib.hid (K7.out.trans K8)
  clear K7
  go_wp2_with fail
  with_reducible refine (h13.out _).mono ?_
  rintro e w9 ⟨rfl, rfl⟩
  go_wp2_with fail
  go_ret
  exact ⟨rfl, K8.out⟩
end Go.Proofs.Ytcggbfpangnllaa
