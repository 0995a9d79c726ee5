/- The law RingTurns: what its walk comes to. -/
import Derived.Test.YtkchcckdfbpdmaaLaw02
namespace Go.Proofs.Ytkchcckdfbpdmaa
open Go.RowKit

theorem wrap_mod (x : Int) (m : Nat) (hm : 0 < m) : ∃ k : Nat, k < m ∧ (IntKind.u64.wrap x).tmod (m : Int) = (k : Int) := by
  rw [IntKind.wrap_u64, Int.tmod_eq_emod_of_nonneg (by omega)]
  have h0 := Int.emod_nonneg (x % 18446744073709551616) (show (m : Int) ≠ 0 by omega)
  have h1 := Int.emod_lt_of_pos (x % 18446744073709551616) (show (0 : Int) < (m : Int) by omega)
  exact ⟨((x % 18446744073709551616) % (m : Int)).toNat, by omega, by omega⟩
/-- The i-th number from X on, around. -/
def fU (X : Int) (i : Nat) : Int := IntKind.u64.wrap (X + (i : Int))
theorem fU_add (X : Int) (i m : Nat) : IntKind.u64.wrap (fU X i + (m : Int)) = fU X (i + m) := by
  unfold fU; simp only [IntKind.wrap_u64]; omega
/-- room of them from k on. -/
def fL (X : Int) (k room : Nat) : List Int := (List.range room).map fun j => fU X (k + j)
theorem fL_len (X : Int) (k room : Nat) : (fL X k room).length = room := by simp [fL]
theorem fL_snoc (X : Int) (k m : Nat) : fL X k (m + 1) = fL X k m ++ [fU X (k + m)] := by simp [fL, List.range_succ]
theorem fL_cons (X : Int) (k m : Nat) : fL X k (m + 1) = fU X k :: fL X (k + 1) m := by
  simp only [fL, List.range_succ_eq_map, List.map_cons, List.map_map]
  congr 1
  apply List.map_congr_left
  intro j _
  simp only [Function.comp]
  congr 1; omega

theorem fL_cons' (X : Int) (k room : Nat) (h : 1 ≤ room) : fL X k room = fU X k :: fL X (k + 1) (room - 1) := by
  obtain ⟨m, rfl⟩ : ∃ m, room = m + 1 := ⟨room - 1, by omega⟩
  exact fL_cons X k m
theorem fL_snoc' (X : Int) (k room : Nat) (h : 1 ≤ room) : fL X (k + 1) (room - 1) ++ [fU X (k + room)] = fL X (k + 1) room := by
  obtain ⟨m, rfl⟩ : ∃ m, room = m + 1 := ⟨room - 1, by omega⟩
  rw [fL_snoc, Nat.add_sub_cancel, show k + 1 + m = k + (m + 1) by omega]
set_option maxRecDepth 100000 in
set_option maxHeartbeats 4000000 in
theorem lawTurns_any (r n f : Int) (w : World) :
    Calls Try.prog 4 #[.int .i64 r, .int .i64 n, .int .i64 f] w fun e w' => e = .returned (.bool true) ∧ Keeps w w' := by
  obtain ⟨k1, hk1, e1⟩ := wrap_mod r 256 (by omega)
  obtain ⟨k2, hk2, e2⟩ := wrap_mod n 300 (by omega)
  have e1' : (IntKind.u64.wrap r).tmod 256 = (k1 : Int) := e1
  have e2' : (IntKind.u64.wrap n).tmod 300 = (k2 : Int) := e2
  clear e1 e2
  obtain ⟨X, hX⟩ : ∃ X, IntKind.u64.wrap f = X := ⟨_, rfl⟩
  obtain ⟨room, hroom⟩ : ∃ room : Nat, room = k1 + 1 := ⟨_, rfl⟩
  have hr1 : 1 ≤ room := by omega
  have hr2 : room ≤ 256 := by omega
  have hrI : 1 + (k1 : Int) = (room : Int) := by omega
  replace hroom := Lib.hid hroom
  go_enter Try.func4, Try.ntmps4
  go_wp2_with fail
  refine (Go.Proofs.Ytkchcckdfbpdmaa.u64.new_yes room _ hr1 hr2).mono ?_
  rintro e w1 ⟨rfl, hR, hK⟩
  obtain ⟨p, hpe⟩ : ∃ p, p = w.heap.size + 1 := ⟨_, rfl⟩
  obtain ⟨b, hbe⟩ : ∃ b, b = w.heap.size := ⟨_, rfl⟩
  have hpl : w.heap.size ≤ p := by omega
  have hbl : w.heap.size ≤ b := by omega
  rw [← hpe, ← hbe] at hR
  rw [← hpe]
  clear hpe hbe
  go_wp2_with fail
  go_loopw [10] (fun i wr => ∃ k : Nat, k ≤ room ∧ i = .int .i64 k ∧ Go.Proofs.Ytkchcckdfbpdmaa.u64.RingAt wr p b room 0 (fL X 0 k) ∧ Keeps w wr) (fun i _ => room - (intOf i).toNat)
  case atStart => exact ⟨0, Nat.zero_le _, rfl, hR, hK⟩
  case round =>
    obtain ⟨k, hk, rfl, hR, hK⟩ := hrel
    by_cases hlt : k < room
    · have hpu := Go.Proofs.Ytkchcckdfbpdmaa.u64.push1_any hR (by rw [fL_len]; exact hlt) (fU X k) _ rfl
      have hs := fL_snoc X 0 k
      rw [Nat.zero_add] at hs
      rw [← hs] at hpu
      have hf : IntKind.u64.wrap (X + (k : Int)) = fU X k := rfl
      clear hs
      go_wp2_with fail
      with_reducible refine hpu.mono ?_
      rintro e w2 ⟨rfl, hR2, hM⟩
      go_wp2_with fail
      go_roundw
      case rel => exact ⟨k + 1, by omega, by go_num, hR2, hM.after hK hpl hbl⟩
      case measure => (simp [intOf]; try omega)
    · have hkr : k = room := by omega
      rw [hkr] at hR ⊢
      clear hlt hk hkr
      go_wp2_with fail
      go_loopw [11] (fun i wr => ∃ (k hd : Nat), k ≤ k2 ∧ i = .int .i64 k ∧ Go.Proofs.Ytkchcckdfbpdmaa.u64.RingAt wr p b room hd (fL X k room) ∧ Keeps w wr) (fun i _ => k2 - (intOf i).toNat)
      case atStart => exact ⟨0, 0, Nat.zero_le _, rfl, hR, hK⟩
      case round =>
        obtain ⟨k, hd, hk, rfl, hR, hK⟩ := hrel
        by_cases hlt : k < k2
        · have hR' := hR
          rw [fL_cons' X k room hr1] at hR'
          have hpop := Go.Proofs.Ytkchcckdfbpdmaa.u64.pop_yes hR'
          have hf : IntKind.u64.wrap (X + (k : Int)) = fU X k := rfl
          have hfa := fU_add X k room
          have hpu := fun (hd : Nat) (W : World) (h : Go.Proofs.Ytkchcckdfbpdmaa.u64.RingAt W p b room hd (fL X (k + 1) (room - 1))) => Go.Proofs.Ytkchcckdfbpdmaa.u64.push1_any h (by rw [fL_len]; omega) (fU X (k + room)) _ rfl
          rw [fL_snoc' X k room hr1] at hpu
          clear hR'
          replace hpu := Lib.hid hpu
          have hne : (fU X k != fU X k) = false := by simp
          go_wp2_with fail
          refine hpop.mono ?_
          rintro e w2 ⟨rfl, hR2, hM⟩
          replace hK := hM.after hK hpl hbl
          go_wp2_with fail
          with_reducible refine (hpu.out _ _ hR2).mono ?_
          rintro e w3 ⟨rfl, hR3, hM3⟩
          replace hK := hM3.after hK hpl hbl
          go_wp2_with fail
          refine (Go.Proofs.Ytkchcckdfbpdmaa.u64.push0_any hR3 (fL_len _ _ _) 0 _ rfl).mono ?_
          rintro e w4 ⟨rfl, hR4, hM4⟩
          replace hK := hM4.after hK hpl hbl
          go_wp2_with fail
          go_roundw
          case rel => exact ⟨k + 1, _, by omega, by go_num, hR4, hK⟩
          case measure => (simp [intOf]; try omega)
        · obtain rfl : k = k2 := by omega
          go_wp2_with fail
          refine (known02_any _).mono ?_
          rintro e w2 ⟨rfl, hK2⟩
          have hlen := Go.Proofs.Ytkchcckdfbpdmaa.u64.len_any (hR.keeps hK2)
          rw [fL_len] at hlen
          go_wp2_with fail
          refine hlen.mono ?_
          rintro e w3 ⟨rfl, rfl⟩
          go_wp2_with fail
          go_ret
          exact ⟨rfl, hK.trans hK2⟩
end Go.Proofs.Ytkchcckdfbpdmaa
