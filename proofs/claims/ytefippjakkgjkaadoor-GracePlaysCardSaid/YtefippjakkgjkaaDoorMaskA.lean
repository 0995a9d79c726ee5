/- The walks of package mask, and of math/bits: what does not go through an iterator. -/
import Derived.Test.YtefippjakkgjkaaDoorBase
import Derived.Test.YtefippjakkgjkaaDoorMaskP
namespace Go.Proofs.YtefippjakkgjkaaDoor
open Go.RowKit

set_option maxHeartbeats 400000 in
theorem good_yes (i : Int) (w : World) (h0 : 0 ≤ i) (h1 : i < 64) :
    Calls Tryd.prog 95 #[.int .i64 i] w fun e w' => e = .returned (.bool true) ∧ w = w' := by
  go_enter Tryd.func95, Tryd.ntmps95
  go_wp2
  go_ret
  exact ⟨rfl, rfl⟩

set_option maxHeartbeats 400000 in
theorem good_no (i : Int) (w : World) (h0 : i < 0 ∨ 64 ≤ i) :
    Calls Tryd.prog 95 #[.int .i64 i] w fun e w' => e = .returned (.bool false) ∧ w = w' := by
  rcases h0 with h0 | h0
  · go_enter Tryd.func95, Tryd.ntmps95
    go_wp2
    go_ret
    exact ⟨rfl, rfl⟩
  · have h1 : 0 ≤ i := by omega
    have h2 : decide (i < 64) = false := by simp; omega
    go_enter Tryd.func95, Tryd.ntmps95
    go_wp2
    go_ret
    exact ⟨rfl, rfl⟩

theorem wrap_bit (i : Int) (h0 : 0 ≤ i) (h1 : i < 64) : IntKind.u64.wrap (2 ^ i.toNat) = (bitN i : Int) := by
  have hb := bitN_lt i
  unfold bitN at hb ⊢
  rw [if_pos ⟨h0, h1⟩] at hb ⊢
  have e : (2 : Int) ^ i.toNat = ((2 ^ i.toNat : Nat) : Int) := by simp
  rw [IntKind.wrap_u64, e]
  generalize 2 ^ i.toNat = x at hb
  omega
set_option maxHeartbeats 400000 in
theorem bit_yes (i : Int) (w : World) (h0 : 0 ≤ i) (h1 : i < 64) :
    Calls Tryd.prog 83 #[.int .i64 i] w fun e w' => e = .returned (.int .u64 (bitN i)) ∧ w = w' := by
  go_enter Tryd.func83, Tryd.ntmps83
  go_wp2_with (go_at_call 95; refine (good_yes _ _ h0 h1).mono ?_; rintro e w' ⟨rfl, rfl⟩)
  go_ret
  exact ⟨ret_int (wrap_bit i h0 h1), rfl⟩
set_option maxHeartbeats 400000 in
theorem bit_no (i : Int) (w : World) (h0 : i < 0 ∨ 64 ≤ i) :
    Calls Tryd.prog 83 #[.int .i64 i] w fun e w' => e = .returned (.int .u64 (bitN i)) ∧ w = w' := by
  go_enter Tryd.func83, Tryd.ntmps83
  go_wp2_with (go_at_call 95; refine (good_no _ _ h0).mono ?_; rintro e w' ⟨rfl, rfl⟩)
  go_ret
  exact ⟨ret_int (by unfold bitN; rw [if_neg (by omega)]; rfl), rfl⟩
theorem bit_any (i : Int) (w : World) :
    Calls Tryd.prog 83 #[.int .i64 i] w fun e w' => e = .returned (.int .u64 (bitN i)) ∧ w = w' := by
  by_cases h : 0 ≤ i ∧ i < 64
  · exact bit_yes i w h.1 h.2
  · exact bit_no i w (by omega)

set_option maxHeartbeats 400000 in
theorem has_any (m : Nat) (i : Int) (w : World) (hm : m < 18446744073709551616) :
    Calls Tryd.prog 89 #[.int .u64 m, .int .i64 i] w fun e w' => e = .returned (.bool (hasN m i)) ∧ w = w' := by
  have hb := bitN_lt i
  go_enter Tryd.func89, Tryd.ntmps89
  go_wp2_with (go_at_call 83; refine (bit_any _ _).mono ?_; rintro e w' ⟨rfl, rfl⟩)
  go_ret
  exact ⟨ret_bool (by rw [← has_eq, bits_and_u64_nat _ _ hm hb]), rfl⟩

set_option maxHeartbeats 400000 in
theorem with_any (m : Nat) (v : Value) (zs : List Int) (w : World) (hm : m < 18446744073709551616) (hv : Ints w v zs) :
    Calls Tryd.prog 85 #[.int .u64 m, v] w fun e w' => e = .returned (.int .u64 (withN m zs)) ∧ w = w' := by
  obtain ⟨p, cap, rfl, hl, hc, hcell⟩ := hv.open
  clear hv
  go_enter Tryd.func85, Tryd.ntmps85
  go_wp2
  go_loop [0, 9] (fun x i => ∃ k : Nat, k ≤ zs.length ∧ i = .int .i64 k ∧ x = .int .u64 (withN m (zs.take k))) (fun _ i => zs.length - (intOf i).toNat)
  case atStart => exact ⟨0, Nat.zero_le _, rfl, rfl⟩
  case round =>
    obtain ⟨k, hk, rfl, rfl⟩ := hrel
    have hlt' := withN_lt (zs.take k) m hm
    by_cases hlt : k < zs.length
    · obtain ⟨b, off, rfl, hk'⟩ := hcell k hlt
      clear hcell
      have hb := bitN_lt zs[k]
      have HS := Lib.hid (withN_succ m zs k hlt)
      go_wp2_with (go_at_call 83; refine (bit_any _ _).mono ?_; rintro e w' ⟨rfl, rfl⟩)
      go_round
      case rel => exact ⟨k + 1, by omega, by go_num, by rw [HS.out, bits_or_u64_nat _ _ hlt' hb]⟩
      case measure => simp [intOf]; omega
    · go_wp2
      go_ret
      exact ⟨ret_int (by rw [List.take_of_length_le (by omega)]), rfl⟩

set_option maxHeartbeats 400000 in
theorem without_any (m : Nat) (v : Value) (zs : List Int) (w : World) (hm : m < 18446744073709551616) (hv : Ints w v zs) :
    Calls Tryd.prog 69 #[.int .u64 m, v] w fun e w' => e = .returned (.int .u64 (withoutN m zs)) ∧ w = w' := by
  obtain ⟨p, cap, rfl, hl, hc, hcell⟩ := hv.open
  clear hv
  go_enter Tryd.func69, Tryd.ntmps69
  go_wp2
  go_loop [0, 9] (fun x i => ∃ k : Nat, k ≤ zs.length ∧ i = .int .i64 k ∧ x = .int .u64 (withoutN m (zs.take k))) (fun _ i => zs.length - (intOf i).toNat)
  case atStart => exact ⟨0, Nat.zero_le _, rfl, rfl⟩
  case round =>
    obtain ⟨k, hk, rfl, rfl⟩ := hrel
    have hlt' := withoutN_lt (zs.take k) m hm
    by_cases hlt : k < zs.length
    · obtain ⟨b, off, rfl, hk'⟩ := hcell k hlt
      clear hcell
      have hb := bitN_lt zs[k]
      have HS := Lib.hid (withoutN_succ m zs k hlt)
      go_wp2_with (go_at_call 83; refine (bit_any _ _).mono ?_; rintro e w' ⟨rfl, rfl⟩)
      go_round
      case rel => exact ⟨k + 1, by omega, by go_num, by rw [HS.out, bits_andNot_u64 _ _ hlt' hb]⟩
      case measure => simp [intOf]; omega
    · go_wp2
      go_ret
      exact ⟨ret_int (by rw [List.take_of_length_le (by omega)]), rfl⟩

theorem bits_and_i64_nat (a b : Nat) (ha : a < 9223372036854775808) (hb : b < 9223372036854775808) :
    bits .and .i64 (a : Int) (b : Int) = ((a &&& b : Nat) : Int) := by
  have hx : a &&& b < 9223372036854775808 := Nat.lt_of_le_of_lt Nat.and_le_left ha
  have h1 : (BitVec.ofInt 64 (a : Int)).toNat = a := by
    rw [BitVec.ofInt_natCast, BitVec.toNat_ofNat]; exact Nat.mod_eq_of_lt (by omega)
  have h2 : (BitVec.ofInt 64 (b : Int)).toNat = b := by
    rw [BitVec.ofInt_natCast, BitVec.toNat_ofNat]; exact Nat.mod_eq_of_lt (by omega)
  show IntKind.i64.wrap ((BitVec.ofInt 64 (a : Int) &&& BitVec.ofInt 64 (b : Int)).toNat : Int) = _
  rw [BitVec.toNat_and, h1, h2]
  exact IntWalk.i64_in _ (by omega)
theorem and_u64 (x : Int) (a c : Nat) (h : x = a) (ha : a < 18446744073709551616) (hc : c < 18446744073709551616) : bits .and .u64 x (c : Int) = ((a &&& c : Nat) : Int) := by
  rw [h, bits_and_u64_nat a c ha hc]
theorem swar_e1 (m : Nat) (hm : m < 18446744073709551616) : IntKind.u64.wrap (bits .and .u64 ((m : Int) / 2) 6148914691236517205 + bits .and .u64 (m : Int) 6148914691236517205) = (swar1 8 m : Int) := by
  have h1 := and_u64 ((m : Int) / 2) (m / 2) 6148914691236517205 (by omega) (by omega) (by omega)
  have h2 := and_u64 (m : Int) m 6148914691236517205 rfl hm (by omega)
  have b1 : m / 2 &&& 6148914691236517205 ≤ 6148914691236517205 := Nat.and_le_right
  have b2 : m &&& 6148914691236517205 ≤ 6148914691236517205 := Nat.and_le_right
  have e : swar1 8 m = (m / 2 &&& 6148914691236517205) + (m &&& 6148914691236517205) := rfl
  rw [show (6148914691236517205 : Int) = ((6148914691236517205 : Nat) : Int) from rfl, h1, h2, IntKind.wrap_u64, e]
  omega
theorem swar1_lt (m : Nat) : swar1 8 m < 18446744073709551616 := by
  have b1 : m / 2 &&& 6148914691236517205 ≤ 6148914691236517205 := Nat.and_le_right
  have b2 : m &&& 6148914691236517205 ≤ 6148914691236517205 := Nat.and_le_right
  have e : swar1 8 m = (m / 2 &&& 6148914691236517205) + (m &&& 6148914691236517205) := rfl
  omega
theorem swar_e2 (m : Nat) (hm : m < 18446744073709551616) : IntKind.u64.wrap (bits .and .u64 ((m : Int) / 4) 3689348814741910323 + bits .and .u64 (m : Int) 3689348814741910323) = (swar2 8 m : Int) := by
  have h1 := and_u64 ((m : Int) / 4) (m / 4) 3689348814741910323 (by omega) (by omega) (by omega)
  have h2 := and_u64 (m : Int) m 3689348814741910323 rfl hm (by omega)
  have b1 : m / 4 &&& 3689348814741910323 ≤ 3689348814741910323 := Nat.and_le_right
  have b2 : m &&& 3689348814741910323 ≤ 3689348814741910323 := Nat.and_le_right
  have e : swar2 8 m = (m / 4 &&& 3689348814741910323) + (m &&& 3689348814741910323) := rfl
  rw [show (3689348814741910323 : Int) = ((3689348814741910323 : Nat) : Int) from rfl, h1, h2, IntKind.wrap_u64, e]
  omega
theorem swar2_lt (m : Nat) : swar2 8 m ≤ 7378697629483820646 := by
  have b1 : m / 4 &&& 3689348814741910323 ≤ 3689348814741910323 := Nat.and_le_right
  have b2 : m &&& 3689348814741910323 ≤ 3689348814741910323 := Nat.and_le_right
  have e : swar2 8 m = (m / 4 &&& 3689348814741910323) + (m &&& 3689348814741910323) := rfl
  omega
theorem swar_e3 (m : Nat) (hm : m ≤ 7378697629483820646) : bits .and .u64 (IntKind.u64.wrap ((m : Int) / 16 + (m : Int))) 1085102592571150095 = (swar3 8 m : Int) := by
  have e : swar3 8 m = (m / 16 + m) &&& 1085102592571150095 := rfl
  rw [show (1085102592571150095 : Int) = ((1085102592571150095 : Nat) : Int) from rfl, and_u64 _ (m / 16 + m) _ (by rw [IntKind.wrap_u64]; omega) (by omega) (by omega), e]
theorem counts8 (m : Nat) (c0 c1 c2 c3 c4 c5 c6 c7 : Nat) (h : counts 8 m = [c0, c1, c2, c3, c4, c5, c6, c7]) : c0 ≤ 8 ∧ c1 ≤ 8 ∧ c2 ≤ 8 ∧ c3 ≤ 8 ∧ c4 ≤ 8 ∧ c5 ≤ 8 ∧ c6 ≤ 8 ∧ c7 ≤ 8 := by
  simp only [counts, List.cons.injEq] at h
  obtain ⟨rfl, rfl, rfl, rfl, rfl, rfl, rfl, rfl, _⟩ := h
  exact ⟨popc_le 8 _, popc_le 8 _, popc_le 8 _, popc_le 8 _, popc_le 8 _, popc_le 8 _, popc_le 8 _, popc_le 8 _⟩
/-- All steps of OnesCount64 behind the third. -/
theorem swar_tail (m : Nat) (hm : m < 18446744073709551616) : ∃ a b c : Nat, IntKind.u64.wrap ((swar3 8 (swar2 8 (swar1 8 m)) : Int) + (swar3 8 (swar2 8 (swar1 8 m)) : Int) / 256) = a ∧
    IntKind.u64.wrap ((a : Int) + (a : Int) / 65536) = b ∧ IntKind.u64.wrap ((b : Int) + (b : Int) / 4294967296) = c ∧ wrap64 (c : Int) = c ∧ bits .and .i64 (c : Int) 127 = lenN m := by
  have hs : swar3 8 (swar2 8 (swar1 8 m)) = pack (counts 8 m) := swar123 8 m hm
  rw [hs]
  obtain ⟨c0, c1, c2, c3, c4, c5, c6, c7, hc⟩ : ∃ c0 c1 c2 c3 c4 c5 c6 c7, counts 8 m = [c0, c1, c2, c3, c4, c5, c6, c7] := ⟨_, _, _, _, _, _, _, _, rfl⟩
  obtain ⟨h0, h1, h2, h3, h4, h5, h6, h7⟩ := counts8 m _ _ _ _ _ _ _ _ hc
  have hsum : (counts 8 m).sum = popc 64 m := counts_sum 8 m
  rw [hc] at hsum ⊢
  obtain ⟨a, b, c, ha, hb, hc', la, lb, lc, hx⟩ := swar_end _ c0 c1 c2 c3 c4 c5 c6 c7 h0 h1 h2 h3 h4 h5 h6 h7 rfl
  generalize pack [c0, c1, c2, c3, c4, c5, c6, c7] = x at *
  refine ⟨a, b, c, by rw [IntKind.wrap_u64]; omega, by rw [IntKind.wrap_u64]; omega, by rw [IntKind.wrap_u64]; omega, IntWalk.wrap64_in _ (by omega), ?_⟩
  rw [show (127 : Int) = ((127 : Nat) : Int) from rfl, bits_and_i64_nat c 127 lc (by omega), Nat.and_two_pow_sub_one_eq_mod c 7, show 2 ^ 7 = 128 from rfl, hx, lenN_popc]
  simp only [List.sum_cons, List.sum_nil] at hsum
  omega
set_option maxHeartbeats 400000 in
theorem ones_any (m : Nat) (w : World) (hm : m < 18446744073709551616) :
    Calls Tryd.prog 87 #[.int .u64 m] w fun e w' => e = .returned (.int .i64 (lenN m)) ∧ w = w' := by
  obtain ⟨a, b, c, ha, hb, hc, hd, he⟩ := swar_tail m hm
  have ha := Lib.hid ha
  have hb := Lib.hid hb
  have hc := Lib.hid hc
  have hd := Lib.hid hd
  have he := Lib.hid he
  go_enter Tryd.func87, Tryd.ntmps87
  go_wp2
  go_ret
  refine ⟨?_, rfl⟩
  show Ending.returned (Value.int .i64 _) = _
  refine ret_int ?_
  rw [swar_e1 m hm, swar_e2 _ (swar1_lt m), swar_e3 _ (swar2_lt _), ha.out, hb.out, hc.out]
  rw [hd.out, he.out]
theorem turnK_eq (n : Int) : (IntKind.u64.wrap n).tmod 64 = ((turnK n : Nat) : Int) := by
  rw [IntKind.wrap_u64, Int.tmod_eq_emod_of_nonneg (by omega)]; unfold turnK; omega
theorem turn_eq (m K : Nat) (hm : m < 18446744073709551616) :
    bits .or .u64 ((m : Int) / 2 ^ K) (IntKind.u64.wrap ((m : Int) * 2 ^ (64 - K))) = (((m / 2 ^ K) ||| (m * 2 ^ (64 - K) % 18446744073709551616) : Nat) : Int) := by
  have e1 : (m : Int) / 2 ^ K = ((m / 2 ^ K : Nat) : Int) := by simp
  have e2 : IntKind.u64.wrap ((m : Int) * 2 ^ (64 - K)) = ((m * 2 ^ (64 - K) % 18446744073709551616 : Nat) : Int) := by rw [IntKind.wrap_u64]; simp
  rw [e1, e2, bits_or_u64_nat _ _ (Nat.lt_of_le_of_lt (Nat.div_le_self _ _) hm) (Nat.mod_lt _ (by decide))]
set_option maxHeartbeats 400000 in
theorem len_any (m : Nat) (w : World) (hm : m < 18446744073709551616) :
    Calls Tryd.prog 76 #[.int .u64 m] w fun e w' => e = .returned (.int .i64 (lenN m)) ∧ w = w' := by
  go_enter Tryd.func76, Tryd.ntmps76
  go_wp2_with (go_at_call 87; refine (ones_any _ _ hm).mono ?_; rintro e w' ⟨rfl, rfl⟩)
  go_ret
  exact ⟨rfl, rfl⟩

/-- The de Bruijn table in its variable. -/
def TabAt (w : World) : Prop := ∀ j, j < 64 → w.cell? ⟨0, j, none⟩ = some (.int .u8 (Lib.deBruijn64tab.getD j 0))
theorem TabAt.keeps {w w' : World} (h : TabAt w) (hb : Keeps w w') : TabAt w' := fun j hj => (Below.cell (p := ⟨0, j, none⟩) hb (cell_lt (h j hj))).trans (h j hj)
set_option maxHeartbeats 1000000 in
theorem tz64_core (x k idx : Nat) (w : World) (hx0 : ((x : Int) == 0) = false)
    (key : IntKind.u64.wrap (bits BinOp.and IntKind.u64 (x : Int) (IntKind.u64.wrap (-(x : Int))) * 285870213051353865) / 288230376151711744 = (idx : Int))
    (hi : idx < 64) (hk : k < 64) (hcell : w.cell? ⟨0, idx, none⟩ = some (.int .u8 k)) :
    Calls Tryd.prog 103 #[.int .u64 x] w fun e w' => e = .returned (.int .i64 k) ∧ w = w' := by
  go_enter Tryd.func103, Tryd.ntmps103
  go_wp2_with (simp only [key])
  go_ret
  exact ⟨rfl, rfl⟩
theorem tz64_key (x a : Nat) (hx : x < 18446744073709551616) (hx0 : x ≠ 0) (hlow : x &&& (18446744073709551616 - x) = a) :
    IntKind.u64.wrap (bits BinOp.and IntKind.u64 (x : Int) (IntKind.u64.wrap (-(x : Int))) * 285870213051353865) / 288230376151711744 = ((a * 285870213051353865 % 18446744073709551616 / 288230376151711744 : Nat) : Int) := by
  have e1 : IntKind.u64.wrap (-(x : Int)) = ((18446744073709551616 - x : Nat) : Int) := by rw [IntKind.wrap_u64]; omega
  rw [e1, bits_and_u64_nat x _ hx (by omega), hlow, IntKind.wrap_u64]
  omega
/-- TrailingZeros64, of a number that is not 0. -/
theorem tz_any (x : Nat) (w : World) (hx : x < 18446744073709551616) (hx0 : x ≠ 0) (hT : TabAt w) :
    Calls Tryd.prog 103 #[.int .u64 x] w fun e w' => e = .returned (.int .i64 (Lib.ctz 64 x)) ∧ w = w' := by
  obtain ⟨hlow, hk⟩ := Lib.lowest_bit 64 x hx0 hx
  obtain ⟨hi, htab⟩ := Lib.deBruijn64_at _ hk
  have hc := hT _ hi
  rw [htab] at hc
  exact tz64_core x _ _ w (by simp; omega) (tz64_key x _ hx hx0 hlow) hi hk hc
end Go.Proofs.YtefippjakkgjkaaDoor
