/- The laws of layer 1: what each walk comes to. -/
import Derived.Test.YtefjneilmmpgmaaDoorLaw01b
import Derived.Test.YtefjneilmmpgmaaDoorMaskQ
namespace Go.Proofs.YtefjneilmmpgmaaDoor
open Go.RowKit

theorem refOnBits (m : Nat) (w w' : World) (h : Blk w' w.heap.size 4 ((bitsL m).map .bool)) : Bools w' (.slice (some ⟨w.heap.size, 0, none⟩) 64 64) m :=
  Bools.of_blk h (Nat.le_refl _) (by decide) (List.take_of_length_le (by simp [bitsL]))
set_option maxRecDepth 100000 in
set_option maxHeartbeats 2000000 in
theorem lawTurns_any (m : Nat) (n : Int) (w : World) (hm : m < 18446744073709551616) (hT : TabAt w) :
    Calls Tryd.prog 5 #[.int .u64 m, .int .i64 n] w fun e w' => e = .returned (.bool true) ∧ Keeps w w' := by
  have hk := turnK_eq n
  have hl := turnK_lt n
  have hx := turnN_lt m n hm
  have hback := Lib.hid (turn_back m n hm)
  have hlen := Lib.hid (lenN_turn m n hm)
  go_enter Tryd.func5, Tryd.ntmps5
  go_wp2_with fail
  refine (turn_any m n _ hm).mono ?_
  rintro e w1 ⟨rfl, rfl⟩
  go_wp2_with fail
  refine (known01_any _ hT).mono ?_
  rintro e w1 ⟨rfl, hK1⟩
  go_wp2_with fail
  refine (refBits_any m _ hm).mono ?_
  rintro e w2 ⟨rfl, hB, hK2⟩
  have hB := refOnBits m _ _ hB
  go_wp2_with fail
  refine (refTurn_any m n _ _ hm hB).mono ?_
  rintro e w3 ⟨u, rfl, hB3, hK3⟩
  go_wp2_with fail
  refine (refWord_any _ _ _ hx hB3).mono ?_
  rintro e w4 ⟨rfl, rfl⟩
  go_wp2_with fail
  refine (turn_any (turnN m n) _ _ hx).mono ?_
  rintro e w4 ⟨rfl, rfl⟩
  rw [hback.out]
  go_wp2_with fail
  refine (len_any _ _ hx).mono ?_
  rintro e w4 ⟨rfl, rfl⟩
  rw [hlen.out]
  go_wp2_with fail
  refine (len_any _ _ hm).mono ?_
  rintro e w4 ⟨rfl, rfl⟩
  go_wp2_with fail
  go_ret
  exact ⟨rfl, (hK1.trans hK2).trans hK3⟩

/-- The numbers of a mask's list, in memory. -/
theorem natInts_get (l : List Nat) (k : Nat) (hk : k < l.length) : (natInts l).getD k undef = .int .i64 ((l.getD k 0 : Nat) : Int) := by
  simp [natInts, List.getD, hk]
theorem slc_nats {w : World} {v : Value} {l : List Nat} (h : Slc w v (natInts l)) : ∃ p cap, v = .slice p l.length cap ∧ l.length ≤ cap ∧ cap ≤ 9223372036854775807 ∧
    ∀ k, k < l.length → ∃ b off, p = some ⟨b, off, none⟩ ∧ w.cell? ⟨b, off + k, none⟩ = some (.int .i64 ((l.getD k 0 : Nat) : Int)) := by
  obtain ⟨p, cap, hv, hl, hc, _, h⟩ := h
  rw [natInts_len] at hv hl h
  exact ⟨p, cap, hv, hl, hc, fun k hk => by obtain ⟨b, off, hp, hcell⟩ := h k hk; exact ⟨b, off, hp, by rw [hcell, natInts_get l k hk]⟩⟩

set_option maxRecDepth 100000 in
set_option maxHeartbeats 4000000 in
theorem lawWalks_any (m : Nat) (w : World) (hm : m < 18446744073709551616) (hT : TabAt w) :
    Calls Tryd.prog 6 #[.int .u64 m] w fun e w' => e = .returned (.bool true) ∧ Keeps w w' := by
  have hll := listN_len m
  go_enter Tryd.func6, Tryd.ntmps6
  go_wp2_with fail
  refine (list_any m _ hm hT).mono ?_
  rintro e w1 ⟨v, rfl, hrow, hK1⟩
  obtain ⟨p, cap, rfl, hl, hc, hcell⟩ := slc_nats (slc_of_row hrow)
  have hn : (listN m).length = lenN m := rfl
  rw [hn] at hl hcell hll ⊢
  clear hrow
  replace hn := Lib.hid hn
  go_wp2_with fail
  go_loopw [5, 6] (fun a i wr => ∃ k : Nat, k ≤ lenN m ∧ i = .int .i64 k ∧ a = .int .i64 (atPos (listN m) k) ∧ Keeps w1 wr) (fun _ i _ => lenN m - (intOf i).toNat)
  case atStart => exact ⟨0, Nat.zero_le _, rfl, rfl, Keeps.refl _⟩
  case round =>
    obtain ⟨k, hk, rfl, rfl, hK⟩ := hrel
    have hTr := hT.keeps (hK1.trans hK)
    obtain ⟨ha0, ha1⟩ := atPos_le m k hk
    by_cases hlt : k < lenN m
    · obtain ⟨h1, h2, h3, h4, h5⟩ := walks_step m k hlt
      obtain ⟨b, off, rfl, hck⟩ := hcell k hlt
      have hnx := next_any m (atPos (listN m) k) wr hm hTr
      rw [h1, h2] at hnx
      clear hcell h1 h2
      replace h5 := Lib.hid h5
      generalize (listN m).getD k 0 = x at *
      have hx0 : ((x : Int) != (x : Int)) = false := by simp
      have hbl := cell_lt hck
      go_wp2_with fail
      refine hnx.mono ?_
      rintro e w2 ⟨rfl, hK2⟩
      have hck2 := ((hK.trans hK2).cell (p := ⟨b, off + k, none⟩) hbl).trans hck
      go_wp2_with fail
      refine (has_any m x _ hm).mono ?_
      rintro e w3 ⟨rfl, rfl⟩
      rw [h3]
      go_wp2_with fail
      go_roundw
      case rel => exact ⟨k + 1, by omega, by go_num, by rw [h5.out], hK.trans hK2⟩
      case measure => (simp [intOf]; try omega)
    · obtain rfl : k = lenN m := by omega
      have hnx := next_any m (atPos (listN m) (lenN m)) wr hm hTr
      rw [walks_end m] at hnx
      clear hcell
      go_wp2_with fail
      refine hnx.mono ?_
      rintro e w2 ⟨rfl, hK2⟩
      go_wp2_with fail
      refine (known01_any _ (hTr.keeps hK2)).mono ?_
      rintro e w3 ⟨rfl, hK3⟩
      go_wp2_with fail
      refine (len_any _ _ hm).mono ?_
      rintro e w4 ⟨rfl, rfl⟩
      go_wp2_with fail
      go_ret
      exact ⟨rfl, ((hK1.trans hK).trans hK2).trans hK3⟩
end Go.Proofs.YtefjneilmmpgmaaDoor
