/- The laws of layer 1: what each walk comes to. -/
import Derived.Test.YtefjneilmmpgmaaDoorLaw01c
namespace Go.Proofs.YtefjneilmmpgmaaDoor
open Go.RowKit

set_option maxRecDepth 100000 in
set_option maxHeartbeats 4000000 in
theorem lawFair_none (m : Nat) (n : Int) (w : World) (hm : m < 18446744073709551616) (hT : TabAt w) (he : listN m = []) :
    Calls Tryd.prog 7 #[.int .u64 m, .int .i64 n] w fun e w' => e = .returned (.bool true) ∧ Keeps w w' := by
  obtain rfl := lenN_zero m hm he
  have hc := around_any 0 n w (by omega) hT
  rw [around_none 0 n he] at hc
  have hl : lenN 0 = 0 := by decide
  have hlen := fun w1 => len_any 0 w1 (by omega)
  rw [hl] at hlen
  clear he hl
  replace hlen := Lib.hid hlen
  go_enter Tryd.func7, Tryd.ntmps7
  go_wp2_with fail
  refine hc.mono ?_
  rintro e w1 ⟨rfl, hK1⟩
  go_wp2_with fail
  refine (known01_any _ (hT.keeps hK1)).mono ?_
  rintro e w2 ⟨rfl, hK2⟩
  go_wp2_with fail
  refine (hlen.out _).mono ?_
  rintro e w3 ⟨rfl, rfl⟩
  go_wp2_with fail
  go_ret
  exact ⟨rfl, hK1.trans hK2⟩

set_option maxRecDepth 100000 in
set_option maxHeartbeats 4000000 in
theorem lawFair_some (m : Nat) (n : Int) (w : World) (hm : m < 18446744073709551616) (hT : TabAt w) (he : listN m ≠ []) :
    Calls Tryd.prog 7 #[.int .u64 m, .int .i64 n] w fun e w' => e = .returned (.bool true) ∧ Keeps w w' := by
  obtain ⟨j, hj, h1, h2⟩ := around_first m n he
  have hc := around_any m n w hm hT
  replace h2 : aroundV m n = elN m j := h2
  rw [h1, h2] at hc
  have hall := Lib.hid (seen_all m j hm hj)
  have hlen : lenN m ≤ 64 := listN_len m
  have hm0 : ((m : Int) == (m : Int)) = true := by simp
  clear he h1 h2
  go_enter Tryd.func7, Tryd.ntmps7
  go_wp2_with fail
  refine hc.mono ?_
  rintro e w1 ⟨rfl, hK1⟩
  go_wp2_with fail
  refine (of_any _ [] _ (Slc.nil _)).mono ?_
  rintro e w2 ⟨rfl, rfl⟩
  rw [show withN 0 [] = 0 from rfl]
  go_wp2_with fail
  go_loopw [8, 9, 10] (fun s a i wr => ∃ k : Nat, k ≤ lenN m ∧ i = .int .i64 k ∧ s = .int .u64 (withN 0 (seenL m j k)) ∧ a = .int .i64 (elN m ((j + k) % lenN m) : Nat) ∧ Keeps w1 wr) (fun _ _ i _ => lenN m - (intOf i).toNat)
  case atStart => exact ⟨0, Nat.zero_le _, rfl, rfl, by rw [Nat.add_zero, Nat.mod_eq_of_lt hj], Keeps.refl _⟩
  case round =>
    obtain ⟨k, hk, rfl, rfl, rfl, hK⟩ := hrel
    have hTr := hT.keeps (hK1.trans hK)
    by_cases hlt : k < lenN m
    · have hsl := withN_lt (seenL m j k) 0 (by omega)
      have hno := has_any (withN 0 (seenL m j k)) (elN m ((j + k) % lenN m) : Nat) wr hsl
      have hsn : hasN (withN 0 (seenL m j k)) (elN m ((j + k) % lenN m) : Nat) = false := seen_no m j k hlt
      rw [hsn] at hno
      clear hsn
      have hp : (j + k) % lenN m < lenN m := Nat.mod_lt _ (by omega)
      obtain ⟨_, _, h3, h4, _⟩ := walks_step m _ hp
      have hyes := has_any m (elN m ((j + k) % lenN m) : Nat) wr hm
      replace h4 : elN m ((j + k) % lenN m) < 64 := h4
      replace h3 : hasN m (elN m ((j + k) % lenN m) : Nat) = true := h3
      rw [h3] at hyes
      have hnext := fun w1 => around_any m (elN m ((j + k) % lenN m) + 1 : Nat) w1 hm
      have han : aroundV m ((elN m ((j + k) % lenN m) : Nat) + 1) = elN m (((j + k) % lenN m + 1) % lenN m) := around_next m _ hp
      rw [show (((elN m ((j + k) % lenN m) + 1 : Nat)) : Int) = (elN m ((j + k) % lenN m) : Nat) + 1 by omega, han] at hnext
      clear han
      have hmod : ((j + k) % lenN m + 1) % lenN m = (j + (k + 1)) % lenN m := by rw [Nat.mod_add_mod, Nat.add_assoc]
      rw [hmod] at hnext
      have hsucc := seenL_succ m j k
      replace hnext := Lib.hid hnext
      have hsucc' : withN 0 (seenL m j (k + 1)) = withN (withN 0 (seenL m j k)) [((elN m ((j + k) % lenN m) : Nat) : Int)] := by
        rw [hsucc]; unfold withN; rw [List.foldl_append]; rfl
      replace hsucc' := Lib.hid hsucc'
      clear hsucc h3 hmod
      generalize hx : elN m ((j + k) % lenN m) = x at *
      replace hx := Lib.hid hx
      generalize withN 0 (seenL m j k) = s at *
      go_wp2_with fail
      refine (len_any _ _ hm).mono ?_
      rintro e w4 ⟨rfl, rfl⟩
      go_wp2_with fail
      refine hno.mono ?_
      rintro e w4 ⟨rfl, rfl⟩
      go_wp2_with fail
      refine hyes.mono ?_
      rintro e w4 ⟨rfl, rfl⟩
      go_wp2_with fail
      refine (with_any s _ [(x : Int)] _ hsl (ints_at _ _ [(x : Int)] _ rfl (by unfold maxLen; simp))).mono ?_
      rintro e w4 ⟨rfl, rfl⟩
      have hKa := Keeps.alloc wr (.cells #[.int .i64 (x : Int)] 3)
      go_wp2_with fail
      with_reducible refine (hnext.out _ (hTr.keeps hKa)).mono ?_
      rintro e w5 ⟨rfl, hKb⟩
      go_wp2_with fail
      go_roundw
      case rel => exact ⟨k + 1, by omega, by go_num, by rw [hsucc'.out], rfl, (hK.trans hKa).trans hKb⟩
      case measure => (simp [intOf]; try omega)
    · obtain rfl : k = lenN m := by omega
      rw [hall.out]
      have e1 : (j + lenN m) % lenN m = j := by rw [Nat.add_mod_right, Nat.mod_eq_of_lt hj]
      rw [e1]
      generalize elN m j = x at *
      have hx0 : ((x : Int) == (x : Int)) = true := by simp
      go_wp2_with fail
      refine (len_any _ _ hm).mono ?_
      rintro e w4 ⟨rfl, rfl⟩
      go_wp2_with fail
      refine (known01_any _ hTr).mono ?_
      rintro e w4 ⟨rfl, hKb⟩
      go_wp2_with fail
      go_ret
      exact ⟨rfl, (hK1.trans hK).trans hKb⟩
theorem lawFair_any (m : Nat) (n : Int) (w : World) (hm : m < 18446744073709551616) (hT : TabAt w) :
    Calls Tryd.prog 7 #[.int .u64 m, .int .i64 n] w fun e w' => e = .returned (.bool true) ∧ Keeps w w' := by
  by_cases h : listN m = []
  · exact lawFair_none m n w hm hT h
  · exact lawFair_some m n w hm hT h

theorem ints_of_nats {w : World} {v : Value} {l : List Nat} (h : Slc w v (natInts l)) : Ints w v (l.map fun (k : Nat) => (k : Int)) := by
  unfold Ints; rw [List.map_map]; exact h
theorem ints_some {w : World} {v : Value} {zs : List Int} (h : Ints w v zs) : ∃ zs, Ints w v zs := ⟨zs, h⟩
theorem hasN_of (m : Nat) (i : Int) (h0 : 0 ≤ i) (h1 : i < 64) : hasN m i = m.testBit i.toNat := by simp [hasN, h0, h1]
theorem hasN_out (m : Nat) (i : Int) (h : i < 0 ∨ 64 ≤ i) : hasN m i = false := by
  unfold hasN; rw [decide_eq_false (by omega)]; rfl

set_option maxRecDepth 100000 in
set_option maxHeartbeats 1000000 in
theorem lawSets_any (m : Nat) (u v : Value) (xs ys : List Int) (w : World) (hm : m < 18446744073709551616) (hu : Ints w u xs) (hv : Ints w v ys) (hT : TabAt w) :
    Calls Tryd.prog 8 #[.int .u64 m, u, v] w fun e w' => e = .returned (.bool true) ∧ Keeps w w' := by
  obtain ⟨p, cap, rfl, hl, hc, h0, hcase⟩ := hu.upto 200
  obtain ⟨p', cap', rfl, hl', hc', h0', hcase'⟩ := hv.upto 200
  have hD := fun n => below_drewN (Below.refl w.heap.size w) n
  have hx1 := fun zs : List Int => withN_lt zs m hm
  clear hu hv
  replace hD := Lib.hid hD
  rcases hcase with ⟨hlen, hs⟩ | ⟨hlen, hs⟩
  all_goals
    rcases hcase' with ⟨hlen', hs'⟩ | ⟨hlen', hs'⟩
    all_goals
      replace hs := ints_some hs
      replace hs' := ints_some hs'
      clear h0 h0'
      have hxs0 : (0 : Int) ≤ xs.length := by omega
      have hys0 : (0 : Int) ≤ ys.length := by omega
      obtain ⟨xs', hs⟩ := hs
      obtain ⟨ys', hs'⟩ := hs'
      go_enter Tryd.func8, Tryd.ntmps8
      go_wp2_with fail
      go_quiet (fail)
      go_wp2_with fail
      refine (with_any m _ _ _ hm (Slc.below hs (hD.out _))).mono ?_
      rintro e w1 ⟨rfl, rfl⟩
      go_wp2_with fail
      refine (without_any _ _ _ _ (hx1 _) (Slc.below hs' (hD.out _))).mono ?_
      rintro e w1 ⟨rfl, rfl⟩
      go_wp2_with fail
      refine (refBits_any m _ hm).mono ?_
      rintro e w1 ⟨rfl, hB, hK1⟩
      replace hB := refOnBits m _ _ hB
      replace hK1 := Keeps.trans (hD.out _) hK1
      go_wp2_with fail
      refine (refPut_any m true _ _ _ _ hB (Slc.below hs hK1)).mono ?_
      rintro e w2 ⟨u2, rfl, hB2, hK2⟩
      go_wp2_with fail
      refine (refPut_any _ false _ _ _ _ hB2 (Slc.below hs' (hK1.trans hK2))).mono ?_
      rintro e w3 ⟨u3, rfl, hB3, hK3⟩
      have hK := (hK1.trans hK2).trans hK3
      simp only [putN, Bool.false_eq_true, if_true, if_false] at hB3
      have hxl := fun zs zs' => withoutN_lt zs _ (hx1 zs')
      clear hs hs' hB hB2 hK1 hK2 hK3 hx1 hD hlen hlen'
      replace hxl := hxl ys' xs'
      generalize withoutN (withN m xs') ys' = x at *
      obtain ⟨b, off, cap3, rfl, h64, hc3, hbl, hcell⟩ := hB3.open
      replace hB3 := Lib.hid hB3
      go_wp2_with fail
      go_loopw [9] (fun i wr => ∃ k : Nat, k ≤ 69 ∧ i = .int .i64 ((k : Int) - 2) ∧ Keeps w3 wr) (fun i _ => 69 - (intOf i + 2).toNat)
      case atStart => exact ⟨0, by omega, rfl, Keeps.refl _⟩
      case round =>
        obtain ⟨k, hk, rfl, hKr⟩ := hrel
        by_cases hlt : k < 69
        · have hh := has_any x ((k : Int) - 2) wr hxl
          have hlt2 : (k : Int) - 2 < 67 := by omega
          by_cases hlo : 2 ≤ k
          · obtain ⟨j, rfl⟩ : ∃ j, k = j + 2 := ⟨k - 2, by omega⟩
            rw [show ((j + 2 : Nat) : Int) - 2 = (j : Int) by omega] at *
            by_cases hhi : j < 64
            · rw [hasN_of x j (by omega) (by omega), Int.toNat_natCast] at hh
              have hcj := (hKr.cell (p := ⟨b, off + j, none⟩) hbl).trans (hcell j hhi)
              have hne : (x.testBit j != x.testBit j) = false := by simp
              clear hcell
              generalize x.testBit j = bb at *
              go_wp2_with fail
              refine hh.mono ?_
              rintro e w4 ⟨rfl, rfl⟩
              go_wp2_with fail
              go_roundw
              case rel => exact ⟨j + 2 + 1, by omega, by go_num, hKr⟩
              case measure => (simp [intOf]; try omega)
            · rw [hasN_out x j (by omega)] at hh
              have hd : decide ((j : Int) < 64) = false := decide_eq_false (by omega)
              clear hcell
              go_wp2_with fail
              refine hh.mono ?_
              rintro e w4 ⟨rfl, rfl⟩
              go_wp2_with fail
              go_roundw
              case rel => exact ⟨j + 2 + 1, by omega, by go_num, hKr⟩
              case measure => (simp [intOf]; try omega)
          · rw [hasN_out x _ (by omega)] at hh
            have hd : decide (2 ≤ (k : Int)) = false := decide_eq_false (by omega)
            have hd' : decide (0 ≤ (k : Int) - 2) = false := decide_eq_false (by omega)
            clear hcell
            go_wp2_with fail
            refine hh.mono ?_
            rintro e w4 ⟨rfl, rfl⟩
            go_wp2_with fail
            go_roundw
            case rel => exact ⟨k + 1, by omega, by go_num, hKr⟩
            case measure => (simp [intOf]; try omega)
        · obtain rfl : k = 69 := by omega
          clear hcell
          have hBr := Slc.below hB3.out hKr
          replace hK := hK.trans hKr
          go_wp2_with fail
          refine (known01_any _ (hT.keeps hK)).mono ?_
          rintro e w4 ⟨rfl, hK4⟩
          replace hBr := Slc.below hBr hK4
          replace hK := hK.trans hK4
          clear hKr hK4
          go_wp2_with fail
          refine (refWord_any x _ _ hxl hBr).mono ?_
          rintro e w5 ⟨rfl, rfl⟩
          go_wp2_with fail
          refine (len_any x _ hxl).mono ?_
          rintro e w5 ⟨rfl, rfl⟩
          go_wp2_with fail
          refine (refList_any x _ _ hBr).mono ?_
          rintro e w5 ⟨v5, rfl, hrow, hK5⟩
          obtain ⟨p5, cap5, rfl, _, _, _⟩ := slc_nats (slc_of_row hrow)
          have hn : (listN x).length = lenN x := rfl
          rw [hn]
          clear hrow hn
          replace hBr := Slc.below hBr hK5
          replace hK := hK.trans hK5
          clear hK5
          go_wp2_with fail
          refine (list_any x _ hxl (hT.keeps hK)).mono ?_
          rintro e w6 ⟨v6, rfl, hrow6, hK6⟩
          replace hBr := Slc.below hBr hK6
          replace hK := hK.trans hK6
          clear hK6
          go_wp2_with fail
          refine (refList_any x _ _ hBr).mono ?_
          rintro e w7 ⟨v7, rfl, hrow7, hK7⟩
          have hs6 := Slc.below (slc_of_row hrow6) hK7
          have hs7 := slc_of_row hrow7
          replace hK := hK.trans hK7
          clear hrow6 hrow7 hK7
          go_wp2_with fail
          refine (same_any ((listN x).map fun (k : Nat) => (k : Int)) ((listN x).map fun (k : Nat) => (k : Int)) _ _ _ (ints_of_nats hs6) (ints_of_nats hs7)).mono ?_
          rintro e w8 ⟨rfl, hK8⟩
          rw [sameL_self]
          replace hK := hK.trans hK8
          go_wp2_with fail
          go_ret
          exact ⟨rfl, hK⟩
end Go.Proofs.YtefjneilmmpgmaaDoor
