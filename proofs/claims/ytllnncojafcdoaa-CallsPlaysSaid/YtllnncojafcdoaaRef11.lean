/- The reference of calls: a list of callbacks; Count, Open. -/
import Derived.Test.YtllnncojafcdoaaBase
import Derived.Test.YtllnncojafcdoaaStr2
import Derived.Test.YtllnncojafcdoaaCallsC
namespace Go.Proofs.Ytllnncojafcdoaa
open Go.RowKit

/-- A callback of the reference: CPU, id, generation. -/
abbrev C3 : Type := Nat × Int × Int
def rc (x : C3) : List Value := [.int .i64 (x.1 : Int), .int .i64 x.2.1, .int .i64 x.2.2]
/-- A list of callbacks lies behind the slice v. -/
def Cs3 (w : World) (v : Value) (l : List C3) : Prop := SlcS 3 w v (l.map rc)
theorem Cs3.keeps {w w' : World} {v : Value} {l : List C3} (h : Cs3 w v l) (hk : Keeps w w') : Cs3 w' v l := SlcS.below h hk
theorem Cs3.get {w : World} {v : Value} {l : List C3} (h : Cs3 w v l) : ∃ p cap, v = .slice p l.length cap ∧ l.length ≤ cap ∧ cap ≤ 9223372036854775807 ∧
    ∀ i, (hi : i < l.length) → ∃ b off, p = some ⟨b, off, none⟩ ∧ w.cell? ⟨b, off + i * 3, none⟩ = some (.int .i64 (l[i].1 : Int)) ∧ w.cell? ⟨b, off + i * 3 + 1, none⟩ = some (.int .i64 l[i].2.1) ∧ w.cell? ⟨b, off + i * 3 + 2, none⟩ = some (.int .i64 l[i].2.2) := by
  obtain ⟨p, cap, hv, hl, hc, hcell⟩ := SlcS.get h
  rw [List.length_map] at hv hl hcell
  refine ⟨p, cap, hv, hl, hc, fun i hi => ?_⟩
  obtain ⟨b, off, hp, hk⟩ := hcell i hi
  have h0 := hk 0 (by omega)
  have h1 := hk 1 (by omega)
  have h2 := hk 2 (by omega)
  refine ⟨b, off, hp, ?_, ?_, ?_⟩
  · rw [Nat.add_zero] at h0; rw [h0]; simp [List.getD, hi, rc]
  · rw [h1]; simp [List.getD, hi, rc]
  · rw [h2]; simp [List.getD, hi, rc]
/-- The lists of the reference as a value. -/
def ls3 (n : Nat) (last : Int) (v : Value) : Value := .agg #[.int .i64 (n : Int), .int .i64 last, v]
def cnt3 (l : List C3) (c : Nat) : Nat := (l.filter fun x => x.1 == c).length
def open3 (l : List C3) : Nat := (l.filter fun x => decide (x.2.2 = 0)).length
def most3 (l : List C3) : Int := l.foldl (fun m x => max m x.2.2) 0
theorem cnt3_succ (l : List C3) (c j : Nat) (h : j < l.length) : cnt3 (l.take (j + 1)) c = cnt3 (l.take j) c + if l[j].1 = c then 1 else 0 := by
  unfold cnt3
  rw [List.take_succ_eq_append_getElem h, List.filter_append, List.length_append]
  by_cases e : l[j].1 = c <;> simp [e]
theorem open3_succ (l : List C3) (j : Nat) (h : j < l.length) : open3 (l.take (j + 1)) = open3 (l.take j) + if l[j].2.2 = 0 then 1 else 0 := by
  unfold open3
  rw [List.take_succ_eq_append_getElem h, List.filter_append, List.length_append]
  by_cases e : l[j].2.2 = 0 <;> simp [e]
theorem most3_succ (l : List C3) (j : Nat) (h : j < l.length) : most3 (l.take (j + 1)) = max (most3 (l.take j)) l[j].2.2 := by
  unfold most3
  rw [List.take_succ_eq_append_getElem h, List.foldl_append]; rfl
theorem cnt3_le (l : List C3) (c : Nat) : cnt3 l c ≤ l.length := List.length_filter_le _ _
theorem open3_le (l : List C3) : open3 l ≤ l.length := List.length_filter_le _ _
set_option maxRecDepth 100000 in
set_option maxHeartbeats 1000000 in
theorem r11Count_any (n : Nat) (last : Int) (v : Value) (l : List C3) (c : Nat) (w : World) (hv : Cs3 w v l) :
    Calls Try.prog 27 #[ls3 n last v, .int .i64 (c : Int)] w fun e w' => e = .returned (.int .i64 (cnt3 l c : Int)) ∧ Keeps w w' := by
  obtain ⟨p, cap, rfl, hl, hc, _⟩ := hv.get
  have hlI : (0 : Int) ≤ (l.length : Int) := by omega
  replace hv := Lib.hid hv
  unfold ls3
  go_enter Try.func27, Try.ntmps27
  go_upto_region 1 with (fail)
  obtain ⟨B, hB⟩ : ∃ B, B = w.heap.size := ⟨_, rfl⟩
  refine wp_gen (fun W => Blk W B 41 [.int .i64 (n : Int), .int .i64 last, .slice p l.length cap] ∧ Keeps w W) ⟨by rw [hB]; exact Blk.new _ _ _, Keeps.alloc _ _⟩ ?_
  rw [← hB]
  clear hB
  rintro W ⟨hB, hK⟩
  have hv2 := hv.out.keeps hK
  have z2 := hB.cell 2 (by simp)
  simp only [List.getElem_cons_succ, List.getElem_cons_zero] at z2
  have hBl := hB.lt
  replace hK := Lib.hid hK
  replace hv2 := Lib.hid hv2
  clear hv hB
  go_wp2_with fail
  go_loop [5, 6] (fun a i => ∃ j : Nat, j ≤ l.length ∧ i = .int .i64 (j : Int) ∧ ∃ N : Nat, a = .int .i64 (N : Int) ∧ N = cnt3 (l.take j) c) (fun _ i => l.length - (intOf i).toNat)
  case atStart => exact ⟨0, Nat.zero_le _, rfl, 0, rfl, rfl⟩
  case round =>
    obtain ⟨j, hj, rfl, N0, rfl, hN⟩ := hrel
    by_cases hlt : j < l.length
    · obtain ⟨_, _, hq, _, _, hcell⟩ := hv2.out.get
      obtain ⟨b, off, hp, y0, y1, y2⟩ := hcell j hlt
      simp only [Value.slice.injEq] at hq
      obtain rfl : p = some ⟨b, off, none⟩ := hq.1.trans hp
      clear hq hp hcell y1 y2
      have hs := cnt3_succ l c j hlt
      have hcl := cnt3_le (l.take j) c
      rw [List.length_take] at hcl
      have hltI := Int.ofNat_lt.2 hlt
      rw [← hN] at hs hcl
      have hc2 : (N0 : Int) ≤ (j : Int) := by omega
      have hc0 : (0 : Int) ≤ (N0 : Int) := by omega
      generalize l[j].1 = x at *
      clear hcl
      replace hN := Lib.hid hN
      by_cases e : x = c
      · have e1 : (x == c) = true := by simpa using e
        rw [if_pos e] at hs
        replace e := Lib.hid e
        replace hs := Lib.hid hs
        go_wp2_with fail
        go_round
        case rel => exact ⟨j + 1, by omega, by go_num, N0 + 1, by go_num, hs.out.symm⟩
        case measure => (simp [intOf]; try omega)
      · have e1 : (x == c) = false := by simpa using e
        rw [if_neg e] at hs
        replace e := Lib.hid e
        replace hs := Lib.hid hs
        go_wp2_with fail
        go_round
        case rel => exact ⟨j + 1, by omega, by go_num, N0, rfl, hs.out.symm⟩
        case measure => (simp [intOf]; try omega)
    · obtain rfl : j = l.length := by omega
      rw [List.take_length] at hN
      replace hN := Lib.hid hN
      go_wp2_with fail
      go_ret
      exact ⟨by rw [← hN.out]; rfl, hK.out⟩
set_option maxRecDepth 100000 in
set_option maxHeartbeats 1000000 in
theorem r11Open_any (n : Nat) (last : Int) (v : Value) (l : List C3) (w : World) (hv : Cs3 w v l) :
    Calls Try.prog 17 #[ls3 n last v] w fun e w' => e = .returned (.tuple #[.int .i64 (open3 l : Int), .int .i64 (most3 l)]) ∧ Keeps w w' := by
  obtain ⟨p, cap, rfl, hl, hc, _⟩ := hv.get
  have hlI : (0 : Int) ≤ (l.length : Int) := by omega
  replace hv := Lib.hid hv
  unfold ls3
  go_enter Try.func17, Try.ntmps17
  go_upto_region 1 with (fail)
  obtain ⟨B, hB⟩ : ∃ B, B = w.heap.size := ⟨_, rfl⟩
  refine wp_gen (fun W => Blk W B 41 [.int .i64 (n : Int), .int .i64 last, .slice p l.length cap] ∧ Keeps w W) ⟨by rw [hB]; exact Blk.new _ _ _, Keeps.alloc _ _⟩ ?_
  rw [← hB]
  clear hB
  rintro W ⟨hB, hK⟩
  have hv2 := hv.out.keeps hK
  have z2 := hB.cell 2 (by simp)
  simp only [List.getElem_cons_succ, List.getElem_cons_zero] at z2
  have hBl := hB.lt
  replace hK := Lib.hid hK
  replace hv2 := Lib.hid hv2
  clear hv hB
  go_wp2_with fail
  go_loop [4, 5, 6] (fun a m i => ∃ j : Nat, j ≤ l.length ∧ i = .int .i64 (j : Int) ∧ ∃ (N : Nat) (M : Int), a = .int .i64 (N : Int) ∧ m = .int .i64 M ∧ N = open3 (l.take j) ∧ M = most3 (l.take j)) (fun _ _ i => l.length - (intOf i).toNat)
  case atStart => exact ⟨0, Nat.zero_le _, rfl, 0, 0, rfl, rfl, rfl, rfl⟩
  case round =>
    obtain ⟨j, hj, rfl, N0, M, rfl, rfl, hN, hM⟩ := hrel
    by_cases hlt : j < l.length
    · obtain ⟨_, _, hq, _, _, hcell⟩ := hv2.out.get
      obtain ⟨b, off, hp, y0, y1, y2⟩ := hcell j hlt
      simp only [Value.slice.injEq] at hq
      obtain rfl : p = some ⟨b, off, none⟩ := hq.1.trans hp
      clear hq hp hcell y0 y1
      have hs := open3_succ l j hlt
      have hm := most3_succ l j hlt
      have hcl := open3_le (l.take j)
      rw [List.length_take] at hcl
      have hltI := Int.ofNat_lt.2 hlt
      rw [← hN] at hs hcl
      rw [← hM] at hm
      have hc2 : (N0 : Int) ≤ (j : Int) := by omega
      have hc0 : (0 : Int) ≤ (N0 : Int) := by omega
      generalize l[j].2.2 = x at *
      clear hcl
      replace hN := Lib.hid hN
      replace hM := Lib.hid hM
      by_cases g : M < x
      · rw [Int.max_eq_right (by omega)] at hm
        replace hm := Lib.hid hm
        by_cases e : x = 0
        · rw [if_pos e] at hs
          replace hs := Lib.hid hs
          subst e
          go_wp2_with fail
          go_round
          case rel => exact ⟨j + 1, by omega, by go_num, N0 + 1, _, by go_num, rfl, hs.out.symm, hm.out.symm⟩
          case measure => (simp [intOf]; try omega)
        · have e1 : (x == 0) = false := by simpa using e
          rw [if_neg e] at hs
          replace e := Lib.hid e
          replace hs := Lib.hid hs
          go_wp2_with fail
          go_round
          case rel => exact ⟨j + 1, by omega, by go_num, N0, _, rfl, rfl, hs.out.symm, hm.out.symm⟩
          case measure => (simp [intOf]; try omega)
      · rw [Int.max_eq_left (by omega)] at hm
        replace hm := Lib.hid hm
        by_cases e : x = 0
        · rw [if_pos e] at hs
          replace hs := Lib.hid hs
          subst e
          go_wp2_with fail
          go_round
          case rel => exact ⟨j + 1, by omega, by go_num, N0 + 1, _, by go_num, rfl, hs.out.symm, hm.out.symm⟩
          case measure => (simp [intOf]; try omega)
        · have e1 : (x == 0) = false := by simpa using e
          rw [if_neg e] at hs
          replace e := Lib.hid e
          replace hs := Lib.hid hs
          go_wp2_with fail
          go_round
          case rel => exact ⟨j + 1, by omega, by go_num, N0, _, rfl, rfl, hs.out.symm, hm.out.symm⟩
          case measure => (simp [intOf]; try omega)
    · obtain rfl : j = l.length := by omega
      rw [List.take_length] at hN hM
      replace hN := Lib.hid hN
      replace hM := Lib.hid hM
      go_wp2_with fail
      go_ret2
      exact ⟨by rw [← hN.out, ← hM.out]; rfl, hK.out⟩
end Go.Proofs.Ytllnncojafcdoaa
