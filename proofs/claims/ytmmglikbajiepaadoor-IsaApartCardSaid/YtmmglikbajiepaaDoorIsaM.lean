/- The document's bytes. -/
import Derived.Test.YtmmglikbajiepaaDoorIsaL
namespace Go.Proofs.YtmmglikbajiepaaDoor
open Go.RowKit

/-- The byte of a number at a place. -/
def nthB (n : Int) : Nat → Int
  | 0 => n % 256
  | p + 1 => nthB (n / 256) p
theorem nthB_16 (n : Int) : nthB (n % 65536) 0 = nthB n 0 ∧ nthB (n % 65536) 1 = nthB n 1 := by
  simp only [nthB]; omega
theorem nthB_32 (n : Int) : nthB (n % 4294967296) 0 = nthB n 0 ∧ nthB (n % 4294967296) 1 = nthB n 1 ∧ nthB (n % 4294967296) 2 = nthB n 2 ∧ nthB (n % 4294967296) 3 = nthB n 3 := by
  simp only [nthB]; omega
set_option maxRecDepth 100000 in
set_option maxHeartbeats 1000000 in
theorem part_any (n m : Int) (p : Nat) (hm : 0 < m ∧ m ≤ 4294967296) (hp : p ≤ 3) (w : World) : Calls Tryd.prog 34 #[.int .i64 n, .int .i64 m, .int .i64 (p : Int)] w fun e w' => e = .returned (.int .u8 (nthB (n % m) p)) ∧ w = w' := by
  obtain ⟨r, hr⟩ : ∃ r, r = nthB (n % m) p := ⟨_, rfl⟩
  rw [← hr]
  obtain ⟨hm0, hm1⟩ := hm
  have hmod0 := Int.emod_nonneg n (by omega : m ≠ 0)
  have hmod1 := Int.emod_lt_of_pos n hm0
  have ht0 : n.tmod m < m := Int.tmod_lt_of_pos n hm0
  have ht1 : -m < n.tmod m := Int.lt_tmod_of_pos n hm0
  have ht2 : (n.tmod m + m).tmod m = n % m := by
    rw [Int.tmod_eq_emod_of_nonneg (by omega), Int.add_emod_right, Int.tmod_def, Int.sub_emod, Int.mul_emod_right, Int.sub_zero, Int.emod_emod]
  have hw : wrap64 (n.tmod m + m) = n.tmod m + m := by unfold wrap64; omega
  replace hr := Lib.hid hr
  go_enter Tryd.func34, Tryd.ntmps34
  go_wp2_with fail
  generalize n % m = x at *
  clear ht0 ht1 ht2 hw
  go_loopw [0, 7] (fun nv iv wr => ∃ (j : Nat) (y : Int), nv = .int .i64 y ∧ 0 ≤ y ∧ y < 4294967296 ∧ j ≤ p ∧ iv = .int .i64 (j : Int) ∧ r = nthB y (p - j) ∧ w = wr) (fun _ iv _ => p - (intOf iv).toNat)
  case atStart => exact ⟨0, x, rfl, hmod0, by omega, by omega, rfl, hr.out, rfl⟩
  case round =>
    clear hr hmod0 hmod1
    obtain ⟨j, y, rfl, hy0, hy1, hj, rfl, hr, rfl⟩ := hrel
    by_cases hjp : j < p
    · have hI : (j : Int) < (p : Int) := by omega
      have hq : y.tdiv 256 = y / 256 := Int.tdiv_eq_ediv_of_nonneg hy0
      rw [show p - j = (p - (j + 1)) + 1 by omega, nthB] at hr
      replace hr := Lib.hid hr
      go_wp2_with fail
      go_roundw
      case rel => exact ⟨j + 1, y / 256, by go_num, by omega, by omega, by omega, by go_num, hr.out, trivial⟩
      case measure => (simp [intOf]; try omega)
    · have hI : ¬ (j : Int) < (p : Int) := by omega
      have hq : y.tmod 256 = y % 256 := Int.tmod_eq_emod_of_nonneg hy0
      rw [show p - j = 0 by omega, nthB] at hr
      replace hr := Lib.hid hr
      go_wp2_with fail
      go_ret
      exact ⟨by rw [hr.out]; rfl, rfl⟩
theorem own_new (w : World) (e : TypeId) (base : Nat) (cs : List Value) (hb : base ≤ w.heap.size) (hm : cs.length ≤ maxLen) : (w.alloc (.cells cs.toArray e)).ownsRow base e 1 (.slice (some ⟨w.heap.size, 0, none⟩) cs.length cs.length) cs.length cs :=
  ⟨by simp, .inr ⟨w.heap.size, cs.length, cs.toArray, rfl, hb, World.alloc_heap_new w _, Nat.le_refl _, hm, by simp, by simp⟩⟩
theorem lowL_nth (n : Int) : lowL n 4 = (List.range 4).map (nthB n) := rfl
set_option maxRecDepth 100000 in
set_option maxHeartbeats 2000000 in
theorem rbytes_any (i : InsS) (h0 : errM i = 0) (w : World) : Calls Tryd.prog 19 #[insV i] w fun e w' => ∃ v', e = .returned v' ∧ w'.ownsRow w.heap.size 5 1 v' 8 ((insB i).map (Value.int .u8)) ∧ Keeps w w' := by
  obtain ⟨hcl, d0, d1, s0, s1, o0, o1, i0, i1⟩ := errM_right h0
  obtain ⟨L, hL⟩ : ∃ L, L = insB i := ⟨_, rfl⟩
  rw [← hL]
  replace hL := Lib.hid hL
  clear hcl h0
  obtain ⟨op, dst, src, off, imm⟩ := i
  simp only at d0 d1 s0 s1 o0 o1 i0 i1
  have fo0 : ∀ w, Calls Tryd.prog 34 #[.int .i64 off, .int .i64 65536, .int .i64 0] w fun e w' => e = .returned (.int .u8 (nthB off 0)) ∧ w = w' := fun w => by
    have := part_any off 65536 0 (by omega) (by omega) w
    rw [(nthB_16 off).1] at this
    exact this
  have fo1 : ∀ w, Calls Tryd.prog 34 #[.int .i64 off, .int .i64 65536, .int .i64 1] w fun e w' => e = .returned (.int .u8 (nthB off 1)) ∧ w = w' := fun w => by
    have := part_any off 65536 1 (by omega) (by omega) w
    rw [(nthB_16 off).2] at this
    exact this
  have fi : ∀ j : Nat, j < 4 → ∀ w, Calls Tryd.prog 34 #[.int .i64 imm, .int .i64 4294967296, .int .i64 (j : Int)] w fun e w' => e = .returned (.int .u8 (nthB imm j)) ∧ w = w' := fun j hj w => by
    have := part_any imm 4294967296 j (by omega) (by omega) w
    have h4 := nthB_32 imm
    rw [show nthB (imm % 4294967296) j = nthB imm j by
      match j, hj with
      | 0, _ => exact h4.1
      | 1, _ => exact h4.2.1
      | 2, _ => exact h4.2.2.1
      | 3, _ => exact h4.2.2.2] at this
    exact this
  have hB := Blk.new w 29 (insC ⟨op, dst, src, off, imm⟩)
  have hK := Keeps.alloc w (.cells (insC ⟨op, dst, src, off, imm⟩).toArray 29)
  obtain ⟨B, eB⟩ : ∃ B, B = w.heap.size := ⟨_, rfl⟩
  rw [← eB] at hB
  replace eB := Lib.hid eB
  replace hB := Lib.hid hB
  replace hK := Lib.hid hK
  replace fo0 := Lib.hid fo0
  replace fo1 := Lib.hid fo1
  replace fi := Lib.hid fi
  unfold insV
  go_enter Tryd.func19, Tryd.ntmps19
  go_upto_region 1 with (fail)
  rw [← eB.out]
  refine wp_gen (fun W => Blk W B 29 (insC ⟨op, dst, src, off, imm⟩) ∧ Keeps w W) ⟨hB.out, hK.out⟩ ?_
  clear hB hK eB
  rintro W ⟨hB, hK⟩
  obtain ⟨y0, y1, y2, y3, y4⟩ := insBlk hB
  have x0 := After.cell y0
  have x1 := After.cell y1
  have x2 := After.cell y2
  have x3 := After.cell y3
  have g0 := Lib.hid fun y : After W => y.same (fo0.out y.now)
  have g1 := Lib.hid fun y : After W => y.same (fo1.out y.now)
  clear y0 y1 y2 y3 y4 fo0 fo1
  replace hB := Lib.hid hB
  replace hK := Lib.hid hK
  refine region_after_tail 16 (by kernel_rfl) (by kernel_rfl) ?_
  simp only [List.take_succ_cons, List.take_zero, List.drop_succ_cons, List.drop_zero]
  repeat go_big_quiet_step (first | (with_reducible exact g0.out _) | (with_reducible exact g1.out _))
  refine wpQuiet_nil ?_
  rintro W3 ⟨⟨X3, hK3⟩, hX3⟩
  replace hX3 := show W3 = X3 from hX3
  subst hX3
  clear x0 x1 x2 x3 g0 g1
  have hK4 := hK.out.trans hK3
  have hown := own_new W3 5 w.heap.size ([op % 256, 16 * dst + src, nthB off 0, nthB off 1].map (Value.int .u8)) hK4.size (by simp [maxLen])
  have hB5 := hB.out.keeps (hK3.trans (Keeps.alloc W3 (.cells ([op % 256, 16 * dst + src, nthB off 0, nthB off 1].map (Value.int .u8)).toArray 5)))
  have hK5 := hK4.trans (Keeps.alloc W3 (.cells ([op % 256, 16 * dst + src, nthB off 0, nthB off 1].map (Value.int .u8)).toArray 5))
  clear hB hK hK3 hK4
  replace hown := Lib.hid hown
  replace hB5 := Lib.hid hB5
  replace hK5 := Lib.hid hK5
  go_wp2_with fail
  go_loopw [3, 4] (fun ov iv wr => ∃ (j : Nat), j ≤ 4 ∧ iv = .int .i64 (j : Int) ∧ wr.ownsRow w.heap.size 5 1 ov (4 + j) (([op % 256, 16 * dst + src, nthB off 0, nthB off 1] ++ (List.range j).map (nthB imm)).map (Value.int .u8)) ∧ Blk wr B 29 (insC ⟨op, dst, src, off, imm⟩) ∧ Keeps w wr) (fun _ iv _ => 4 - (intOf iv).toNat)
  case atStart => exact ⟨0, by omega, rfl, hown.out, hB5.out, hK5.out⟩
  case round =>
    clear hown hB5 hK5
    obtain ⟨j, hj, rfl, hown, hB, hK⟩ := hrel
    by_cases hj4 : j < 4
    · have hI : (j : Int) < 4 := by omega
      obtain ⟨y0, y1, y2, y3, y4⟩ := insBlk hB
      have fj := fi.out j hj4
      have hbs : w.heap.size ≤ wr.heap.size := hK.size
      generalize hz : nthB imm j = z at *
      have hne := own_ne hown hB (by decide)
      replace hown := Lib.hid hown
      replace hB := Lib.hid hB
      replace hK := Lib.hid hK
      replace fj := Lib.hid fj
      replace hbs := Lib.hid hbs
      replace hz := Lib.hid hz
      replace hne := Lib.hid hne
      go_wp2_with (first | (go_at_call 34; with_reducible refine (fj.out _).mono ?_; rintro e w' ⟨rfl, rfl⟩) | (at_builtin; refine app1 rfl _ _ 38 5 (.int .u8 0) 1 rfl Tryd.underlying38 infoU8 rfl w.heap.size _ (4 + j) _ rfl hown.out _ rfl rfl ?_ ?_ hbs.out ?_; rotate_left; rotate_left; intro g cap w1 hown1 hgrow hbel; have hB1 := ((hB.out.alloc _).kept hgrow hne.out); replace hB1 := Lib.hid hB1; replace hown1 := Lib.hid hown1; replace hbel := Lib.hid hbel; clear hgrow hown hB))
      case refine_1 => unfold maxLen; omega
      case refine_2 => omega
      go_roundw
      case rel =>
        refine ⟨j + 1, by omega, by go_num, ?_, hB1.out, Below.trans hK.out hbel.out⟩
        have := hown1.out
        rw [← hz.out] at this
        rw [List.range_succ, List.map_append (l₁ := List.range j), ← List.append_assoc, List.map_append (f := Value.int .u8)]
        exact this
      case measure => (simp [intOf]; try omega)
    · have hI : ¬ (j : Int) < 4 := by omega
      have hj4' : j = 4 := by omega
      subst hj4'
      have hfin : L = [op % 256, 16 * dst + src, nthB off 0, nthB off 1] ++ (List.range 4).map (nthB imm) := by
        rw [hL.out, insB, lowL_nth, show (dst * 16 + src) % 256 = 16 * dst + src by omega]
        rfl
      rw [← hfin] at hown
      replace hown := Lib.hid hown
      replace hK := Lib.hid hK
      clear hB hfin fi
      go_wp2_with fail
      go_ret
      exact ⟨_, rfl, hown.out, hK.out⟩
end Go.Proofs.YtmmglikbajiepaaDoor
