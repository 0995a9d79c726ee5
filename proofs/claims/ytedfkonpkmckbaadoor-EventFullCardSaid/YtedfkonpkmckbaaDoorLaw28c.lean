/- EventFull: a log takes 4096 events. -/
import Derived.Test.YtedfkonpkmckbaaDoorLogF
import Derived.Test.YtedfkonpkmckbaaDoorModn
namespace Go.Proofs.YtedfkonpkmckbaaDoor
open Go.RowKit

/-- The first k events of a full log. -/
def fullK (e : EvS) (k : Nat) : List EvS := (List.range k).map fun (i : Nat) => { e with b := (i : Int) }
theorem fullK_len (e : EvS) (k : Nat) : (fullK e k).length = k := by unfold fullK; simp
theorem fullK_succ (e : EvS) (k : Nat) : fullK e (k + 1) = fullK e k ++ [{ e with b := (k : Int) }] := by
  unfold fullK; rw [List.range_succ, List.map_append]; rfl
theorem put_one (e : EvS) (k : Nat) (hk : k < 4096) (he : isKd e.k = true) : putS (fullK e k, 0) [{ e with b := (k : Int) }] = (fullK e (k + 1), 0) := by
  show put1 (fullK e k, 0) { e with b := (k : Int) } = _
  unfold put1
  rw [if_neg (by rw [he]; decide), if_neg (by rw [fullK_len]; omega), fullK_succ]
theorem put_full (e : EvS) (j : Int) (he : isKd e.k = true) : putS (fullK e 4096, j) [e] = (fullK e 4096, j + 1) := by
  show put1 (fullK e 4096, j) e = _
  unfold put1
  rw [if_neg (by rw [he]; decide), if_pos (fullK_len _ _)]
set_option maxRecDepth 100000 in
set_option maxHeartbeats 8000000 in
theorem lawFull28_any (x : EvS) (n : Int) (w : World) (hT : Tabs w) : Calls Tryd.prog 5 #[rvV x, .int .i64 n] w fun r w' => r = .returned (.bool true) ∧ Keeps w w' := by
  obtain ⟨kx, hkx, ex⟩ := wrap_mod x.k 12 (by decide)
  obtain ⟨mo, hmo, en⟩ := wrap_mod n 100 (by decide)
  obtain ⟨x2, hx2⟩ : ∃ x2 : EvS, x2 = { x with k := (kx : Int) } := ⟨_, rfl⟩
  have hxk : isKd x2.k = true := by rw [hx2, isKd_iff]; exact ⟨by show 0 ≤ (kx : Int); omega, by show (kx : Int) ≤ 11; omega⟩
  have fk := fun (W : World) (h : Keeps w W) => known28_any W (hT.keeps h)
  have fo := fun (W : World) => to_any x2 W
  have hC1 : (evC x).set 1 (.int .i64 kx) = evC x2 := by rw [hx2]; rfl
  have hBx := Blk.new w 24 (evC x)
  have hK := Keeps.alloc w (.cells (evC x).toArray 24)
  obtain ⟨X, eX⟩ : ∃ B, B = w.heap.size := ⟨_, rfl⟩
  have hwX : w.heap.size ≤ X := by omega
  rw [← eX] at hBx
  replace eX := Lib.hid eX
  replace hBx := Lib.hid hBx
  replace hK := Lib.hid hK
  replace fk := Lib.hid fk
  replace fo := Lib.hid fo
  replace hxk := Lib.hid hxk
  replace hC1 := Lib.hid hC1
  replace hx2 := Lib.hid hx2
  clear hT
  obtain ⟨tx, xk, ax, bx, nx⟩ := x
  simp only at ex
  go_enter Tryd.func5, Tryd.ntmps5
  go_upto_region 1 with (fail)
  rw [← eX.out]
  refine wp_gen (fun W => Blk W X 24 (evC ⟨tx, xk, ax, bx, nx⟩) ∧ Keeps w W) ⟨hBx.out, hK.out⟩ ?_
  clear hBx hK eX
  rintro W ⟨hBx, hK⟩
  have q1 : W.cell? ⟨X, 1, none⟩ = some (.int .i64 xk) := hBx.cell 1 (by simp [evC])
  have fx := hBx.frozen 1
  have hSx := hBx.set 1 (.int .i64 kx)
  rw [hC1.out] at hSx
  have hCh : Chg (fun b => b = X) W (W.setCell ⟨X, 1, none⟩ (.int .i64 kx)) := Chg.setCell _ _ rfl
  have hKS := Chg.keeps hCh hK (fun b hb e => by omega)
  have hkx0 : (0 : Int) ≤ (kx : Int) := by omega
  have hkx1 : (kx : Int) < 12 := by omega
  have hm0 : (0 : Int) ≤ (mo : Int) := by omega
  have hm1 : (mo : Int) < 100 := by omega
  replace hSx := Lib.hid hSx
  replace hKS := Lib.hid hKS
  clear hBx hK hCh
  go_upto_region 3 with (fail)
  refine wp_gen (fun W => Blk W X 24 (evC x2) ∧ Keeps w W) ⟨hSx.out, hKS.out⟩ ?_
  clear hSx hKS q1 fx hC1 hx2 ex en
  rintro W1 ⟨hBx, hK⟩
  have hl := Blk.new W1 35 [.slice none 0 0, .int .i64 0]
  have hk1 := Keeps.alloc W1 (.cells #[.slice none 0 0, .int .i64 0] 35)
  have hLg : LogAt _ W1.heap.size W1.heap.size (fullK x2 0) 0 (.slice none 0 0) := ⟨hl, RowS.nil 5 _ 28 _, by simp [Value.ownBlock], Nat.le_refl _⟩
  have hXl : X < W1.heap.size := hBx.lt
  have hBx := hBx.keeps hk1
  have hK2 := Keeps.trans hK hk1
  have hwl := hK.size
  obtain ⟨l, el⟩ : ∃ l, l = W1.heap.size := ⟨_, rfl⟩
  rw [← el] at hLg hwl hXl
  replace hLg := Lib.hid hLg
  replace hBx := Lib.hid hBx
  replace hK2 := Lib.hid hK2
  replace el := Lib.hid el
  clear hl hk1 hK
  go_upto_region 4 with (fail)
  rw [← el.out]
  refine wp_gen (fun W => LogAt W l l (fullK x2 0) 0 (.slice none 0 0) ∧ Blk W X 24 (evC x2) ∧ Keeps w W) ⟨hLg.out, hBx.out, hK2.out⟩ ?_
  clear hLg hBx hK2 el
  rintro W2 ⟨hLg, hBx, hK⟩
  replace hLg := Lib.hid hLg
  replace hBx := Lib.hid hBx
  replace hK := Lib.hid hK
  obtain ⟨t2, k2, a2, b2, n2⟩ := x2
  go_wp2_with fail
  go_loopw [6] (fun iv wr => ∃ (k : Nat) (v : Value), k ≤ 4096 ∧ iv = .int .i64 (k : Int) ∧ LogAt wr l l (fullK ⟨t2, k2, a2, b2, n2⟩ k) 0 v ∧ Blk wr X 24 (evC ⟨t2, k2, a2, b2, n2⟩) ∧ Keeps w wr) (fun iv _ => 4096 - (intOf iv).toNat)
  case atStart => exact ⟨0, _, by decide, rfl, hLg.out, hBx.out, hK.out⟩
  case round =>
    clear hLg hBx hK
    obtain ⟨k, v, hk, rfl, hL, hB, hK⟩ := hrel
    have hk0 : (0 : Int) ≤ (k : Int) := by omega
    by_cases hlt : k < 4096
    · have hltI : (k : Int) < 4096 := by omega
      obtain ⟨q0, q1, q2, q3, q4⟩ := show wr.cell? ⟨X, 0, none⟩ = some (.int .u64 (t2 : Int)) ∧ wr.cell? ⟨X, 1, none⟩ = some (.int .i64 k2) ∧ wr.cell? ⟨X, 2, none⟩ = some (.int .i64 a2) ∧ wr.cell? ⟨X, 3, none⟩ = some (.int .i64 b2) ∧ wr.cell? ⟨X, 4, none⟩ = some (.int .u64 (n2 : Int)) from ⟨hB.cell 0 (by simp [evC]), hB.cell 1 (by simp [evC]), hB.cell 2 (by simp [evC]), hB.cell 3 (by simp [evC]), hB.cell 4 (by simp [evC])⟩
      replace hL := Lib.hid hL
      replace hB := Lib.hid hB
      replace hK := Lib.hid hK
      go_wp2_with fail
      with_reducible refine (fo.out _).mono ?_
      rintro e w1 ⟨rfl, hK1⟩
      have hb := Blk.new w1 28 (evC ⟨t2, k2, a2, b2, n2⟩)
      have hKa := Keeps.alloc w1 (.cells #[.int .u64 (t2 : Int), .int .i64 k2, .int .i64 a2, .int .i64 b2, .int .u64 (n2 : Int)] 28)
      have hL0 := hL.out.keeps hK1
      have hB0 := hB.out.keeps hK1
      have hlA : l < w1.heap.size := hL0.hdr.lt
      have hvA := hL0.lt
      have hXA : X < w1.heap.size := hB0.lt
      have hL1 := hL0.keeps hKa
      have hB1 := hB0.keeps hKa
      have hK3 := Keeps.trans (Keeps.trans hK.out hK1) hKa
      have hwA : w.heap.size ≤ w1.heap.size := (Keeps.trans hK.out hK1).size
      obtain ⟨A, eA⟩ : ∃ A, A = w1.heap.size := ⟨_, rfl⟩
      rw [← eA] at hb hlA hvA hXA hwA
      replace hb := Lib.hid hb
      replace hL1 := Lib.hid hL1
      replace hB1 := Lib.hid hB1
      replace hK3 := Lib.hid hK3
      replace eA := Lib.hid eA
      replace hvA := Lib.hid hvA
      clear q0 q1 q2 q3 q4 hL0 hB0 hKa hK1 hL hB hK
      go_upto_region 8 with (fail)
      rw [← eA.out]
      refine wp_gen (fun W => LogAt W l l (fullK ⟨t2, k2, a2, b2, n2⟩ k) 0 v ∧ Blk W X 24 (evC ⟨t2, k2, a2, b2, n2⟩) ∧ Blk W A 28 (evC ⟨t2, k2, a2, b2, n2⟩) ∧ Keeps w W) ⟨hL1.out, hB1.out, hb.out, hK3.out⟩ ?_
      clear hL1 hB1 hb hK3 eA
      rintro W3 ⟨hL, hB, hb, hK⟩
      have f3 := hb.frozen 3
      have y3 : W3.cell? ⟨A, 3, none⟩ = some (.int .i64 b2) := hb.cell 3 (by simp [evC])
      have hs : Blk (W3.setCell ⟨A, 3, none⟩ (.int .i64 (k : Int))) A 28 (evC ⟨t2, k2, a2, (k : Int), n2⟩) := hb.set 3 _
      have hc : Chg (· = A) W3 (W3.setCell ⟨A, 3, none⟩ (.int .i64 (k : Int))) := Chg.setCell _ _ rfl
      have hL := hL.chg hc (by omega) (fun b hb' e => by have := hvA.out b hb'; omega)
      have hB := hB.chg hc (by omega)
      have hK := Chg.keeps hc hK (fun b hb' e => by omega)
      replace hL := Lib.hid hL
      replace hB := Lib.hid hB
      replace hK := Lib.hid hK
      replace hs := Lib.hid hs
      clear hb hc
      go_upto_region 9 with (fail)
      refine wp_gen (fun W => LogAt W l l (fullK ⟨t2, k2, a2, b2, n2⟩ k) 0 v ∧ Blk W X 24 (evC ⟨t2, k2, a2, b2, n2⟩) ∧ Blk W A 28 (evC ⟨t2, k2, a2, (k : Int), n2⟩) ∧ Keeps w W) ⟨hL.out, hB.out, hs.out, hK.out⟩ ?_
      clear hL hB hs hK f3 y3
      rintro W4 ⟨hL, hB, hb, hK⟩
      obtain ⟨y0, y1, y2, y3, y4⟩ := evBlk hb
      have hbs := Blk.new W4 28 (evC ⟨t2, k2, a2, (k : Int), n2⟩)
      have hKa := Keeps.alloc W4 (.cells #[.int .u64 (t2 : Int), .int .i64 k2, .int .i64 a2, .int .i64 (k : Int), .int .u64 (n2 : Int)] 28)
      have hL1 := hL.keeps hKa
      have hB1 := hB.keeps hKa
      have hK1 := Keeps.trans hK hKa
      have hput := lput_any (xs := [⟨t2, k2, a2, (k : Int), n2⟩]) hL1 (slcs_one hbs rfl) (fun b hb' e => by
        obtain rfl : W4.heap.size = b := by simpa [Value.ownBlock] using hb'
        rcases e with e | e
        · have := hL.hdr.lt; omega
        · have := hL.lt _ e; omega) (by rw [fullK_len]; exact hk) (by decide) (by simp)
      have hp1 := put_one ⟨t2, k2, a2, b2, n2⟩ k hlt hxk.out
      simp only at hp1
      rw [hp1, fullK_len, fullK_len, show ((k + 1 : Nat) : Int) - (k : Int) = 1 by omega] at hput
      have hvo := hL.row.own
      replace hvo := Lib.hid hvo
      have hwl2 : w.heap.size ≤ l := hwl
      replace hL1 := Lib.hid hL1
      replace hB1 := Lib.hid hB1
      replace hK1 := Lib.hid hK1
      replace hput := Lib.hid hput
      clear hL hB hb hK hKa hbs hp1
      go_wp2_with fail
      with_reducible refine (hput.out).mono ?_
      rintro e w5 ⟨rfl, v', hL5, hO5, hC5⟩
      have hB5 := hB1.out.chg hC5 (fun e => by
        rcases e with e | e
        · omega
        · have := hvo.out X e; omega)
      have hK5 := Chg.keeps hC5 hK1.out (fun b hb' e => by
        rcases e with e | e
        · omega
        · have := hvo.out b e; omega)
      replace hL5 := Lib.hid hL5
      replace hB5 := Lib.hid hB5
      replace hK5 := Lib.hid hK5
      clear hL1 hB1 hK1 hvo hO5 hC5 y0 y1 y2 y3 y4 hput
      go_wp2_with fail
      refine ⟨⟨k + 1, _, by omega, by go_num, hL5.out, hB5.out, hK5.out⟩, ?_⟩
      show 4096 - (intOf (.int .i64 ((k : Int) + 1))).toNat < 4096 - (intOf (.int .i64 (k : Int))).toNat
      simp only [intOf]; omega
    · obtain rfl : k = 4096 := by omega
      replace hL := Lib.hid hL
      replace hB := Lib.hid hB
      replace hK := Lib.hid hK
      clear hlt hk hk0
      go_upto_region 11 with (fail)
      rw [show ((4096 : Nat) : Int) = 4096 from rfl]
      have hpf := fun j : Int => put_full ⟨t2, k2, a2, b2, n2⟩ j hxk.out
      have hfl := fullK_len ⟨t2, k2, a2, b2, n2⟩ 4096
      have hat : ∀ i (hi : i < (fullK ⟨t2, k2, a2, b2, n2⟩ 4096).length), (fullK ⟨t2, k2, a2, b2, n2⟩ 4096)[i] = ⟨t2, k2, a2, (i : Int), n2⟩ := fun i hi => by simp [fullK]
      generalize fullK ⟨t2, k2, a2, b2, n2⟩ 4096 = fl at *
      replace hpf := Lib.hid hpf
      replace hfl := Lib.hid hfl
      replace hat := Lib.hid hat
      go_wp2_with fail
      go_loopw [8] (fun iv wr => ∃ (k : Nat) (v : Value), k ≤ mo ∧ iv = .int .i64 (k : Int) ∧ LogAt wr l l fl (k : Int) v ∧ Blk wr X 24 (evC ⟨t2, k2, a2, b2, n2⟩) ∧ Keeps w wr) (fun iv _ => mo - (intOf iv).toNat)
      case atStart => exact ⟨0, _, Nat.zero_le _, rfl, hL.out, hB.out, hK.out⟩
      case round =>
        clear hL hB hK
        rename_i wq _ _ _
        clear v
        obtain ⟨k, v, hk, rfl, hL, hB, hK⟩ := hrel
        have hk0 : (0 : Int) ≤ (k : Int) := by omega
        by_cases hlt : k < mo
        · have hltI : (k : Int) < (mo : Int) := by omega
          obtain ⟨q0, q1, q2, q3, q4⟩ := show wr.cell? ⟨X, 0, none⟩ = some (.int .u64 (t2 : Int)) ∧ wr.cell? ⟨X, 1, none⟩ = some (.int .i64 k2) ∧ wr.cell? ⟨X, 2, none⟩ = some (.int .i64 a2) ∧ wr.cell? ⟨X, 3, none⟩ = some (.int .i64 b2) ∧ wr.cell? ⟨X, 4, none⟩ = some (.int .u64 (n2 : Int)) from ⟨hB.cell 0 (by simp [evC]), hB.cell 1 (by simp [evC]), hB.cell 2 (by simp [evC]), hB.cell 3 (by simp [evC]), hB.cell 4 (by simp [evC])⟩
          replace hL := Lib.hid hL
          replace hB := Lib.hid hB
          replace hK := Lib.hid hK
          go_wp2_with fail
          with_reducible refine (fo.out _).mono ?_
          rintro e w1 ⟨rfl, hK1⟩
          have hbs := Blk.new w1 28 (evC ⟨t2, k2, a2, b2, n2⟩)
          have hKa := Keeps.alloc w1 (.cells #[.int .u64 (t2 : Int), .int .i64 k2, .int .i64 a2, .int .i64 b2, .int .u64 (n2 : Int)] 28)
          have hL0 := hL.out.keeps hK1
          have hB0 := hB.out.keeps hK1
          have hL1 := hL0.keeps hKa
          have hB1 := hB0.keeps hKa
          have hK3 := Keeps.trans (Keeps.trans hK.out hK1) hKa
          have hput := lput_any (xs := [⟨t2, k2, a2, b2, n2⟩]) hL1 (slcs_one hbs rfl) (fun b hb' e => by
            obtain rfl : w1.heap.size = b := by simpa [Value.ownBlock] using hb'
            rcases e with e | e
            · have := hL0.hdr.lt; omega
            · have := hL0.lt _ e; omega) (by rw [hfl.out]; exact Nat.le_refl _) (by omega) (by simp; omega)
          rw [hpf.out, show ((fl.length : Int) - (fl.length : Int)) = 0 by omega] at hput
          have hvo := hL0.row.own
          replace hvo := Lib.hid hvo
          replace hB1 := Lib.hid hB1
          replace hK3 := Lib.hid hK3
          replace hput := Lib.hid hput
          clear hL hB hK hL0 hB0 hL1 hKa hK1 hbs q0 q1 q2 q3 q4
          go_wp2_with fail
          with_reducible refine (hput.out).mono ?_
          rintro e w5 ⟨rfl, v', hL5, hO5, hC5⟩
          have hB5 := hB1.out.chg hC5 (fun e => by
            rcases e with e | e
            · omega
            · have := hvo.out X e; omega)
          have hK5 := Chg.keeps hC5 hK3.out (fun b hb' e => by
            rcases e with e | e
            · omega
            · have := hvo.out b e; omega)
          replace hL5 := Lib.hid hL5
          replace hB5 := Lib.hid hB5
          replace hK5 := Lib.hid hK5
          clear hB1 hK3 hvo hO5 hC5 hput
          go_wp2_with fail
          go_roundw
          case rel => exact ⟨k + 1, _, by omega, by go_num, by rw [show ((k + 1 : Nat) : Int) = (k : Int) + 1 by omega]; exact hL5.out, hB5.out, hK5.out⟩
          case measure => (simp [intOf]; try omega)
        · obtain rfl : k = mo := by omega
          have hli := list_any28 hL (by rw [hfl.out]; exact Nat.le_refl _)
          replace hL := Lib.hid hL
          replace hB := Lib.hid hB
          replace hK := Lib.hid hK
          replace hli := Lib.hid hli
          clear hlt hk
          go_wp2_with fail
          with_reducible refine (hli.out).mono ?_
          rintro e w6 ⟨u, rfl, hu, hK6⟩
          have hL6 := hL.out.keeps hK6
          have hB6 := hB.out.keeps hK6
          have hKw := Keeps.trans hK.out hK6
          have hlo := lost_any28 hL6
          have hle := len_any28 hL6
          rw [hfl.out, show ((4096 : Nat) : Int) = 4096 from rfl] at hle
          obtain ⟨uq, uc, hus, _, _, huc⟩ := hu.slcs.get
          rw [List.length_map, hfl.out] at hus huc
          subst hus
          obtain ⟨q0, q2⟩ := show w6.cell? ⟨X, 0, none⟩ = some (.int .u64 (t2 : Int)) ∧ w6.cell? ⟨X, 2, none⟩ = some (.int .i64 a2) from ⟨hB6.cell 0 (by simp [evC]), hB6.cell 2 (by simp [evC])⟩
          replace hlo := Lib.hid hlo
          replace hle := Lib.hid hle
          replace huc := Lib.hid huc
          replace hKw := Lib.hid hKw
          clear hL hB hK hL6 hB6 hK6 hu hli
          go_upto_region 17 with (fail)
          go_wp2_with fail
          with_reducible refine (hlo.out).mono ?_
          rintro e w' ⟨rfl, rfl⟩
          go_wp2_with fail
          with_reducible refine (hle.out).mono ?_
          rintro e w' ⟨rfl, rfl⟩
          go_wp2_with fail
          go_loopw [10] (fun iv wr => ∃ j : Nat, j ≤ 4096 ∧ iv = .int .i64 (j : Int) ∧ Keeps w6 wr) (fun iv _ => 4096 - (intOf iv).toNat)
          case atStart => exact ⟨0, by decide, rfl, Keeps.refl _⟩
          case round =>
            obtain ⟨j, hj, rfl, hKr⟩ := hrel
            have hj0 : (0 : Int) ≤ (j : Int) := by omega
            by_cases hjl : j < 4096
            · have hjI : (j : Int) < 4096 := by omega
              obtain ⟨cb, off, rfl, hcell⟩ := huc.out j hjl
              have e0 : (fl.map evC).getD j [] = evC ⟨t2, k2, a2, (j : Int), n2⟩ := by
                have h1 : j < fl.length := by rw [hfl.out]; exact hjl
                rw [← hat.out j h1]; simp [List.getD, h1]
              rw [e0] at hcell
              have y0 := kcell hKr (hcell 0 (by decide))
              have y2 := kcell hKr (hcell 2 (by decide))
              have y3 := kcell hKr (hcell 3 (by decide))
              have p0 := kcell hKr q0
              have p2 := kcell hKr q2
              simp only [evC, List.getD_cons_zero, List.getD_cons_succ, Nat.add_zero] at y0 y2 y3
              have hne : ((j : Int) == 4096) = false := by rw [beq_eq_false_iff_ne]; omega
              replace hKr := Lib.hid hKr
              clear hcell e0 q0 q2
              go_wp2_with fail
              go_quiet (fail)
              rename_i nq
              go_wp2_with fail
              go_roundw
              case rel => exact ⟨j + 1, by omega, by go_num, Keeps.trans hKr.out (Keeps.drewN _ _)⟩
              case measure => (simp [intOf]; try omega)
            · obtain rfl : j = 4096 := by omega
              have g := fk.out wr (Keeps.trans hKw.out hKr)
              have hKe := Lib.hid (Keeps.trans hKw.out hKr)
              replace g := Lib.hid g
              clear hKr hj hj0 hjl
              go_wp2_with fail
              with_reducible refine (g.out).mono ?_
              rintro e w7 ⟨rfl, hK7⟩
              have hKz := Lib.hid (Keeps.trans hKe.out hK7)
              clear hK7 hKe g
              go_wp2_with fail
              go_ret
              exact ⟨rfl, hKz.out⟩
end Go.Proofs.YtedfkonpkmckbaaDoor
