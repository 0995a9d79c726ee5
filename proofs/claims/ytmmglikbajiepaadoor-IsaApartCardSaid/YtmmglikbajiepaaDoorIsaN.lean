/- The instruction of eight bytes. -/
import Derived.Test.YtmmglikbajiepaaDoorIsaM
import Derived.Laws.BitsAllLaws
import Derived.BigQuiet
namespace Go.Proofs.YtmmglikbajiepaaDoor
open Go.RowKit

def sgn (h x : Int) : Int := if h ≤ x then x - 2 * h else x
/-- The instruction of eight bytes. -/
def oneM (b0 b1 b2 b3 b4 b5 b6 b7 : Int) : InsS := ⟨b0, b1 / 16, b1 % 16, sgn 32768 (b2 + 256 * b3), sgn 2147483648 (b4 + 256 * b5 + 65536 * b6 + 16777216 * b7)⟩
theorem wrap_i16' (n : Int) : IntKind.i16.wrap n = (n + 32768) % 65536 - 32768 := by
  simp [IntKind.wrap, IntKind.bits, IntKind.signed]
  split <;> omega
theorem or_comm' (k : IntKind) (x y : Int) : bits .or k x y = bits .or k y x := by simp only [bits, BitVec.or_comm]
theorem or16 {x y : Int} (x0 : 0 ≤ x) (x1 : x < 256) (y0 : 0 ≤ y) (y1 : y < 256) : bits .or .u16 x (y * 256) = x + y * 256 := by
  rw [or_comm', bits_join .u16 16 (by decide) (fun n h0 h1 => by rw [IntKind.wrap_u16]; omega) 8 _ _ (by omega) (by omega) (by omega) x0 (by omega) (by omega)]; omega
theorem or32a {x y : Int} (x0 : 0 ≤ x) (x1 : x < 256) (y0 : 0 ≤ y) (y1 : y < 256) : bits .or .u32 x (y * 256) = x + y * 256 := by
  rw [or_comm', bits_join .u32 32 (by decide) (fun n h0 h1 => by rw [IntKind.wrap_u32]; omega) 8 _ _ (by omega) (by omega) (by omega) x0 (by omega) (by omega)]; omega
theorem or32b {x y : Int} (x0 : 0 ≤ x) (x1 : x < 65536) (y0 : 0 ≤ y) (y1 : y < 256) : bits .or .u32 x (y * 65536) = x + y * 65536 := by
  rw [or_comm', bits_join .u32 32 (by decide) (fun n h0 h1 => by rw [IntKind.wrap_u32]; omega) 16 _ _ (by omega) (by omega) (by omega) x0 (by omega) (by omega)]; omega
theorem or32c {x y : Int} (x0 : 0 ≤ x) (x1 : x < 16777216) (y0 : 0 ≤ y) (y1 : y < 256) : bits .or .u32 x (y * 16777216) = x + y * 16777216 := by
  rw [or_comm', bits_join .u32 32 (by decide) (fun n h0 h1 => by rw [IntKind.wrap_u32]; omega) 24 _ _ (by omega) (by omega) (by omega) x0 (by omega) (by omega)]; omega
theorem sizeIns : (Tryd.prog.info? 34).map (·.size) = some 5 := by kernel_rfl
set_option maxRecDepth 100000 in
set_option maxHeartbeats 2000000 in
theorem one_any (cb off cap : Nat) (b0 b1 b2 b3 b4 b5 b6 b7 : Int) (w : World)
    (hr : (0 ≤ b0 ∧ b0 < 256) ∧ (0 ≤ b1 ∧ b1 < 256) ∧ (0 ≤ b2 ∧ b2 < 256) ∧ (0 ≤ b3 ∧ b3 < 256) ∧ (0 ≤ b4 ∧ b4 < 256) ∧ (0 ≤ b5 ∧ b5 < 256) ∧ (0 ≤ b6 ∧ b6 < 256) ∧ (0 ≤ b7 ∧ b7 < 256))
    (hcell : w.cell? ⟨cb, off, none⟩ = some (.int .u8 b0) ∧ w.cell? ⟨cb, off + 1, none⟩ = some (.int .u8 b1) ∧ w.cell? ⟨cb, off + 2, none⟩ = some (.int .u8 b2) ∧ w.cell? ⟨cb, off + 3, none⟩ = some (.int .u8 b3) ∧ w.cell? ⟨cb, off + 4, none⟩ = some (.int .u8 b4) ∧ w.cell? ⟨cb, off + 5, none⟩ = some (.int .u8 b5) ∧ w.cell? ⟨cb, off + 6, none⟩ = some (.int .u8 b6) ∧ w.cell? ⟨cb, off + 7, none⟩ = some (.int .u8 b7)) :
    Calls Tryd.prog 35 #[.slice (some ⟨cb, off, none⟩) 8 cap] w fun e w' => e = .returned (insV (oneM b0 b1 b2 b3 b4 b5 b6 b7)) ∧ Keeps w w' := by
  obtain ⟨⟨l0, u0⟩, ⟨l1, u1⟩, ⟨l2, u2⟩, ⟨l3, u3⟩, ⟨l4, u4⟩, ⟨l5, u5⟩, ⟨l6, u6⟩, l7, u7⟩ := hr
  have o1 := or16 l2 u2 l3 u3
  have o2 := or32a l4 u4 l5 u5
  have o3 := or32b (x := b4 + b5 * 256) (by omega) (by omega) l6 u6
  have o4 := or32c (x := b4 + b5 * 256 + b6 * 65536) (by omega) (by omega) l7 u7
  have o5 := u8_and15 b1 l1 u1
  obtain ⟨r, hR⟩ : ∃ r, r = insV (oneM b0 b1 b2 b3 b4 b5 b6 b7) := ⟨_, rfl⟩
  rw [← hR]
  replace hR := Lib.hid hR
  have hB := Blk.new w 34 (insC ⟨0, 0, 0, 0, 0⟩)
  have hK := Keeps.alloc w (.cells (insC ⟨0, 0, 0, 0, 0⟩).toArray 34)
  obtain ⟨c0, c1, c2, c3, c4, c5, c6, c7⟩ := hcell
  have c0 := (hK.cell (cell_lt c0)).trans c0
  have c1 := (hK.cell (cell_lt c1)).trans c1
  have c2 := (hK.cell (cell_lt c2)).trans c2
  have c3 := (hK.cell (cell_lt c3)).trans c3
  have c4 := (hK.cell (cell_lt c4)).trans c4
  have c5 := (hK.cell (cell_lt c5)).trans c5
  have c6 := (hK.cell (cell_lt c6)).trans c6
  have c7 := (hK.cell (cell_lt c7)).trans c7
  replace hB := Lib.hid hB
  replace hK := Lib.hid hK
  go_enter Tryd.func35, Tryd.ntmps35
  go_upto_region 1 with (fail)
  obtain ⟨G, eG⟩ : ∃ G, G = w.heap.size := ⟨_, rfl⟩
  rw [← eG]
  have hB' := hB.out
  rw [← eG] at hB'
  refine wp_gen (fun W => Blk W G 34 (insC ⟨0, 0, 0, 0, 0⟩) ∧ Keeps w W ∧ W.cell? ⟨cb, off, none⟩ = some (.int .u8 b0) ∧ W.cell? ⟨cb, off + 1, none⟩ = some (.int .u8 b1) ∧ W.cell? ⟨cb, off + 2, none⟩ = some (.int .u8 b2) ∧ W.cell? ⟨cb, off + 3, none⟩ = some (.int .u8 b3) ∧ W.cell? ⟨cb, off + 4, none⟩ = some (.int .u8 b4) ∧ W.cell? ⟨cb, off + 5, none⟩ = some (.int .u8 b5) ∧ W.cell? ⟨cb, off + 6, none⟩ = some (.int .u8 b6) ∧ W.cell? ⟨cb, off + 7, none⟩ = some (.int .u8 b7)) ⟨hB', hK.out, c0, c1, c2, c3, c4, c5, c6, c7⟩ ?_
  clear hB' hB hK c0 c1 c2 c3 c4 c5 c6 c7
  rintro W ⟨hB, hK, c0, c1, c2, c3, c4, c5, c6, c7⟩
  replace eG := Lib.hid eG
  replace hB := Lib.hid hB
  replace hK := Lib.hid hK
  go_quiet (fail)
  rename_i n1
  obtain ⟨s1, hs1, hs2, hs3⟩ : ∃ s1, IntKind.i16.wrap (b2 + b3 * 256) = s1 ∧ -32768 ≤ s1 ∧ s1 ≤ 32767 := ⟨_, rfl, by rw [wrap_i16']; omega, by rw [wrap_i16']; omega⟩
  rw [hs1]
  replace hs1 := Lib.hid hs1
  go_upto_region 2 with (fail)
  go_quiet (fail)
  rename_i n2
  obtain ⟨s2, ht1, ht2, ht3⟩ : ∃ s2, wrap32 (b4 + b5 * 256 + b6 * 65536 + b7 * 16777216) = s2 ∧ -2147483648 ≤ s2 ∧ s2 ≤ 2147483647 := ⟨_, rfl, by unfold wrap32; omega, by unfold wrap32; omega⟩
  rw [ht1]
  replace ht1 := Lib.hid ht1
  go_upto_region 3 with (fail)
  refine wp_gen (fun W => Blk W G 34 (insC ⟨0, 0, 0, 0, 0⟩) ∧ Keeps w W ∧ W.cell? ⟨cb, off, none⟩ = some (.int .u8 b0) ∧ W.cell? ⟨cb, off + 1, none⟩ = some (.int .u8 b1)) ⟨(hB.out.keeps (Keeps.drewN _ _)).keeps (Keeps.drewN _ _), (hK.out.trans (Keeps.drewN _ _)).trans (Keeps.drewN _ _), c0, c1⟩ ?_
  clear hB hK c0 c1 c2 c3 c4 c5 c6 c7
  rintro W2 ⟨hB, hK, c0, c1⟩
  have x0 := After.cell c0
  have x1 := After.cell c1
  replace hB := Lib.hid hB
  replace hK := Lib.hid hK
  clear c0 c1
  refine region_after_tail 19 (by kernel_rfl) (by kernel_rfl) ?_
  simp only [List.take_succ_cons, List.take_zero, List.drop_succ_cons, List.drop_zero]
  repeat go_big_quiet_step (fail)
  refine wpQuiet_nil ?_
  rintro W3 ⟨⟨X3, hK3⟩, hX3⟩
  replace hX3 := show W3 = X3 from hX3
  subst hX3
  clear x0 x1
  have hB3 := hB.out.keeps hK3
  have hK4 := hK.out.trans hK3
  have hS : Blk (W3.setRow G [Value.int .i64 b0, .int .i64 (b1 / 16), .int .i64 (b1 % 16), .int .i64 s1, .int .i64 s2].toArray) G 34 [Value.int .i64 b0, .int .i64 (b1 / 16), .int .i64 (b1 % 16), .int .i64 s1, .int .i64 s2] := hB3.setRow _
  have hKS := Chg.keeps (Chg.setRow (S := (· = G)) (w := W3) [Value.int .i64 b0, .int .i64 (b1 / 16), .int .i64 (b1 % 16), .int .i64 s1, .int .i64 s2].toArray rfl) hK4 (fun x hx e => by have := eG.out; omega)
  have hfin : r = .agg #[.int .i64 b0, .int .i64 (b1 / 16), .int .i64 (b1 % 16), .int .i64 s1, .int .i64 s2] := by
    have e1 : sgn 32768 (b2 + 256 * b3) = s1 := by rw [← hs1.out, wrap_i16', sgn]; split <;> omega
    have e2 : sgn 2147483648 (b4 + 256 * b5 + 65536 * b6 + 16777216 * b7) = s2 := by rw [← ht1.out, wrap32, sgn]; split <;> omega
    rw [hR.out, oneM, e1, e2]
    rfl
  clear hB hK hK3 hK4
  replace hB3 := Lib.hid hB3
  replace hKS := Lib.hid hKS
  replace hS := Lib.hid hS
  replace hfin := Lib.hid hfin
  go_wp2_with (first
    | (refine storeRow hB3.out [Value.int .i64 b0, .int .i64 (b1 / 16), .int .i64 (b1 % 16), .int .i64 s1, .int .i64 s2] rfl _ _ _ rfl rfl rfl rfl 5 sizeIns rfl rfl (by intro c hc; simp at hc; rcases hc with rfl | rfl | rfl | rfl | rfl <;> rfl) ?_))
  (try simp only [Exit.inBlock, Exit.then])
  refine bodyPost_ret (results_row (t := 34) (cs := [Value.int .i64 b0, .int .i64 (b1 / 16), .int .i64 (b1 % 16), .int .i64 s1, .int .i64 s2]) rfl _ hS.out rfl _ Tryd.underlying34 rfl 5 sizeIns rfl) rfl ?_
  exact ⟨by rw [hfin.out], hKS.out⟩
end Go.Proofs.YtmmglikbajiepaaDoor
