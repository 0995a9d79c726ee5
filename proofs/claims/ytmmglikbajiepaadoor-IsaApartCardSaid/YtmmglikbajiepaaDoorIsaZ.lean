/- detentref13.Same; instructions of the document's as the program's, and back; what is known. -/
import Derived.Test.YtmmglikbajiepaaDoorIsaY
namespace Go.Proofs.YtmmglikbajiepaaDoor
open Go.RowKit

def sameL (a b : List Int) : Bool := decide (a = b)
theorem sameL_self (a : List Int) : sameL a a = true := by simp [sameL]
theorem Byts.open {w : World} {v : Value} {zs : List Int} (h : Byts w v zs) : ∃ p cap, v = .slice p zs.length cap ∧ zs.length ≤ cap ∧ cap ≤ 9223372036854775807 ∧
    ∀ k, (hk : k < zs.length) → ∃ b off, p = some ⟨b, off, none⟩ ∧ w.cell? ⟨b, off + k, none⟩ = some (.int .u8 zs[k]) := by
  obtain ⟨p, cap, hv, hl, hc, hn, h⟩ := h
  rw [List.length_map] at hv hl h
  unfold maxLen at hc
  refine ⟨p, cap, hv, hl, hc, fun k hk => ?_⟩
  obtain ⟨b, off, hp, hcell⟩ := h k hk
  exact ⟨b, off, hp, by rw [hcell]; simp [List.getD, hk]⟩
set_option maxHeartbeats 1000000 in
theorem same_any (a b : List Int) (u v : Value) (w : World) (hu : Byts w u a) (hv : Byts w v b) :
    Calls Tryd.prog 18 #[u, v] w fun e w' => e = .returned (.bool (sameL a b)) ∧ Keeps w w' := by
  obtain ⟨p, cap, rfl, hl, hc, hcell⟩ := hu.open
  obtain ⟨p', cap', rfl, hl', hc', hcell'⟩ := hv.open
  by_cases hab : a.length = b.length
  · have hn : ((a.length : Int) != (b.length : Int)) = false := by rw [bne_eq_false_iff_eq]; omega
    replace hab := Lib.hid hab
    clear hu hv
    go_enter Tryd.func18, Tryd.ntmps18
    go_wp2
    go_loopw [5] (fun t wr => ∃ k : Nat, k ≤ a.length ∧ t = .int .i64 k ∧ a.take k = b.take k ∧ Keeps w wr) (fun t _ => a.length - (intOf t).toNat)
    case atStart => exact ⟨0, by omega, rfl, rfl, Keeps.refl _⟩
    case round =>
      obtain ⟨k, hk, rfl, hf, hK⟩ := hrel
      by_cases hlt : k < a.length
      · have hlt' : k < b.length := by have := hab.out; omega
        obtain ⟨b1, o1, rfl, h1⟩ := hcell k hlt
        obtain ⟨b2, o2, rfl, h2⟩ := hcell' k hlt'
        have g1 := (hK.cell (p := ⟨b1, o1 + k, none⟩) (cell_lt h1)).trans h1
        have g2 := (hK.cell (p := ⟨b2, o2 + k, none⟩) (cell_lt h2)).trans h2
        have i1 : (0 : Int) ≤ (k : Int) := by omega
        have i2 : (k : Int) < (a.length : Int) := by omega
        have i3 : (k : Int) < (b.length : Int) := by omega
        clear hcell hcell' h1 h2
        by_cases he : a[k] = b[k]
        · have hq : (a[k] != b[k]) = false := by rw [bne_eq_false_iff_eq]; exact he
          have hN := Lib.hid (show a.take (k + 1) = b.take (k + 1) by rw [List.take_succ_eq_append_getElem hlt, List.take_succ_eq_append_getElem hlt', hf, he])
          replace hf := Lib.hid hf
          replace he := Lib.hid he
          go_wp2
          go_quiet (fail)
          go_wp2
          go_roundw
          case rel => exact ⟨k + 1, by omega, by go_num, hN.out, Keeps.trans hK (Keeps.drewN wr _)⟩
          case measure => (simp [intOf]; try omega)
        · have hq : (a[k] != b[k]) = true := by rw [bne_iff_ne]; exact he
          have hN := Lib.hid (show sameL a b = false by
            simp only [sameL, decide_eq_false_iff_not]; intro h; subst h; exact he rfl)
          replace hf := Lib.hid hf
          replace he := Lib.hid he
          go_wp2
          go_quiet (fail)
          go_wp2
          go_ret
          exact ⟨ret_bool hN.out.symm, Keeps.trans hK (Keeps.drewN wr _)⟩
      · obtain rfl : k = a.length := by omega
        have hN := Lib.hid (show sameL a b = true by
            have h := hab.out
            rw [List.take_of_length_le (Nat.le_refl _), List.take_of_length_le (by omega)] at hf
            simp [sameL, hf])
        clear hf
        go_wp2
        go_ret
        exact ⟨ret_bool hN.out.symm, hK⟩
  · have hn : ((a.length : Int) != (b.length : Int)) = true := by rw [bne_iff_ne]; omega
    have hN := Lib.hid (show sameL a b = false by
            simp only [sameL, decide_eq_false_iff_not]; intro h; subst h; exact hab rfl)
    clear hab hu hv
    go_enter Tryd.func18, Tryd.ntmps18
    go_wp2
    go_ret
    exact ⟨ret_bool hN.out.symm, Keeps.refl _⟩
set_option maxHeartbeats 1000000 in
theorem to_any (i : InsS) (w : World) : Calls Tryd.prog 15 #[insV i] w fun e w' => e = .returned (insV i) ∧ Keeps w w' := by
  obtain ⟨op, dst, src, off, imm⟩ := i
  have hB := Blk.new w 29 (insC ⟨op, dst, src, off, imm⟩)
  have hK := Keeps.trans (Keeps.alloc w (.cells (insC ⟨op, dst, src, off, imm⟩).toArray 29)) (Keeps.alloc _ (.cells (insC ⟨0, 0, 0, 0, 0⟩).toArray 34))
  replace hB := Lib.hid hB
  replace hK := Lib.hid hK
  unfold insV
  go_enter Tryd.func15, Tryd.ntmps15
  go_upto_region 1 with (fail)
  refine wp_gen (fun W => Blk W w.heap.size 29 (insC ⟨op, dst, src, off, imm⟩) ∧ Blk W (w.heap.size + 1) 34 (insC ⟨0, 0, 0, 0, 0⟩) ∧ Keeps w W) ⟨hB.out.alloc _, Blk.at (by simp) rfl, hK.out⟩ ?_
  clear hB hK
  rintro W ⟨h0, h1, hK2⟩
  have hne : w.heap.size + 1 ≠ w.heap.size := by omega
  obtain ⟨q0, q1, q2, q3, q4⟩ := insBlk h0
  have hS : Blk (W.setRow (w.heap.size + 1) [Value.int .i64 op, .int .i64 dst, .int .i64 src, .int .i64 off, .int .i64 imm].toArray) (w.heap.size + 1) 34 [Value.int .i64 op, .int .i64 dst, .int .i64 src, .int .i64 off, .int .i64 imm] := h1.setRow _
  have hKS := Chg.keeps (Chg.setRow (S := (· = w.heap.size + 1)) (w := W) [Value.int .i64 op, .int .i64 dst, .int .i64 src, .int .i64 off, .int .i64 imm].toArray rfl) hK2 (fun x hx e => by omega)
  clear h0
  replace h1 := Lib.hid h1
  replace hK2 := Lib.hid hK2
  replace hKS := Lib.hid hKS
  replace hS := Lib.hid hS
  go_wp2_with (first
    | (refine storeRow h1.out [.int .i64 op, .int .i64 dst, .int .i64 src, .int .i64 off, .int .i64 imm] rfl _ _ _ rfl rfl rfl rfl 5 sizeIns rfl rfl (by intro c hc; simp at hc; rcases hc with rfl | rfl | rfl | rfl | rfl <;> rfl) ?_))
  (try simp only [Exit.inBlock, Exit.then])
  refine bodyPost_ret (results_row (t := 34) (cs := [Value.int .i64 op, .int .i64 dst, .int .i64 src, .int .i64 off, .int .i64 imm]) rfl _ hS.out rfl _ Tryd.underlying34 rfl 5 sizeIns rfl) rfl ?_
  exact ⟨rfl, hKS.out⟩
set_option maxHeartbeats 1000000 in
theorem of_any (i : InsS) (w : World) : Calls Tryd.prog 22 #[insV i] w fun e w' => e = .returned (insV i) ∧ Keeps w w' := by
  obtain ⟨op, dst, src, off, imm⟩ := i
  have hB := Blk.new w 34 (insC ⟨op, dst, src, off, imm⟩)
  have hK := Keeps.trans (Keeps.alloc w (.cells (insC ⟨op, dst, src, off, imm⟩).toArray 34)) (Keeps.alloc _ (.cells (insC ⟨0, 0, 0, 0, 0⟩).toArray 29))
  replace hB := Lib.hid hB
  replace hK := Lib.hid hK
  unfold insV
  go_enter Tryd.func22, Tryd.ntmps22
  go_upto_region 1 with (fail)
  refine wp_gen (fun W => Blk W w.heap.size 34 (insC ⟨op, dst, src, off, imm⟩) ∧ Blk W (w.heap.size + 1) 29 (insC ⟨0, 0, 0, 0, 0⟩) ∧ Keeps w W) ⟨hB.out.alloc _, Blk.at (by simp) rfl, hK.out⟩ ?_
  clear hB hK
  rintro W ⟨h0, h1, hK2⟩
  have hne : w.heap.size + 1 ≠ w.heap.size := by omega
  obtain ⟨q0, q1, q2, q3, q4⟩ := insBlk h0
  have hS : Blk (W.setRow (w.heap.size + 1) [Value.int .i64 op, .int .i64 dst, .int .i64 src, .int .i64 off, .int .i64 imm].toArray) (w.heap.size + 1) 29 [Value.int .i64 op, .int .i64 dst, .int .i64 src, .int .i64 off, .int .i64 imm] := h1.setRow _
  have hKS := Chg.keeps (Chg.setRow (S := (· = w.heap.size + 1)) (w := W) [Value.int .i64 op, .int .i64 dst, .int .i64 src, .int .i64 off, .int .i64 imm].toArray rfl) hK2 (fun x hx e => by omega)
  clear h0
  replace h1 := Lib.hid h1
  replace hK2 := Lib.hid hK2
  replace hKS := Lib.hid hKS
  replace hS := Lib.hid hS
  go_wp2_with (first
    | (refine storeRow h1.out [.int .i64 op, .int .i64 dst, .int .i64 src, .int .i64 off, .int .i64 imm] rfl _ _ _ rfl rfl rfl rfl 5 sizeRIns rfl rfl (by intro c hc; simp at hc; rcases hc with rfl | rfl | rfl | rfl | rfl <;> rfl) ?_))
  (try simp only [Exit.inBlock, Exit.then])
  refine bodyPost_ret (results_row (t := 29) (cs := [Value.int .i64 op, .int .i64 dst, .int .i64 src, .int .i64 off, .int .i64 imm]) rfl _ hS.out rfl _ Tryd.underlying29 rfl 5 sizeRIns rfl) rfl ?_
  exact ⟨rfl, hKS.out⟩
end Go.Proofs.YtmmglikbajiepaaDoor
