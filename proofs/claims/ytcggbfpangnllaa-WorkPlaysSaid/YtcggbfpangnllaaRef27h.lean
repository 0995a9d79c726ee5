/- The document's answer for works: New: the walk. -/
import Derived.Test.YtcggbfpangnllaaRef27b
namespace Go.Proofs.Ytcggbfpangnllaa
open Go.RowKit i64

def onK (k : Nat) : Nat → Int := fun c => if c < k then 0 else 1
theorem onK_zero : onK 0 = fun _ => 1 := by funext c; simp [onK]
theorem onK_succ (k : Nat) : updI (onK k) k 0 = onK (k + 1) := by
  funext c
  unfold updI onK
  by_cases e : c = k
  · subst e; rw [if_pos rfl, if_pos (by omega)]
  · rw [if_neg e]
    by_cases h : c < k
    · rw [if_pos h, if_pos (by omega)]
    · rw [if_neg h, if_neg (by omega)]
theorem onR_all : onR (onK 32) = onR (fun _ => 0) := by
  unfold onR
  apply List.map_congr_left
  intro c hc
  have := List.mem_range.1 hc
  unfold onK
  rw [if_pos this]
theorem wkC_all (n : Nat) (vq vr va : Value) : wkC n vq vr va (onK 32) = wkC n vq vr va (fun _ => 0) := by unfold wkC; rw [onR_all]
theorem wkC_first (n : Nat) (vq vr va : Value) : wkC n vq vr va (fun _ => 1) = .int .i64 (n : Int) :: vq :: vr :: va :: List.replicate 32 (.int .i64 0) := by
  unfold wkC onR; rfl
def oneN : List Value := [.bool false, .int .i64 (-1)]
theorem allE_first : List.replicate 256 oneN = allE (fun _ => false) (fun _ => 0) := by
  unfold allE
  show List.replicate 256 oneN = (List.range 256).map (fun _ => oneN)
  rw [List.map_const', List.length_range]
section
variable {w W W' : World} {B R base : Nat} {cs : List Value}
theorem Bx27.below (h : Bx27 w B R cs W) (hb : Below base W W') (hB : B < base) (hR : R < base) (hw : w.heap.size ≤ base) : Bx27 w B R cs W' := by
  obtain ⟨old, h1, h2⟩ := h.r
  exact ⟨h.b.below hb hB, ⟨old, h1.below hb hR, h2⟩, Below.trans h.k (Below.mono hb hw), h.newB, h.newR, h.ne, h.len⟩
set_option maxRecDepth 100000 in
set_option maxHeartbeats 2000000 in
theorem rnew27_any (n : Nat) (w : World) : Calls Try.prog 20 #[.int .i64 n] w fun e w' => ∃ va, e = .returned (rk n (.slice none 0 0) (.slice none 0 0) va (fun _ => 0)) ∧ RowS 2 w.heap.size 62 w' va (allE (fun _ => false) (fun _ => 0)) ∧ Keeps w w' := by
  have hb1 : Blk ((w.alloc (.cells zW.toArray 57)).alloc (.cells zW.toArray 57)) (w.heap.size + 1) 57 zW := Blk.at (by simp) rfl
  have hwl := wkC_len n (.slice none 0 0) (.slice none 0 0) (.slice none 0 0) (fun _ => 1)
  have hone := wkC_one (n := n) (vq := .slice none 0 0) (vr := .slice none 0 0) (va := .slice none 0 0) (on := fun _ => 1) rfl rfl rfl
  have hst : Bx27 w (w.heap.size + 1) w.heap.size (wkC n (.slice none 0 0) (.slice none 0 0) (.slice none 0 0) (fun _ => 1)) (((w.alloc (.cells zW.toArray 57)).alloc (.cells zW.toArray 57)).setRow (w.heap.size + 1) (wkC n (.slice none 0 0) (.slice none 0 0) (.slice none 0 0) (fun _ => 1)).toArray) := by
    refine ⟨hb1.setRow _, ⟨zW, ((Blk.new w _ zW).alloc _).otherRow (by omega) _, by simp [zW]⟩, Chg.keeps (S := (· = w.heap.size + 1)) (Chg.setRow _ rfl) ((Keeps.alloc _ _).trans (Keeps.alloc _ _)) (fun k hk e => by omega), by omega, by omega, by omega, hwl⟩
  replace hone := Lib.hid hone
  replace hst := Lib.hid hst
  replace hb1 := Lib.hid hb1
  go_enter Try.func20, Try.ntmps20
  go_upto_region 1 with (fail)
  go_wp2_with (first | (refine storeW27 ⟨zW, hb1.out, rfl⟩ hwl hone.out rfl _ _ rfl rfl rfl rfl ?_))
  obtain ⟨B, hB⟩ : ∃ B, B = w.heap.size + 1 := ⟨_, rfl⟩
  obtain ⟨R, hR⟩ : ∃ R, R = w.heap.size := ⟨_, rfl⟩
  refine wp_gen (fun W => Bx27 w B R (wkC n (.slice none 0 0) (.slice none 0 0) (.slice none 0 0) (fun _ => 1)) W) (by rw [hB, hR]; exact hst.out) ?_
  rw [← hB, ← hR]
  clear hst hb1 hwl hone
  rintro W hX
  replace hX := Lib.hid hX
  replace hB := Lib.hid hB
  replace hR := Lib.hid hR
  go_loopw [4] (fun i wr => ∃ (k : Nat) (v : Value), k ≤ 256 ∧ i = .int .i64 (k : Int) ∧ Bx27 w B R (wkC n (.slice none 0 0) (.slice none 0 0) v (fun _ => 1)) wr ∧ RowS 2 (B + 1) 62 wr v (List.replicate k oneN)) (fun i _ => 256 - (intOf i).toNat)
  case atStart => exact ⟨0, .slice none 0 0, by omega, rfl, hX.out, RowS.nil 2 _ _ _⟩
  case round =>
    clear hX
    obtain ⟨k, v, hk, rfl, hX, hrow⟩ := hrel
    have hkl : k < 256 ∨ k = 256 := by omega
    rcases hkl with hlt | rfl
    · have hltI : (k : Int) < 256 := by omega
      have hk0 : (0 : Int) ≤ (k : Int) := by omega
      obtain ⟨q, cap, hv⟩ := hrow.any
      rw [List.length_replicate] at hv
      subst hv
      have c3 : wr.cell? ⟨B, 3, none⟩ = some _ := hX.b.cellK rfl
      have hBl := hX.b.lt
      have hrowA := hrow.alloc (.cells oneN.toArray 62)
      have hsrc := slcs_one (sz := 2) (Blk.new wr 62 oneN) rfl
      have hon1 : ∀ el ∈ [oneN], ∀ y ∈ el, y.oneCell' = true := by
        intro el hel y hy
        rw [List.mem_singleton.1 hel] at hy
        simp only [oneN, List.mem_cons, List.not_mem_nil, or_false] at hy
        rcases hy with rfl | rfl <;> rfl
      have hRl : R < B + 1 := by have := hB.out; have := hR.out; omega
      have hws : w.heap.size ≤ B + 1 := by have := hB.out; omega
      have hrep : List.replicate k oneN ++ [oneN] = List.replicate (k + 1) oneN := by rw [List.replicate_succ']
      have hXA := hX.kept (Keeps.alloc wr (.cells oneN.toArray 62))
      replace hsrc := Lib.hid hsrc
      replace hrowA := Lib.hid hrowA
      replace hon1 := Lib.hid hon1
      replace hXA := Lib.hid hXA
      replace hrep := Lib.hid hrep
      have hlr : (List.replicate k oneN).length = k := by simp
      replace hlr := Lib.hid hlr
      clear hrow hX
      go_wp2_with (at_builtin; refine appN rfl _ _ 55 62 _ 2 16 rfl Try.underlying55 infoOne rfl (by decide) (B + 1) _ (List.replicate k oneN) rfl hrowA.out _ [oneN] rfl hsrc.out hon1.out ?c1 ?c2 ?c3 ?_)
      case c1 => rw [hlr.out]; unfold maxLen; simp; omega
      case c2 => rw [hlr.out]; simp; omega
      case c3 => simp; omega
      intro v1 W3 hrow3 _ hbel
      rw [hrep.out] at hrow3
      have hX3 := hXA.out.below hbel (by omega) hRl hws
      obtain ⟨q3, cap3, hv3⟩ := hrow3.any
      rw [List.length_replicate] at hv3
      subst hv3
      have d3 : W3.cell? ⟨B, 3, none⟩ = some _ := hX3.b.cellK rfl
      have f3 := hX3.b.frozen 3
      have hX4 := hX3.set 3 (.slice q3 (k + 1) cap3)
      have hrow4 := hrow3.chg (Chg.setCell (S := (· = B)) (w := W3) 3 (.slice q3 (k + 1) cap3) rfl) (fun b hb e => by omega)
      replace hX4 := Lib.hid hX4
      replace hrow4 := Lib.hid hrow4
      clear hrow3 hX3 hbel hXA hrowA hsrc
      go_wp2_with fail
      go_roundw
      case rel => exact ⟨k + 1, _, by omega, by go_num, hX4.out, hrow4.out⟩
      case measure => (simp [intOf]; try omega)
    · rw [allE_first] at hrow
      rw [← onK_zero] at hX
      obtain ⟨W2, hW2⟩ : ∃ W2, W2 = wr := ⟨_, rfl⟩
      rw [← hW2] at hX hrow ⊢
      clear hW2
      replace hX := Lib.hid hX
      replace hrow := Lib.hid hrow
      go_wp2_with fail
      go_loopw [5] (fun i wr => ∃ k : Nat, k ≤ 32 ∧ i = .int .i64 (k : Int) ∧ Bx27 w B R (wkC n (.slice none 0 0) (.slice none 0 0) v (onK k)) wr ∧ RowS 2 (B + 1) 62 wr v (allE (fun _ => false) (fun _ => 0))) (fun i _ => 32 - (intOf i).toNat)
      case atStart => exact ⟨0, by omega, rfl, hX.out, hrow.out⟩
      case round =>
        clear hX hrow
        obtain ⟨k, hk, rfl, hX, hrow⟩ := hrel
        have hkl : k < 32 ∨ k = 32 := by omega
        rcases hkl with hlt | rfl
        · have hltI : (k : Int) < 32 := by omega
          have hk0 : (0 : Int) ≤ (k : Int) := by omega
          have cK := hX.b.cellK (wkC_on n (.slice none 0 0) (.slice none 0 0) v (onK k) k hlt)
          have fK := hX.b.frozen (4 + k)
          have hX4 := hX.set (4 + k) (.int .i64 (-1))
          have e : (wkC n (.slice none 0 0) (.slice none 0 0) v (onK k)).set (4 + k) (.int .i64 (-1)) = wkC n (.slice none 0 0) (.slice none 0 0) v (onK (k + 1)) := by
            rw [← onK_succ, ← wkC_setOn n _ _ _ (onK k) k 0]; rfl
          rw [e] at hX4
          have hrow4 := hrow.chg (Chg.setCell (S := (· = B)) (w := wr) (4 + k) (.int .i64 (-1)) rfl) (fun b hb e => by omega)
          replace hX4 := Lib.hid hX4
          replace hrow4 := Lib.hid hrow4
          clear hX hrow e
          generalize onK k k - 1 = z at *
          go_wp2_with fail
          go_roundw
          case rel => exact ⟨k + 1, by omega, by go_num, hX4.out, hrow4.out⟩
          case measure => (simp [intOf]; try omega)
        · rw [wkC_all] at hX
          have hv1 := slcs_oneCell hrow.slcs
          have hwl2 := wkC_len n (.slice none 0 0) (.slice none 0 0) v (fun _ => 0)
          have hone2 := wkC_one (n := n) (vq := .slice none 0 0) (vr := .slice none 0 0) (va := v) (on := fun _ => 0) rfl rfl hv1
          have hf := hX.fin (cs2 := wkC n (.slice none 0 0) (.slice none 0 0) v (fun _ => 0))
          have hRl : R < B + 1 := by have := hB.out; have := hR.out; omega
          have hws : w.heap.size ≤ B + 1 := by have := hB.out; omega
          have hrow6 := (hrow.chg (Chg.setRow (S := (· = R)) (w := wr) (wkC n (.slice none 0 0) (.slice none 0 0) v (fun _ => 0)).toArray rfl) (fun b hb e => by omega)).base_le hws
          replace hX := Lib.hid hX
          replace hf := Lib.hid hf
          replace hrow6 := Lib.hid hrow6
          replace hone2 := Lib.hid hone2
          clear hrow
          generalize hcs2 : wkC n (.slice none 0 0) (.slice none 0 0) v (fun _ => 0) = cs2 at *
          go_wp2_with (first | (refine loadW27 hX.out.b hwl2 rfl _ rfl rfl ?_) | (refine storeW27 hX.out.r hwl2 hone2.out rfl _ _ rfl rfl rfl rfl ?_))
          exact bodyPost_ret (results_row rfl _ hf.out.1 rfl _ Try.underlying57 rfl 36 sizeW27 hwl2) rfl ⟨v, by rw [← hcs2], hrow6.out, hf.out.2⟩
end
end Go.Proofs.Ytcggbfpangnllaa
