/- The walks of the readers' places: ended. -/
import Derived.Test.YtefippjakkgjkaaDoorInsB
namespace Go.Proofs.YtefippjakkgjkaaDoor
open Go.RowKit

/-- Have the sections of a picture's first readers ended? -/
def endedTo (S : SSt) (q : Nat → Int) (k : Nat) : Prop := ∀ r, r < k → ¬ (0 < q r ∧ (S.sin r : Int) = q r)
theorem ended_true {S : SSt} {q : Nat → Int} (h : endedTo S q 64) : endedB S q = true := by
  unfold endedB
  rw [List.all_eq_true]
  intro r hr
  have := h r (List.mem_range.1 hr)
  rw [Bool.not_eq_true', Bool.and_eq_false_iff, decide_eq_false_iff_not, decide_eq_false_iff_not]
  by_cases h0 : 0 < q r
  · exact .inr fun e => this ⟨h0, e⟩
  · exact .inl h0
theorem ended_false {S : SSt} {q : Nat → Int} {r : Nat} (hr : r < 64) (h0 : 0 < q r) (h1 : (S.sin r : Int) = q r) : endedB S q = false := by
  unfold endedB
  rw [List.all_eq_false]
  exact ⟨r, List.mem_range.2 hr, by simp [h0, h1]⟩
section
variable {W W' : World} {g sp p rb cap n xb : Nat} {pp bb : Nat → Nat} {G : GSt}
theorem box64 (q : Nat → Int) (w : World) : (Instr.box 27 (.agg (arr 64 q).toArray)).run Tryd.prog w = .ok (.pointer (some ⟨w.heap.size, 0, none⟩)) (w.alloc (.cells (arr 64 q).toArray 27)) := by kernel_rfl
set_option maxRecDepth 100000 in
set_option maxHeartbeats 2000000 in
theorem xended_any {S : SSt} (hx : Blk W xb 29 (arr 129 (xf S))) (q : Nat → Int) :
    Calls Tryd.prog 15 #[.pointer (some ⟨xb, 0, none⟩), .agg (arr 64 q).toArray] W fun e w' => e = .returned (.bool (endedB S q)) ∧ Keeps W w' := by
  have hxl := hx.lt
  have hbox := box64 q
  have hB := Blk.new W 27 (arr 64 q)
  have hK := Keeps.alloc W (.cells (arr 64 q).toArray 27)
  obtain ⟨B, eB⟩ : ∃ B, B = W.heap.size := ⟨_, rfl⟩
  rw [← eB] at hB
  generalize hL : (arr 64 q).toArray = L at *
  replace hB := Lib.hid hB
  replace hK := Lib.hid hK
  replace hx := Lib.hid hx
  replace eB := Lib.hid eB
  replace hL := Lib.hid hL
  go_enter Tryd.func15, Tryd.ntmps15
  go_upto_region 2 with (fail)
  refine wp_gen (fun X => Blk X B 27 (arr 64 q) ∧ Blk X xb 29 (arr 129 (xf S)) ∧ Keeps W X) ⟨hL.out ▸ hB.out, hx.out.keeps hK.out, hK.out⟩ ?_
  rw [← eB.out]
  clear hB hK hx eB hL hbox hxl
  rintro w1 ⟨hB, hX, hK⟩
  have hq := fun r hr => arr_cell hB r hr
  have hs := fun r (hr : r < 64) => arr_cell hX (64 + r) (by omega)
  replace hK := Lib.hid hK
  replace hq := Lib.hid hq
  replace hs := Lib.hid hs
  clear hB hX
  go_loopw [5] (fun t wr => ∃ k : Nat, k ≤ 64 ∧ t = .int .i64 k ∧ endedTo S q k ∧ Keeps w1 wr) (fun t _ => 64 - (intOf t).toNat)
  case atStart => exact ⟨0, by omega, rfl, fun r hr => by omega, Keeps.refl _⟩
  case round =>
    obtain ⟨k, hk, rfl, hE, hKr⟩ := hrel
    by_cases hlt : k < 64
    · have c0 := (hKr.cell (p := ⟨B, k, none⟩) (cell_lt (hq.out k hlt))).trans (hq.out k hlt)
      have c1 := (hKr.cell (p := ⟨xb, 64 + k, none⟩) (cell_lt (hs.out k hlt))).trans (hs.out k hlt)
      rw [xf_sin S k hlt] at c1
      have i0 : (0 : Int) ≤ (k : Int) := by omega
      have i1 : (k : Int) < 64 := by omega
      have hEn : ¬ (0 < q k ∧ (S.sin k : Int) = q k) → endedTo S q (k + 1) := fun hn r hr => by
        by_cases e : r = k
        · subst e; exact hn
        · exact hE r (by omega)
      have hEf := fun h0 h1 => ended_false (S := S) (q := q) hlt h0 h1
      generalize (S.sin k : Int) = sk at *
      generalize hqk : q k = qk at *
      replace hE := Lib.hid hE
      replace hqk := Lib.hid hqk
      replace hEn := Lib.hid hEn
      replace hEf := Lib.hid hEf
      replace hKr := Lib.hid hKr
      by_cases h0 : 0 < qk
      · have d0 : decide (0 < qk) = true := decide_eq_true h0
        by_cases h1 : sk = qk
        · have d1 : (sk == qk) = true := by rw [beq_iff_eq]; exact h1
          replace h1 := Lib.hid h1
          replace h0 := Lib.hid h0
          go_wp2
          go_quiet (fail)
          go_wp2
          go_ret
          exact ⟨ret_bool (hEf.out h0.out h1.out).symm, Keeps.trans hK.out (Keeps.trans hKr.out (below_drewN (Below.refl _ wr) _))⟩
        · have d1 : (sk == qk) = false := by rw [beq_eq_false_iff_ne]; exact h1
          have hN := Lib.hid (hEn.out fun hh => h1 hh.2)
          replace h1 := Lib.hid h1
          replace h0 := Lib.hid h0
          go_wp2
          go_quiet (fail)
          go_wp2
          go_roundw
          case rel => exact ⟨k + 1, by omega, by go_num, hN.out, Keeps.trans hKr.out (below_drewN (Below.refl _ wr) _)⟩
          case measure => (simp [intOf]; try omega)
      · have d0 : decide (0 < qk) = false := decide_eq_false h0
        have hN := Lib.hid (hEn.out fun hh => h0 hh.1)
        replace h0 := Lib.hid h0
        go_wp2
        go_quiet (fail)
        go_wp2
        go_roundw
        case rel => exact ⟨k + 1, by omega, by go_num, hN.out, Keeps.trans hKr.out (below_drewN (Below.refl _ wr) _)⟩
        case measure => (simp [intOf]; try omega)
    · obtain rfl : k = 64 := by omega
      have hN := Lib.hid (ended_true hE)
      replace hKr := Lib.hid hKr
      clear hE
      go_wp2
      go_ret
      exact ⟨ret_bool hN.out.symm, Keeps.trans hK.out hKr.out⟩
end
/-- An act: kind, reader, CPU, number. -/
abbrev Act12 : Type := Int × Int × Int × Int
def aEl12 (a : Act12) : List Value := [.int .i64 a.1, .int .i64 a.2.1, .int .i64 a.2.2.1, .int .i64 a.2.2.2]
theorem zeroIns (w : World) : (zeroValue 29).run Tryd.prog w = .ok (.agg (arr 129 fun _ => 0).toArray) w := by kernel_rfl
end Go.Proofs.YtefippjakkgjkaaDoor
