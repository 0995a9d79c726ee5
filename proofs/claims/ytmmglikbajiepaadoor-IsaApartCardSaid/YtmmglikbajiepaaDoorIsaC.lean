/- isa.Name for every number; the document's Kind (printed by gen15c.py). -/
import Derived.Test.YtmmglikbajiepaaDoorIsaB
namespace Go.Proofs.YtmmglikbajiepaaDoor
open Go.RowKit

theorem tmod16 (x : Int) (h : 0 ≤ x) : ∃ n : Nat, x.tmod 16 = (n : Int) ∧ (n : Int) = x % 16 := ⟨(x % 16).toNat, by rw [Int.tmod_eq_emod_of_nonneg h]; omega, by omega⟩
theorem nameB_none {op : Int} (h : classM op = 0) : nameB op = [] := by
  unfold nameB nmW
  rw [h]; rfl
theorem name_any (op : Int) (w : World) (hT : Tabs w) : Calls Tryd.prog 10 #[.int .i64 op] w fun e w' => e = .returned (.string (str (nameB op))) ∧ Keeps w w' := by
  have hwr : ∀ d : Int, -200 ≤ d → d ≤ 200 → IntKind.i64.wrap d = d := fun d _ _ => IntWalk.i64_in d (by omega)
  rcases class_range op with ⟨hc, h⟩ | ⟨hc, h⟩ | ⟨hc, h⟩ | ⟨hc, h⟩ | hc
  · obtain ⟨n, h1, h2⟩ := tmod16 (op - 0) (by omega)
    have e : nameB op = sumsW.getD n [] := by unfold nameB nmW nmF; simp only [hc, if_true, h1, Int.toNat_natCast]
    rw [e]; exact name_sums op n w hT hc (hwr _ (by omega) (by omega)) h1 (by omega)
  · obtain ⟨n, h1, h2⟩ := tmod16 (op - 32) (by omega)
    have e : nameB op = jumpsW.getD n [] := by unfold nameB nmW nmF; simp [hc, h1]
    rw [e]; exact name_jumps op n w hT hc (hwr _ (by omega) (by omega)) h1 (by omega)
  · obtain ⟨n, h1, h2⟩ := tmod16 (op - 64) (by omega)
    have e : nameB op = placesW.getD n [] := by unfold nameB nmW nmF; simp [hc, h1]
    rw [e]; exact name_places op n w hT hc (hwr _ (by omega) (by omega)) h1 (by omega)
  · obtain ⟨n, h1, h2⟩ := tmod16 (op - 72) (by omega)
    have e : nameB op = flowsW.getD n [] := by unfold nameB nmW nmF; simp [hc, h1]
    rw [e]; exact name_flows op n w hT hc (hwr _ (by omega) (by omega)) h1 (by omega)
  · rw [nameB_none hc]; exact name_none op w hc
/-- What an operation's text is made of. -/
def shapeB (op : Int) : List UInt8 := if 0 ≤ op ∧ op ≤ 11 then [100, 105] else if 16 ≤ op ∧ op ≤ 27 then [100, 115] else if 33 ≤ op ∧ op ≤ 41 then [100, 105, 111] else if 49 ≤ op ∧ op ≤ 57 then [100, 115, 111] else if op = 12 then [100] else if op = 32 then [111] else if op = 64 then [100, 111] else if op = 65 then [111, 115] else if op = 66 then [100, 115, 111] else if op = 67 then [100, 111, 115] else if op = 72 then [105] else []
set_option maxRecDepth 100000 in
theorem kindCells (w : World) : Blk ((w.alloc (.cells #[.string ⟨#[97, 100, 100]⟩, .string ⟨#[115, 117, 98]⟩, .string ⟨#[109, 117, 108]⟩, .string ⟨#[100, 105, 118]⟩, .string ⟨#[109, 111, 100]⟩, .string ⟨#[97, 110, 100]⟩, .string ⟨#[111, 114]⟩, .string ⟨#[120, 111, 114]⟩, .string ⟨#[108, 115, 104]⟩, .string ⟨#[114, 115, 104]⟩, .string ⟨#[97, 114, 115, 104]⟩, .string ⟨#[109, 111, 118]⟩] 9)).alloc (.cells #[.string ⟨#[106, 101, 113]⟩, .string ⟨#[106, 110, 101]⟩, .string ⟨#[106, 103, 116]⟩, .string ⟨#[106, 103, 101]⟩, .string ⟨#[106, 108, 116]⟩, .string ⟨#[106, 108, 101]⟩, .string ⟨#[106, 115, 101, 116]⟩, .string ⟨#[106, 115, 103, 116]⟩, .string ⟨#[106, 115, 108, 116]⟩] 9)) w.heap.size 9 ((sumsW.take 12).map fun l => .string (str l)) ∧ Blk ((w.alloc (.cells #[.string ⟨#[97, 100, 100]⟩, .string ⟨#[115, 117, 98]⟩, .string ⟨#[109, 117, 108]⟩, .string ⟨#[100, 105, 118]⟩, .string ⟨#[109, 111, 100]⟩, .string ⟨#[97, 110, 100]⟩, .string ⟨#[111, 114]⟩, .string ⟨#[120, 111, 114]⟩, .string ⟨#[108, 115, 104]⟩, .string ⟨#[114, 115, 104]⟩, .string ⟨#[97, 114, 115, 104]⟩, .string ⟨#[109, 111, 118]⟩] 9)).alloc (.cells #[.string ⟨#[106, 101, 113]⟩, .string ⟨#[106, 110, 101]⟩, .string ⟨#[106, 103, 116]⟩, .string ⟨#[106, 103, 101]⟩, .string ⟨#[106, 108, 116]⟩, .string ⟨#[106, 108, 101]⟩, .string ⟨#[106, 115, 101, 116]⟩, .string ⟨#[106, 115, 103, 116]⟩, .string ⟨#[106, 115, 108, 116]⟩] 9)) (w.heap.size + 1) 9 ((jumpsW.drop 1).map fun l => .string (str l)) := by
  refine ⟨(Blk.new w 9 ((sumsW.take 12).map fun l => .string (str l))).alloc _, ?_⟩
  have := Blk.new (w.alloc (.cells #[.string ⟨#[97, 100, 100]⟩, .string ⟨#[115, 117, 98]⟩, .string ⟨#[109, 117, 108]⟩, .string ⟨#[100, 105, 118]⟩, .string ⟨#[109, 111, 100]⟩, .string ⟨#[97, 110, 100]⟩, .string ⟨#[111, 114]⟩, .string ⟨#[120, 111, 114]⟩, .string ⟨#[108, 115, 104]⟩, .string ⟨#[114, 115, 104]⟩, .string ⟨#[97, 114, 115, 104]⟩, .string ⟨#[109, 111, 118]⟩] 9)) 9 ((jumpsW.drop 1).map fun l => .string (str l))
  rw [World.size_alloc] at this
  exact this
theorem kc0 (n : Nat) (h : n < 12) : ((sumsW.take 12).map fun l => Value.string (str l)).getD n undef = .string (str (sumsW.getD n [])) := by
  have h1 : n < sumsW.length := by show n < 13; omega
  simp [List.getD, h1, h]
theorem kc1 (n : Nat) (h : n < 9) : ((jumpsW.drop 1).map fun l => Value.string (str l)).getD n undef = .string (str (jumpsW.getD (n + 1) [])) := by
  have h1 : n + 1 < jumpsW.length := by show n + 1 < 10; omega
  have h2 : 1 + n < jumpsW.length := by omega
  simp [List.getD, h1]
set_option maxRecDepth 100000 in
set_option maxHeartbeats 4000000 in
theorem kind_any (op : Int) (w : World) : Calls Tryd.prog 8 #[.int .i64 op] w fun e w' => e = .returned (.tuple #[.string (str (nameB op)), .string (str (shapeB op)), .int .i64 (classM op)]) ∧ Keeps w w' := by
  obtain ⟨hb0, hb1⟩ := kindCells w
  have hK := Keeps.trans (Keeps.alloc w (.cells #[.string ⟨#[97, 100, 100]⟩, .string ⟨#[115, 117, 98]⟩, .string ⟨#[109, 117, 108]⟩, .string ⟨#[100, 105, 118]⟩, .string ⟨#[109, 111, 100]⟩, .string ⟨#[97, 110, 100]⟩, .string ⟨#[111, 114]⟩, .string ⟨#[120, 111, 114]⟩, .string ⟨#[108, 115, 104]⟩, .string ⟨#[114, 115, 104]⟩, .string ⟨#[97, 114, 115, 104]⟩, .string ⟨#[109, 111, 118]⟩] 9)) (Keeps.alloc _ (.cells #[.string ⟨#[106, 101, 113]⟩, .string ⟨#[106, 110, 101]⟩, .string ⟨#[106, 103, 116]⟩, .string ⟨#[106, 103, 101]⟩, .string ⟨#[106, 108, 116]⟩, .string ⟨#[106, 108, 101]⟩, .string ⟨#[106, 115, 101, 116]⟩, .string ⟨#[106, 115, 103, 116]⟩, .string ⟨#[106, 115, 108, 116]⟩] 9))
  replace hK := Lib.hid hK
  replace hb0 := Lib.hid hb0
  replace hb1 := Lib.hid hb1
  have hcase : (op < 0) ∨ (0 ≤ op ∧ op ≤ 11) ∨ (op = 12) ∨ (12 < op ∧ op < 16) ∨ (16 ≤ op ∧ op ≤ 27) ∨ (27 < op ∧ op < 32) ∨ (op = 32) ∨ (33 ≤ op ∧ op ≤ 41) ∨ (41 < op ∧ op < 49) ∨ (49 ≤ op ∧ op ≤ 57) ∨ (57 < op ∧ op < 64) ∨ (op = 64) ∨ (op = 65) ∨ (op = 66) ∨ (op = 67) ∨ (67 < op ∧ op < 72) ∨ (op = 72) ∨ (op = 73) ∨ (73 < op) := by omega
  rcases hcase with h | h | h | h | h | h | h | h | h | h | h | h | h | h | h | h | h | h | h
  · have hc : classM op = 0 := by unfold classM; rw [if_neg (by omega), if_neg (by omega), if_neg (by omega), if_neg (by omega)]
    have hs : shapeB op = [] := by unfold shapeB; rw [if_neg (by omega)]; rw [if_neg (by omega)]; rw [if_neg (by omega)]; rw [if_neg (by omega)]; rw [if_neg (by omega)]; rw [if_neg (by omega)]; rw [if_neg (by omega)]; rw [if_neg (by omega)]; rw [if_neg (by omega)]; rw [if_neg (by omega)]; rw [if_neg (by omega)]
    rw [nameB_none hc, hs, hc, show str [] = ⟨#[]⟩ from rfl]
    have g0 : ¬ (0 ≤ op) := by omega
    have g1 : ¬ (16 ≤ op) := by omega
    have g2 : ¬ (33 ≤ op) := by omega
    have g3 : ¬ (49 ≤ op) := by omega
    have l0 : op < 12 := by omega
    have l1 : op < 28 := by omega
    have l2 : op < 42 := by omega
    have l3 : op < 58 := by omega
    have q0 : (op == 12) = false := by rw [beq_eq_false_iff_ne]; omega
    have q1 : (op == 32) = false := by rw [beq_eq_false_iff_ne]; omega
    have q2 : (op == 64) = false := by rw [beq_eq_false_iff_ne]; omega
    have q3 : (op == 65) = false := by rw [beq_eq_false_iff_ne]; omega
    have q4 : (op == 66) = false := by rw [beq_eq_false_iff_ne]; omega
    have q5 : (op == 67) = false := by rw [beq_eq_false_iff_ne]; omega
    have q6 : (op == 72) = false := by rw [beq_eq_false_iff_ne]; omega
    have q7 : (op == 73) = false := by rw [beq_eq_false_iff_ne]; omega
    clear hc hs h hb0 hb1
    go_enter Tryd.func8, Tryd.ntmps8
    go_wp2_with fail
    go_ret3
    exact ⟨rfl, hK.out⟩
  · have hc : classM op = 1 := by unfold classM; rw [if_pos (by omega)]
    have hs : shapeB op = [100, 105] := by unfold shapeB; rw [if_pos (by omega)]
    obtain ⟨n, hn⟩ : ∃ n : Nat, (n : Int) = op - 0 := ⟨(op - 0).toNat, by omega⟩
    have hn9 : n < 12 := by omega
    obtain ⟨k, h1, h2⟩ := tmod16 (op - 0) (by omega)
    have hk : n = k := by omega
    subst hk
    have e : nameB op = sumsW.getD n [] := by unfold nameB nmW nmF; simp [hc, show op.tmod 16 = (n : Int) from by rw [← h1, Int.sub_zero]]
    have hx := hb0.out.cellD n (by show n < 12; exact hn9)
    rw [kc0 n hn9] at hx
    rw [e, hs, hc, show str [100, 105] = ⟨#[100, 105]⟩ from rfl]
    generalize str (sumsW.getD n []) = s at *
    have hn0 : (0 : Int) ≤ (n : Int) := by omega
    have hnI : (n : Int) < 12 := by omega
    have g0 : 0 ≤ op := by omega
    have g1 : ¬ (16 ≤ op) := by omega
    have g2 : ¬ (33 ≤ op) := by omega
    have g3 : ¬ (49 ≤ op) := by omega
    have l0 : op < 12 := by omega
    have l1 : op < 28 := by omega
    have l2 : op < 42 := by omega
    have l3 : op < 58 := by omega
    have q0 : (op == 12) = false := by rw [beq_eq_false_iff_ne]; omega
    have q1 : (op == 32) = false := by rw [beq_eq_false_iff_ne]; omega
    have q2 : (op == 64) = false := by rw [beq_eq_false_iff_ne]; omega
    have q3 : (op == 65) = false := by rw [beq_eq_false_iff_ne]; omega
    have q4 : (op == 66) = false := by rw [beq_eq_false_iff_ne]; omega
    have q5 : (op == 67) = false := by rw [beq_eq_false_iff_ne]; omega
    have q6 : (op == 72) = false := by rw [beq_eq_false_iff_ne]; omega
    have q7 : (op == 73) = false := by rw [beq_eq_false_iff_ne]; omega
    obtain rfl : op = (n : Int) := by omega
    clear hc hs h hb0 hb1 h1 h2 e hn
    go_enter Tryd.func8, Tryd.ntmps8
    go_wp2_with fail
    go_ret3
    exact ⟨rfl, hK.out⟩
  · subst h
    rw [show nameB 12 = [110, 101, 103] by kernel_rfl, show shapeB 12 = [100] by kernel_rfl, show classM 12 = 1 by kernel_rfl, show str [110, 101, 103] = ⟨#[110, 101, 103]⟩ from rfl, show str [100] = ⟨#[100]⟩ from rfl]
    clear hb0 hb1
    go_enter Tryd.func8, Tryd.ntmps8
    go_wp2_with fail
    go_ret3
    exact ⟨rfl, hK.out⟩
  · have hc : classM op = 0 := by unfold classM; rw [if_neg (by omega), if_neg (by omega), if_neg (by omega), if_neg (by omega)]
    have hs : shapeB op = [] := by unfold shapeB; rw [if_neg (by omega)]; rw [if_neg (by omega)]; rw [if_neg (by omega)]; rw [if_neg (by omega)]; rw [if_neg (by omega)]; rw [if_neg (by omega)]; rw [if_neg (by omega)]; rw [if_neg (by omega)]; rw [if_neg (by omega)]; rw [if_neg (by omega)]; rw [if_neg (by omega)]
    rw [nameB_none hc, hs, hc, show str [] = ⟨#[]⟩ from rfl]
    have g0 : 0 ≤ op := by omega
    have g1 : ¬ (16 ≤ op) := by omega
    have g2 : ¬ (33 ≤ op) := by omega
    have g3 : ¬ (49 ≤ op) := by omega
    have l0 : ¬ (op < 12) := by omega
    have l1 : op < 28 := by omega
    have l2 : op < 42 := by omega
    have l3 : op < 58 := by omega
    have q0 : (op == 12) = false := by rw [beq_eq_false_iff_ne]; omega
    have q1 : (op == 32) = false := by rw [beq_eq_false_iff_ne]; omega
    have q2 : (op == 64) = false := by rw [beq_eq_false_iff_ne]; omega
    have q3 : (op == 65) = false := by rw [beq_eq_false_iff_ne]; omega
    have q4 : (op == 66) = false := by rw [beq_eq_false_iff_ne]; omega
    have q5 : (op == 67) = false := by rw [beq_eq_false_iff_ne]; omega
    have q6 : (op == 72) = false := by rw [beq_eq_false_iff_ne]; omega
    have q7 : (op == 73) = false := by rw [beq_eq_false_iff_ne]; omega
    clear hc hs h hb0 hb1
    go_enter Tryd.func8, Tryd.ntmps8
    go_wp2_with fail
    go_ret3
    exact ⟨rfl, hK.out⟩
  · have hc : classM op = 1 := by unfold classM; rw [if_pos (by omega)]
    have hs : shapeB op = [100, 115] := by unfold shapeB; rw [if_neg (by omega)]; rw [if_pos (by omega)]
    obtain ⟨n, hn⟩ : ∃ n : Nat, (n : Int) = op - 16 := ⟨(op - 16).toNat, by omega⟩
    have hn9 : n < 12 := by omega
    obtain ⟨k, h1, h2⟩ := tmod16 (op - 0) (by omega)
    have hk : n = k := by omega
    subst hk
    have e : nameB op = sumsW.getD n [] := by unfold nameB nmW nmF; simp [hc, show op.tmod 16 = (n : Int) from by rw [← h1, Int.sub_zero]]
    have hx := hb0.out.cellD n (by show n < 12; exact hn9)
    rw [kc0 n hn9] at hx
    rw [e, hs, hc, show str [100, 115] = ⟨#[100, 115]⟩ from rfl]
    generalize str (sumsW.getD n []) = s at *
    have hn0 : (0 : Int) ≤ (n : Int) := by omega
    have hnI : (n : Int) < 12 := by omega
    have hw : IntKind.i64.wrap (op - 16) = (n : Int) := by rw [hn]; exact IntWalk.i64_in _ (by omega)
    have g0 : 0 ≤ op := by omega
    have g1 : 16 ≤ op := by omega
    have g2 : ¬ (33 ≤ op) := by omega
    have g3 : ¬ (49 ≤ op) := by omega
    have l0 : ¬ (op < 12) := by omega
    have l1 : op < 28 := by omega
    have l2 : op < 42 := by omega
    have l3 : op < 58 := by omega
    have q0 : (op == 12) = false := by rw [beq_eq_false_iff_ne]; omega
    have q1 : (op == 32) = false := by rw [beq_eq_false_iff_ne]; omega
    have q2 : (op == 64) = false := by rw [beq_eq_false_iff_ne]; omega
    have q3 : (op == 65) = false := by rw [beq_eq_false_iff_ne]; omega
    have q4 : (op == 66) = false := by rw [beq_eq_false_iff_ne]; omega
    have q5 : (op == 67) = false := by rw [beq_eq_false_iff_ne]; omega
    have q6 : (op == 72) = false := by rw [beq_eq_false_iff_ne]; omega
    have q7 : (op == 73) = false := by rw [beq_eq_false_iff_ne]; omega
    clear hc hs h hb0 hb1 h1 h2 e hn
    go_enter Tryd.func8, Tryd.ntmps8
    go_wp2_with fail
    go_ret3
    exact ⟨rfl, hK.out⟩
  · have hc : classM op = 0 := by unfold classM; rw [if_neg (by omega), if_neg (by omega), if_neg (by omega), if_neg (by omega)]
    have hs : shapeB op = [] := by unfold shapeB; rw [if_neg (by omega)]; rw [if_neg (by omega)]; rw [if_neg (by omega)]; rw [if_neg (by omega)]; rw [if_neg (by omega)]; rw [if_neg (by omega)]; rw [if_neg (by omega)]; rw [if_neg (by omega)]; rw [if_neg (by omega)]; rw [if_neg (by omega)]; rw [if_neg (by omega)]
    rw [nameB_none hc, hs, hc, show str [] = ⟨#[]⟩ from rfl]
    have g0 : 0 ≤ op := by omega
    have g1 : 16 ≤ op := by omega
    have g2 : ¬ (33 ≤ op) := by omega
    have g3 : ¬ (49 ≤ op) := by omega
    have l0 : ¬ (op < 12) := by omega
    have l1 : ¬ (op < 28) := by omega
    have l2 : op < 42 := by omega
    have l3 : op < 58 := by omega
    have q0 : (op == 12) = false := by rw [beq_eq_false_iff_ne]; omega
    have q1 : (op == 32) = false := by rw [beq_eq_false_iff_ne]; omega
    have q2 : (op == 64) = false := by rw [beq_eq_false_iff_ne]; omega
    have q3 : (op == 65) = false := by rw [beq_eq_false_iff_ne]; omega
    have q4 : (op == 66) = false := by rw [beq_eq_false_iff_ne]; omega
    have q5 : (op == 67) = false := by rw [beq_eq_false_iff_ne]; omega
    have q6 : (op == 72) = false := by rw [beq_eq_false_iff_ne]; omega
    have q7 : (op == 73) = false := by rw [beq_eq_false_iff_ne]; omega
    clear hc hs h hb0 hb1
    go_enter Tryd.func8, Tryd.ntmps8
    go_wp2_with fail
    go_ret3
    exact ⟨rfl, hK.out⟩
  · subst h
    rw [show nameB 32 = [106, 97] by kernel_rfl, show shapeB 32 = [111] by kernel_rfl, show classM 32 = 2 by kernel_rfl, show str [106, 97] = ⟨#[106, 97]⟩ from rfl, show str [111] = ⟨#[111]⟩ from rfl]
    clear hb0 hb1
    go_enter Tryd.func8, Tryd.ntmps8
    go_wp2_with fail
    go_ret3
    exact ⟨rfl, hK.out⟩
  · have hc : classM op = 2 := by unfold classM; rw [if_neg (by omega)]; rw [if_pos (by omega)]
    have hs : shapeB op = [100, 105, 111] := by unfold shapeB; rw [if_neg (by omega)]; rw [if_neg (by omega)]; rw [if_pos (by omega)]
    obtain ⟨n, hn⟩ : ∃ n : Nat, (n : Int) = op - 33 := ⟨(op - 33).toNat, by omega⟩
    have hn9 : n < 9 := by omega
    obtain ⟨k, h1, h2⟩ := tmod16 (op - 32) (by omega)
    have hk : k = n + 1 := by omega
    subst hk
    have e : nameB op = jumpsW.getD (n + 1) [] := by unfold nameB nmW nmF; simp [hc, h1]
    have hx := hb1.out.cellD n (by show n < 9; exact hn9)
    rw [kc1 n hn9] at hx
    rw [e, hs, hc, show str [100, 105, 111] = ⟨#[100, 105, 111]⟩ from rfl]
    generalize str (jumpsW.getD (n + 1) []) = s at *
    have hn0 : (0 : Int) ≤ (n : Int) := by omega
    have hnI : (n : Int) < 9 := by omega
    have hw : IntKind.i64.wrap (op - 33) = (n : Int) := by rw [hn]; exact IntWalk.i64_in _ (by omega)
    have g0 : 0 ≤ op := by omega
    have g1 : 16 ≤ op := by omega
    have g2 : 33 ≤ op := by omega
    have g3 : ¬ (49 ≤ op) := by omega
    have l0 : ¬ (op < 12) := by omega
    have l1 : ¬ (op < 28) := by omega
    have l2 : op < 42 := by omega
    have l3 : op < 58 := by omega
    have q0 : (op == 12) = false := by rw [beq_eq_false_iff_ne]; omega
    have q1 : (op == 32) = false := by rw [beq_eq_false_iff_ne]; omega
    have q2 : (op == 64) = false := by rw [beq_eq_false_iff_ne]; omega
    have q3 : (op == 65) = false := by rw [beq_eq_false_iff_ne]; omega
    have q4 : (op == 66) = false := by rw [beq_eq_false_iff_ne]; omega
    have q5 : (op == 67) = false := by rw [beq_eq_false_iff_ne]; omega
    have q6 : (op == 72) = false := by rw [beq_eq_false_iff_ne]; omega
    have q7 : (op == 73) = false := by rw [beq_eq_false_iff_ne]; omega
    clear hc hs h hb0 hb1 h1 h2 e hn
    go_enter Tryd.func8, Tryd.ntmps8
    go_wp2_with fail
    go_ret3
    exact ⟨rfl, hK.out⟩
  · have hc : classM op = 0 := by unfold classM; rw [if_neg (by omega), if_neg (by omega), if_neg (by omega), if_neg (by omega)]
    have hs : shapeB op = [] := by unfold shapeB; rw [if_neg (by omega)]; rw [if_neg (by omega)]; rw [if_neg (by omega)]; rw [if_neg (by omega)]; rw [if_neg (by omega)]; rw [if_neg (by omega)]; rw [if_neg (by omega)]; rw [if_neg (by omega)]; rw [if_neg (by omega)]; rw [if_neg (by omega)]; rw [if_neg (by omega)]
    rw [nameB_none hc, hs, hc, show str [] = ⟨#[]⟩ from rfl]
    have g0 : 0 ≤ op := by omega
    have g1 : 16 ≤ op := by omega
    have g2 : 33 ≤ op := by omega
    have g3 : ¬ (49 ≤ op) := by omega
    have l0 : ¬ (op < 12) := by omega
    have l1 : ¬ (op < 28) := by omega
    have l2 : ¬ (op < 42) := by omega
    have l3 : op < 58 := by omega
    have q0 : (op == 12) = false := by rw [beq_eq_false_iff_ne]; omega
    have q1 : (op == 32) = false := by rw [beq_eq_false_iff_ne]; omega
    have q2 : (op == 64) = false := by rw [beq_eq_false_iff_ne]; omega
    have q3 : (op == 65) = false := by rw [beq_eq_false_iff_ne]; omega
    have q4 : (op == 66) = false := by rw [beq_eq_false_iff_ne]; omega
    have q5 : (op == 67) = false := by rw [beq_eq_false_iff_ne]; omega
    have q6 : (op == 72) = false := by rw [beq_eq_false_iff_ne]; omega
    have q7 : (op == 73) = false := by rw [beq_eq_false_iff_ne]; omega
    clear hc hs h hb0 hb1
    go_enter Tryd.func8, Tryd.ntmps8
    go_wp2_with fail
    go_ret3
    exact ⟨rfl, hK.out⟩
  · have hc : classM op = 2 := by unfold classM; rw [if_neg (by omega)]; rw [if_pos (by omega)]
    have hs : shapeB op = [100, 115, 111] := by unfold shapeB; rw [if_neg (by omega)]; rw [if_neg (by omega)]; rw [if_neg (by omega)]; rw [if_pos (by omega)]
    obtain ⟨n, hn⟩ : ∃ n : Nat, (n : Int) = op - 49 := ⟨(op - 49).toNat, by omega⟩
    have hn9 : n < 9 := by omega
    obtain ⟨k, h1, h2⟩ := tmod16 (op - 32) (by omega)
    have hk : k = n + 1 := by omega
    subst hk
    have e : nameB op = jumpsW.getD (n + 1) [] := by unfold nameB nmW nmF; simp [hc, h1]
    have hx := hb1.out.cellD n (by show n < 9; exact hn9)
    rw [kc1 n hn9] at hx
    rw [e, hs, hc, show str [100, 115, 111] = ⟨#[100, 115, 111]⟩ from rfl]
    generalize str (jumpsW.getD (n + 1) []) = s at *
    have hn0 : (0 : Int) ≤ (n : Int) := by omega
    have hnI : (n : Int) < 9 := by omega
    have hw : IntKind.i64.wrap (op - 49) = (n : Int) := by rw [hn]; exact IntWalk.i64_in _ (by omega)
    have g0 : 0 ≤ op := by omega
    have g1 : 16 ≤ op := by omega
    have g2 : 33 ≤ op := by omega
    have g3 : 49 ≤ op := by omega
    have l0 : ¬ (op < 12) := by omega
    have l1 : ¬ (op < 28) := by omega
    have l2 : ¬ (op < 42) := by omega
    have l3 : op < 58 := by omega
    have q0 : (op == 12) = false := by rw [beq_eq_false_iff_ne]; omega
    have q1 : (op == 32) = false := by rw [beq_eq_false_iff_ne]; omega
    have q2 : (op == 64) = false := by rw [beq_eq_false_iff_ne]; omega
    have q3 : (op == 65) = false := by rw [beq_eq_false_iff_ne]; omega
    have q4 : (op == 66) = false := by rw [beq_eq_false_iff_ne]; omega
    have q5 : (op == 67) = false := by rw [beq_eq_false_iff_ne]; omega
    have q6 : (op == 72) = false := by rw [beq_eq_false_iff_ne]; omega
    have q7 : (op == 73) = false := by rw [beq_eq_false_iff_ne]; omega
    clear hc hs h hb0 hb1 h1 h2 e hn
    go_enter Tryd.func8, Tryd.ntmps8
    go_wp2_with fail
    go_ret3
    exact ⟨rfl, hK.out⟩
  · have hc : classM op = 0 := by unfold classM; rw [if_neg (by omega), if_neg (by omega), if_neg (by omega), if_neg (by omega)]
    have hs : shapeB op = [] := by unfold shapeB; rw [if_neg (by omega)]; rw [if_neg (by omega)]; rw [if_neg (by omega)]; rw [if_neg (by omega)]; rw [if_neg (by omega)]; rw [if_neg (by omega)]; rw [if_neg (by omega)]; rw [if_neg (by omega)]; rw [if_neg (by omega)]; rw [if_neg (by omega)]; rw [if_neg (by omega)]
    rw [nameB_none hc, hs, hc, show str [] = ⟨#[]⟩ from rfl]
    have g0 : 0 ≤ op := by omega
    have g1 : 16 ≤ op := by omega
    have g2 : 33 ≤ op := by omega
    have g3 : 49 ≤ op := by omega
    have l0 : ¬ (op < 12) := by omega
    have l1 : ¬ (op < 28) := by omega
    have l2 : ¬ (op < 42) := by omega
    have l3 : ¬ (op < 58) := by omega
    have q0 : (op == 12) = false := by rw [beq_eq_false_iff_ne]; omega
    have q1 : (op == 32) = false := by rw [beq_eq_false_iff_ne]; omega
    have q2 : (op == 64) = false := by rw [beq_eq_false_iff_ne]; omega
    have q3 : (op == 65) = false := by rw [beq_eq_false_iff_ne]; omega
    have q4 : (op == 66) = false := by rw [beq_eq_false_iff_ne]; omega
    have q5 : (op == 67) = false := by rw [beq_eq_false_iff_ne]; omega
    have q6 : (op == 72) = false := by rw [beq_eq_false_iff_ne]; omega
    have q7 : (op == 73) = false := by rw [beq_eq_false_iff_ne]; omega
    clear hc hs h hb0 hb1
    go_enter Tryd.func8, Tryd.ntmps8
    go_wp2_with fail
    go_ret3
    exact ⟨rfl, hK.out⟩
  · subst h
    rw [show nameB 64 = [108, 100, 115, 116] by kernel_rfl, show shapeB 64 = [100, 111] by kernel_rfl, show classM 64 = 3 by kernel_rfl, show str [108, 100, 115, 116] = ⟨#[108, 100, 115, 116]⟩ from rfl, show str [100, 111] = ⟨#[100, 111]⟩ from rfl]
    clear hb0 hb1
    go_enter Tryd.func8, Tryd.ntmps8
    go_wp2_with fail
    go_ret3
    exact ⟨rfl, hK.out⟩
  · subst h
    rw [show nameB 65 = [115, 116, 115, 116] by kernel_rfl, show shapeB 65 = [111, 115] by kernel_rfl, show classM 65 = 3 by kernel_rfl, show str [115, 116, 115, 116] = ⟨#[115, 116, 115, 116]⟩ from rfl, show str [111, 115] = ⟨#[111, 115]⟩ from rfl]
    clear hb0 hb1
    go_enter Tryd.func8, Tryd.ntmps8
    go_wp2_with fail
    go_ret3
    exact ⟨rfl, hK.out⟩
  · subst h
    rw [show nameB 66 = [108, 100, 118] by kernel_rfl, show shapeB 66 = [100, 115, 111] by kernel_rfl, show classM 66 = 3 by kernel_rfl, show str [108, 100, 118] = ⟨#[108, 100, 118]⟩ from rfl, show str [100, 115, 111] = ⟨#[100, 115, 111]⟩ from rfl]
    clear hb0 hb1
    go_enter Tryd.func8, Tryd.ntmps8
    go_wp2_with fail
    go_ret3
    exact ⟨rfl, hK.out⟩
  · subst h
    rw [show nameB 67 = [115, 116, 118] by kernel_rfl, show shapeB 67 = [100, 111, 115] by kernel_rfl, show classM 67 = 3 by kernel_rfl, show str [115, 116, 118] = ⟨#[115, 116, 118]⟩ from rfl, show str [100, 111, 115] = ⟨#[100, 111, 115]⟩ from rfl]
    clear hb0 hb1
    go_enter Tryd.func8, Tryd.ntmps8
    go_wp2_with fail
    go_ret3
    exact ⟨rfl, hK.out⟩
  · have hc : classM op = 0 := by unfold classM; rw [if_neg (by omega), if_neg (by omega), if_neg (by omega), if_neg (by omega)]
    have hs : shapeB op = [] := by unfold shapeB; rw [if_neg (by omega)]; rw [if_neg (by omega)]; rw [if_neg (by omega)]; rw [if_neg (by omega)]; rw [if_neg (by omega)]; rw [if_neg (by omega)]; rw [if_neg (by omega)]; rw [if_neg (by omega)]; rw [if_neg (by omega)]; rw [if_neg (by omega)]; rw [if_neg (by omega)]
    rw [nameB_none hc, hs, hc, show str [] = ⟨#[]⟩ from rfl]
    have g0 : 0 ≤ op := by omega
    have g1 : 16 ≤ op := by omega
    have g2 : 33 ≤ op := by omega
    have g3 : 49 ≤ op := by omega
    have l0 : ¬ (op < 12) := by omega
    have l1 : ¬ (op < 28) := by omega
    have l2 : ¬ (op < 42) := by omega
    have l3 : ¬ (op < 58) := by omega
    have q0 : (op == 12) = false := by rw [beq_eq_false_iff_ne]; omega
    have q1 : (op == 32) = false := by rw [beq_eq_false_iff_ne]; omega
    have q2 : (op == 64) = false := by rw [beq_eq_false_iff_ne]; omega
    have q3 : (op == 65) = false := by rw [beq_eq_false_iff_ne]; omega
    have q4 : (op == 66) = false := by rw [beq_eq_false_iff_ne]; omega
    have q5 : (op == 67) = false := by rw [beq_eq_false_iff_ne]; omega
    have q6 : (op == 72) = false := by rw [beq_eq_false_iff_ne]; omega
    have q7 : (op == 73) = false := by rw [beq_eq_false_iff_ne]; omega
    clear hc hs h hb0 hb1
    go_enter Tryd.func8, Tryd.ntmps8
    go_wp2_with fail
    go_ret3
    exact ⟨rfl, hK.out⟩
  · subst h
    rw [show nameB 72 = [99, 97, 108, 108] by kernel_rfl, show shapeB 72 = [105] by kernel_rfl, show classM 72 = 4 by kernel_rfl, show str [99, 97, 108, 108] = ⟨#[99, 97, 108, 108]⟩ from rfl, show str [105] = ⟨#[105]⟩ from rfl]
    clear hb0 hb1
    go_enter Tryd.func8, Tryd.ntmps8
    go_wp2_with fail
    go_ret3
    exact ⟨rfl, hK.out⟩
  · subst h
    rw [show nameB 73 = [101, 120, 105, 116] by kernel_rfl, show shapeB 73 = [] by kernel_rfl, show classM 73 = 4 by kernel_rfl, show str [101, 120, 105, 116] = ⟨#[101, 120, 105, 116]⟩ from rfl, show str [] = ⟨#[]⟩ from rfl]
    clear hb0 hb1
    go_enter Tryd.func8, Tryd.ntmps8
    go_wp2_with fail
    go_ret3
    exact ⟨rfl, hK.out⟩
  · have hc : classM op = 0 := by unfold classM; rw [if_neg (by omega), if_neg (by omega), if_neg (by omega), if_neg (by omega)]
    have hs : shapeB op = [] := by unfold shapeB; rw [if_neg (by omega)]; rw [if_neg (by omega)]; rw [if_neg (by omega)]; rw [if_neg (by omega)]; rw [if_neg (by omega)]; rw [if_neg (by omega)]; rw [if_neg (by omega)]; rw [if_neg (by omega)]; rw [if_neg (by omega)]; rw [if_neg (by omega)]; rw [if_neg (by omega)]
    rw [nameB_none hc, hs, hc, show str [] = ⟨#[]⟩ from rfl]
    have g0 : 0 ≤ op := by omega
    have g1 : 16 ≤ op := by omega
    have g2 : 33 ≤ op := by omega
    have g3 : 49 ≤ op := by omega
    have l0 : ¬ (op < 12) := by omega
    have l1 : ¬ (op < 28) := by omega
    have l2 : ¬ (op < 42) := by omega
    have l3 : ¬ (op < 58) := by omega
    have q0 : (op == 12) = false := by rw [beq_eq_false_iff_ne]; omega
    have q1 : (op == 32) = false := by rw [beq_eq_false_iff_ne]; omega
    have q2 : (op == 64) = false := by rw [beq_eq_false_iff_ne]; omega
    have q3 : (op == 65) = false := by rw [beq_eq_false_iff_ne]; omega
    have q4 : (op == 66) = false := by rw [beq_eq_false_iff_ne]; omega
    have q5 : (op == 67) = false := by rw [beq_eq_false_iff_ne]; omega
    have q6 : (op == 72) = false := by rw [beq_eq_false_iff_ne]; omega
    have q7 : (op == 73) = false := by rw [beq_eq_false_iff_ne]; omega
    clear hc hs h hb0 hb1
    go_enter Tryd.func8, Tryd.ntmps8
    go_wp2_with fail
    go_ret3
    exact ⟨rfl, hK.out⟩
end Go.Proofs.YtmmglikbajiepaaDoor
