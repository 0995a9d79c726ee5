/- The laws of layer 2: what each walk comes to. -/
import Derived.Test.YtkchcckdfbpdmaaRingJ
import Derived.Test.YtkchcckdfbpdmaaRingU
namespace Go.Proofs.Ytkchcckdfbpdmaa
open Go.RowKit

set_option maxRecDepth 100000 in
set_option maxHeartbeats 2000000 in
theorem known02_any (w : World) :
    Calls Try.prog 10 #[] w fun e w' => e = .returned (.bool true) ∧ Keeps w w' := by
  go_enter Try.func10, Try.ntmps10
  go_wp2_with fail
  refine (i64.new_yes 2 _ (by omega) (by omega)).mono ?_
  rintro e w1 ⟨rfl, hR, hK⟩
  have hp : w.heap.size ≤ w.heap.size + 1 := by omega
  obtain ⟨p, hpe⟩ : ∃ p, p = w.heap.size + 1 := ⟨_, rfl⟩
  obtain ⟨b, hbe⟩ : ∃ b, b = w.heap.size := ⟨_, rfl⟩
  have hpl : w.heap.size ≤ p := by omega
  have hbl : w.heap.size ≤ b := by omega
  rw [← hpe, ← hbe] at hR
  rw [← hpe]
  clear hpe hbe hp
  go_wp2_with fail
  obtain ⟨hp1, hb1⟩ := hR.lt
  refine (i64.push_any (zs := [5, 6, 7]) (hR.keeps (Keeps.alloc _ _)) ((Blk.new w1 3 [Value.int .i64 5, .int .i64 6, .int .i64 7]).slc 3 3 (by simp) (Nat.le_refl _) (by decide)) (fun c off n cap e _ => by simp only [Value.slice.injEq, Option.some.injEq, Addr.mk.injEq] at e; omega)).mono ?_
  rintro e w2 ⟨rfl, hR2, hM2⟩
  replace hK := hM2.after (hK.trans (Keeps.alloc _ _)) hpl hbl
  rw [show ([] : List Int) ++ [5, 6, 7].take (2 - [].length) = [5, 6] from rfl] at hR2
  rw [show ((min ([5, 6, 7] : List Int).length (2 - ([] : List Int).length) : Nat) : Int) = 2 from rfl]
  clear hR hM2 hp1 hb1
  go_wp2_with fail
  refine (i64.pop_yes hR2).mono ?_
  rintro e w3 ⟨rfl, hR3, hM3⟩
  replace hK := hM3.after hK hpl hbl
  clear hR2 hM3
  go_wp2_with fail
  refine (i64.push1_any hR3 (by simp) 8 _ rfl).mono ?_
  rintro e w4 ⟨rfl, hR4, hM4⟩
  replace hK := hM4.after hK hpl hbl
  clear hR3 hM4
  go_wp2_with fail
  refine (i64.take_yes 1 hR4 (by simp)).mono ?_
  rintro e w5 ⟨rfl, hR5, hM5⟩
  replace hK := hM5.after hK hpl hbl
  rw [show ([6] ++ [8] : List Int).take 1 ++ ([6] ++ [8] : List Int).drop (1 + 1) = [6] from rfl] at hR5
  clear hR4 hM5
  go_wp2_with fail
  refine (i64.list_any hR5).mono ?_
  rintro e w6 ⟨v, rfl, hrow, hK6⟩
  replace hK := hK.trans hK6
  obtain ⟨q, cap, hv, hl, hc, _, hcell⟩ := slc_of_row hrow
  obtain ⟨c, off, rfl, hck⟩ := hcell 0 (by simp)
  subst hv
  have hck' : w6.cell? ⟨c, off, none⟩ = some (.int .i64 6) := hck
  clear hrow hcell hck hR5 hK6
  go_wp2_with fail
  go_ret
  exact ⟨rfl, hK⟩

set_option maxRecDepth 100000 in
set_option maxHeartbeats 2000000 in
theorem lawNil_any (i : Int) (v : Value) (w : World) :
    Calls Try.prog 6 #[.int .i64 i, v] w fun e w' => e = .returned (.bool true) ∧ Keeps w w' := by
  go_enter Try.func6, Try.ntmps6
  go_wp2_with fail
  refine (i64.pop_no _ _ (.inl rfl)).mono ?_
  rintro e w1 ⟨rfl, rfl⟩
  go_wp2_with fail
  refine (i64.at_no _ i _ (.inl rfl)).mono ?_
  rintro e w1 ⟨rfl, rfl⟩
  go_wp2_with fail
  refine (i64.take_no _ i _ (.inl rfl)).mono ?_
  rintro e w1 ⟨rfl, rfl⟩
  go_wp2_with fail
  refine (known02_any _).mono ?_
  rintro e w1 ⟨rfl, hK⟩
  go_wp2_with fail
  refine (i64.push_nil v _).mono ?_
  rintro e w2 ⟨rfl, rfl⟩
  go_wp2_with fail
  refine (i64.list_nil _).mono ?_
  rintro e w3 ⟨rfl, hK3⟩
  replace hK := hK.trans hK3
  go_wp2_with fail
  refine (i64.len_nil _).mono ?_
  rintro e w4 ⟨rfl, rfl⟩
  go_wp2_with fail
  refine (i64.room_nil _).mono ?_
  rintro e w4 ⟨rfl, rfl⟩
  go_wp2_with fail
  go_ret
  exact ⟨rfl, hK⟩
end Go.Proofs.Ytkchcckdfbpdmaa
