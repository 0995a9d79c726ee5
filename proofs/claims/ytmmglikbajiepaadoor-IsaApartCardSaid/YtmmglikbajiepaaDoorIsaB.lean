/- The names of operations (printed by gen15b.py). -/
import Derived.Test.YtmmglikbajiepaaDoorIsaA
import Derived.Test.YtmmglikbajiepaaDoorFmt15
namespace Go.Proofs.YtmmglikbajiepaaDoor
open Go.RowKit Go.Lib

/-- A string of bytes. -/
def str (l : List UInt8) : ByteArray := ⟨l.toArray⟩
def sumsT : List UInt8 := [97, 100, 100, 32, 115, 117, 98, 32, 109, 117, 108, 32, 100, 105, 118, 32, 109, 111, 100, 32, 97, 110, 100, 32, 111, 114, 32, 120, 111, 114, 32, 108, 115, 104, 32, 114, 115, 104, 32, 97, 114, 115, 104, 32, 109, 111, 118, 32, 110, 101, 103]
def sumsW : List (List UInt8) := [[97, 100, 100], [115, 117, 98], [109, 117, 108], [100, 105, 118], [109, 111, 100], [97, 110, 100], [111, 114], [120, 111, 114], [108, 115, 104], [114, 115, 104], [97, 114, 115, 104], [109, 111, 118], [110, 101, 103]]
theorem sums_fields : fields sumsT = sumsW := by kernel_rfl
theorem sums_ascii : ∀ x ∈ sumsT, x.toNat < 128 := by decide
def jumpsT : List UInt8 := [106, 97, 32, 106, 101, 113, 32, 106, 110, 101, 32, 106, 103, 116, 32, 106, 103, 101, 32, 106, 108, 116, 32, 106, 108, 101, 32, 106, 115, 101, 116, 32, 106, 115, 103, 116, 32, 106, 115, 108, 116]
def jumpsW : List (List UInt8) := [[106, 97], [106, 101, 113], [106, 110, 101], [106, 103, 116], [106, 103, 101], [106, 108, 116], [106, 108, 101], [106, 115, 101, 116], [106, 115, 103, 116], [106, 115, 108, 116]]
theorem jumps_fields : fields jumpsT = jumpsW := by kernel_rfl
theorem jumps_ascii : ∀ x ∈ jumpsT, x.toNat < 128 := by decide
def placesT : List UInt8 := [108, 100, 115, 116, 32, 115, 116, 115, 116, 32, 108, 100, 118, 32, 115, 116, 118]
def placesW : List (List UInt8) := [[108, 100, 115, 116], [115, 116, 115, 116], [108, 100, 118], [115, 116, 118]]
theorem places_fields : fields placesT = placesW := by kernel_rfl
theorem places_ascii : ∀ x ∈ placesT, x.toNat < 128 := by decide
def flowsT : List UInt8 := [99, 97, 108, 108, 32, 101, 120, 105, 116]
def flowsW : List (List UInt8) := [[99, 97, 108, 108], [101, 120, 105, 116]]
theorem flows_fields : fields flowsT = flowsW := by kernel_rfl
theorem flows_ascii : ∀ x ∈ flowsT, x.toNat < 128 := by decide
theorem fields_any (t : List UInt8) (ws : List (List UInt8)) (hf : fields t = ws) (ha : ∀ x ∈ t, x.toNat < 128) (hs : t.length < 4294967281) (w : World) (hT : Tabs w) : Calls Tryd.prog 23 #[.string ⟨t.toArray⟩] w fun e w' => e = .returned (.slice (some ⟨w.heap.size, 0, none⟩) ws.length ws.length) ∧ Blk w' w.heap.size 9 (ws.map fun l => .string (str l)) ∧ Keeps w w' := by
  have hl : (⟨t.toArray⟩ : ByteArray).data.toList = t := by simp
  have h := Tryd.strings_Fields_laid ⟨t.toArray⟩ w (by show t.toArray.size < _; simpa using hs) (fun j b hb => by
    rw [hl] at hb
    exact ha b (List.mem_of_getElem? hb)) hT.space
  rw [hl, hf] at h
  refine h.mono ?_
  rintro e w' ⟨rfl, rfl⟩
  exact ⟨rfl, Blk.new w 9 (ws.map fun l => .string (str l)), Keeps.alloc _ _⟩
/-- Where an operation's names begin, and they. -/
def nmF (op : Int) : Int := if classM op = 1 then 0 else if classM op = 2 then 32 else if classM op = 3 then 64 else 72
def nmW (op : Int) : List (List UInt8) := if classM op = 1 then sumsW else if classM op = 2 then jumpsW else if classM op = 3 then placesW else if classM op = 4 then flowsW else []
/-- An operation's name. -/
def nameB (op : Int) : List UInt8 := (nmW op).getD ((op - nmF op).tmod 16).toNat []
theorem class_range (op : Int) : (classM op = 1 ∧ ((0 ≤ op ∧ op ≤ 12) ∨ (16 ≤ op ∧ op ≤ 27))) ∨ (classM op = 2 ∧ ((32 ≤ op ∧ op ≤ 41) ∨ (49 ≤ op ∧ op ≤ 57))) ∨ (classM op = 3 ∧ 64 ≤ op ∧ op ≤ 67) ∨ (classM op = 4 ∧ (op = 72 ∨ op = 73)) ∨ classM op = 0 := by
  unfold classM
  by_cases h1 : (0 ≤ op ∧ op ≤ 12) ∨ (16 ≤ op ∧ op ≤ 27)
  · rw [if_pos h1]; exact .inl ⟨rfl, h1⟩
  · rw [if_neg h1]
    by_cases h2 : (32 ≤ op ∧ op ≤ 41) ∨ (49 ≤ op ∧ op ≤ 57)
    · rw [if_pos h2]; exact .inr (.inl ⟨rfl, h2⟩)
    · rw [if_neg h2]
      by_cases h3 : 64 ≤ op ∧ op ≤ 67
      · rw [if_pos h3]; exact .inr (.inr (.inl ⟨rfl, h3⟩))
      · rw [if_neg h3]
        by_cases h4 : op = 72 ∨ op = 73
        · rw [if_pos h4]; exact .inr (.inr (.inr (.inl ⟨rfl, h4⟩)))
        · rw [if_neg h4]; exact .inr (.inr (.inr (.inr rfl)))
theorem name_none (op : Int) (w : World) (hc : classM op = 0) : Calls Tryd.prog 10 #[.int .i64 op] w fun e w' => e = .returned (.string ⟨#[]⟩) ∧ Keeps w w' := by
  have hr := class_any op
  rw [hc] at hr
  replace hr := Lib.hid hr
  clear hc
  go_enter Tryd.func10, Tryd.ntmps10
  go_wp2_with fail
  with_reducible refine (hr.out _).mono ?_
  rintro e w' ⟨rfl, rfl⟩
  go_wp2_with fail
  go_ret
  exact ⟨rfl, Keeps.refl _⟩
set_option maxRecDepth 100000 in
set_option maxHeartbeats 1000000 in
theorem name_sums (op : Int) (n : Nat) (w : World) (hT : Tabs w) (hc : classM op = 1) (hw : IntKind.i64.wrap (op - 0) = op - 0) (hm : (op - 0).tmod 16 = (n : Int)) (hn : n < 13) : Calls Tryd.prog 10 #[.int .i64 op] w fun e w' => e = .returned (.string (str (sumsW.getD n []))) ∧ Keeps w w' := by
  have hr := class_any op
  rw [hc] at hr
  have hf := fields_any sumsT sumsW sums_fields sums_ascii (by decide) w hT
  have hfc : (⟨sumsT.toArray⟩ : ByteArray) = ⟨#[97, 100, 100, 32, 115, 117, 98, 32, 109, 117, 108, 32, 100, 105, 118, 32, 109, 111, 100, 32, 97, 110, 100, 32, 111, 114, 32, 120, 111, 114, 32, 108, 115, 104, 32, 114, 115, 104, 32, 97, 114, 115, 104, 32, 109, 111, 118, 32, 110, 101, 103]⟩ := rfl
  rw [hfc, show sumsW.length = 13 from rfl] at hf
  have hcell := fun (W : World) (B : Nat) (hB : Blk W B 9 (sumsW.map fun l => Value.string (str l))) => hB.cellD n (by show n < 13; exact hn)
  rw [show (sumsW.map fun l => Value.string (str l)).getD n undef = .string (str (sumsW.getD n [])) by
    have : n < sumsW.length := hn
    simp [List.getD, this]] at hcell
  generalize str (sumsW.getD n []) = s at *
  have hn0 : (0 : Int) ≤ (n : Int) := by omega
  have hnI : (n : Int) < 13 := by omega
  rw [Int.sub_zero] at hw hm
  replace hr := Lib.hid hr
  replace hf := Lib.hid hf
  replace hcell := Lib.hid hcell
  clear hT hfc hc
  go_enter Tryd.func10, Tryd.ntmps10
  go_wp2_with fail
  with_reducible refine (hr.out _).mono ?_
  rintro e w' ⟨rfl, rfl⟩
  go_wp2_with fail
  with_reducible refine hf.out.mono ?_
  rintro e w2 ⟨rfl, hB, hK2⟩
  have hc := hcell.out w2 _ hB
  replace hK2 := Lib.hid hK2
  clear hB
  go_wp2_with fail
  go_ret
  exact ⟨rfl, hK2.out⟩
set_option maxRecDepth 100000 in
set_option maxHeartbeats 1000000 in
theorem name_jumps (op : Int) (n : Nat) (w : World) (hT : Tabs w) (hc : classM op = 2) (hw : IntKind.i64.wrap (op - 32) = op - 32) (hm : (op - 32).tmod 16 = (n : Int)) (hn : n < 10) : Calls Tryd.prog 10 #[.int .i64 op] w fun e w' => e = .returned (.string (str (jumpsW.getD n []))) ∧ Keeps w w' := by
  have hr := class_any op
  rw [hc] at hr
  have hf := fields_any jumpsT jumpsW jumps_fields jumps_ascii (by decide) w hT
  have hfc : (⟨jumpsT.toArray⟩ : ByteArray) = ⟨#[106, 97, 32, 106, 101, 113, 32, 106, 110, 101, 32, 106, 103, 116, 32, 106, 103, 101, 32, 106, 108, 116, 32, 106, 108, 101, 32, 106, 115, 101, 116, 32, 106, 115, 103, 116, 32, 106, 115, 108, 116]⟩ := rfl
  rw [hfc, show jumpsW.length = 10 from rfl] at hf
  have hcell := fun (W : World) (B : Nat) (hB : Blk W B 9 (jumpsW.map fun l => Value.string (str l))) => hB.cellD n (by show n < 10; exact hn)
  rw [show (jumpsW.map fun l => Value.string (str l)).getD n undef = .string (str (jumpsW.getD n [])) by
    have : n < jumpsW.length := hn
    simp [List.getD, this]] at hcell
  generalize str (jumpsW.getD n []) = s at *
  have hn0 : (0 : Int) ≤ (n : Int) := by omega
  have hnI : (n : Int) < 10 := by omega
  skip
  replace hr := Lib.hid hr
  replace hf := Lib.hid hf
  replace hcell := Lib.hid hcell
  clear hT hfc hc
  go_enter Tryd.func10, Tryd.ntmps10
  go_wp2_with fail
  with_reducible refine (hr.out _).mono ?_
  rintro e w' ⟨rfl, rfl⟩
  go_wp2_with fail
  with_reducible refine hf.out.mono ?_
  rintro e w2 ⟨rfl, hB, hK2⟩
  have hc := hcell.out w2 _ hB
  replace hK2 := Lib.hid hK2
  clear hB
  go_wp2_with fail
  go_ret
  exact ⟨rfl, hK2.out⟩
set_option maxRecDepth 100000 in
set_option maxHeartbeats 1000000 in
theorem name_places (op : Int) (n : Nat) (w : World) (hT : Tabs w) (hc : classM op = 3) (hw : IntKind.i64.wrap (op - 64) = op - 64) (hm : (op - 64).tmod 16 = (n : Int)) (hn : n < 4) : Calls Tryd.prog 10 #[.int .i64 op] w fun e w' => e = .returned (.string (str (placesW.getD n []))) ∧ Keeps w w' := by
  have hr := class_any op
  rw [hc] at hr
  have hf := fields_any placesT placesW places_fields places_ascii (by decide) w hT
  have hfc : (⟨placesT.toArray⟩ : ByteArray) = ⟨#[108, 100, 115, 116, 32, 115, 116, 115, 116, 32, 108, 100, 118, 32, 115, 116, 118]⟩ := rfl
  rw [hfc, show placesW.length = 4 from rfl] at hf
  have hcell := fun (W : World) (B : Nat) (hB : Blk W B 9 (placesW.map fun l => Value.string (str l))) => hB.cellD n (by show n < 4; exact hn)
  rw [show (placesW.map fun l => Value.string (str l)).getD n undef = .string (str (placesW.getD n [])) by
    have : n < placesW.length := hn
    simp [List.getD, this]] at hcell
  generalize str (placesW.getD n []) = s at *
  have hn0 : (0 : Int) ≤ (n : Int) := by omega
  have hnI : (n : Int) < 4 := by omega
  skip
  replace hr := Lib.hid hr
  replace hf := Lib.hid hf
  replace hcell := Lib.hid hcell
  clear hT hfc hc
  go_enter Tryd.func10, Tryd.ntmps10
  go_wp2_with fail
  with_reducible refine (hr.out _).mono ?_
  rintro e w' ⟨rfl, rfl⟩
  go_wp2_with fail
  with_reducible refine hf.out.mono ?_
  rintro e w2 ⟨rfl, hB, hK2⟩
  have hc := hcell.out w2 _ hB
  replace hK2 := Lib.hid hK2
  clear hB
  go_wp2_with fail
  go_ret
  exact ⟨rfl, hK2.out⟩
set_option maxRecDepth 100000 in
set_option maxHeartbeats 1000000 in
theorem name_flows (op : Int) (n : Nat) (w : World) (hT : Tabs w) (hc : classM op = 4) (hw : IntKind.i64.wrap (op - 72) = op - 72) (hm : (op - 72).tmod 16 = (n : Int)) (hn : n < 2) : Calls Tryd.prog 10 #[.int .i64 op] w fun e w' => e = .returned (.string (str (flowsW.getD n []))) ∧ Keeps w w' := by
  have hr := class_any op
  rw [hc] at hr
  have hf := fields_any flowsT flowsW flows_fields flows_ascii (by decide) w hT
  have hfc : (⟨flowsT.toArray⟩ : ByteArray) = ⟨#[99, 97, 108, 108, 32, 101, 120, 105, 116]⟩ := rfl
  rw [hfc, show flowsW.length = 2 from rfl] at hf
  have hcell := fun (W : World) (B : Nat) (hB : Blk W B 9 (flowsW.map fun l => Value.string (str l))) => hB.cellD n (by show n < 2; exact hn)
  rw [show (flowsW.map fun l => Value.string (str l)).getD n undef = .string (str (flowsW.getD n [])) by
    have : n < flowsW.length := hn
    simp [List.getD, this]] at hcell
  generalize str (flowsW.getD n []) = s at *
  have hn0 : (0 : Int) ≤ (n : Int) := by omega
  have hnI : (n : Int) < 2 := by omega
  skip
  replace hr := Lib.hid hr
  replace hf := Lib.hid hf
  replace hcell := Lib.hid hcell
  clear hT hfc hc
  go_enter Tryd.func10, Tryd.ntmps10
  go_wp2_with fail
  with_reducible refine (hr.out _).mono ?_
  rintro e w' ⟨rfl, rfl⟩
  go_wp2_with fail
  with_reducible refine hf.out.mono ?_
  rintro e w2 ⟨rfl, hB, hK2⟩
  have hc := hcell.out w2 _ hB
  replace hK2 := Lib.hid hK2
  clear hB
  go_wp2_with fail
  go_ret
  exact ⟨rfl, hK2.out⟩
end Go.Proofs.YtmmglikbajiepaaDoor
