/- Which events a log tells: the closures of After and Of. -/
import Derived.Test.YtedfkonpkmckbaaDoorLogB
import Derived.Test.YtedfkonpkmckbaaDoorLogNil
import Derived.Test.YtedfkonpkmckbaaDoorIterG
namespace Go.Proofs.YtedfkonpkmckbaaDoor
open Go.RowKit

set_option maxRecDepth 100000 in
theorem index_any {w : World} {v : Value} {ks : List Int} (x : Int) (h : Ints w v ks) :
    Calls Tryd.prog 42 #[v, .int .i64 x] w fun e w' => (∃ r : Int, e = .returned (.int .i64 r) ∧ (0 ≤ r ↔ x ∈ ks)) ∧ w = w' := by
  obtain ⟨q, cap, rfl, hl, hc, hn, hcell⟩ := h
  rw [List.length_map] at hl hcell ⊢
  have hl0 : (0 : Int) ≤ (ks.length : Int) := by omega
  unfold maxLen at *
  replace hcell := Lib.hid hcell
  replace hn := Lib.hid hn
  go_enter Tryd.func42, Tryd.ntmps42
  go_wp2_with fail
  go_loopw [8] (fun i wr => ∃ k : Nat, k ≤ ks.length ∧ i = .int .i64 k ∧ x ∉ ks.take k ∧ w = wr) (fun i _ => ks.length - (intOf i).toNat)
  case atStart => exact ⟨0, Nat.zero_le _, rfl, by simp, rfl⟩
  case round =>
    obtain ⟨k, hk, rfl, hx, rfl⟩ := hrel
    by_cases hlt : k < ks.length
    · have hltI := Int.ofNat_lt.2 hlt
      obtain ⟨b, off, rfl, hcl⟩ := hcell.out k hlt
      have e0 : (ks.map (Value.int .i64)).getD k undef = .int .i64 ks[k] := by simp [List.getD, hlt]
      rw [e0] at hcl
      have hsc : ks.take (k + 1) = ks.take k ++ [ks[k]] := List.take_succ_eq_append_getElem hlt
      have hmem : ks[k] ∈ ks := List.getElem_mem hlt
      generalize hy : ks[k] = y at *
      replace hsc := Lib.hid hsc
      replace hx := Lib.hid hx
      replace hmem := Lib.hid hmem
      replace hy := Lib.hid hy
      by_cases he : x = y
      · subst he
        go_wp2_with fail
        go_ret
        exact ⟨⟨(k : Int), rfl, fun _ => hmem.out, fun _ => by omega⟩, rfl⟩
      · go_wp2_with fail
        go_roundw
        case rel => exact ⟨k + 1, by omega, by go_num, by rw [hsc.out, List.mem_append, List.mem_singleton]; exact fun hh => hh.elim hx.out he, by trivial⟩
        case measure => (simp [intOf]; try omega)
    · obtain rfl : k = ks.length := by omega
      rw [List.take_length] at hx
      replace hx := Lib.hid hx
      go_wp2_with fail
      go_ret
      exact ⟨⟨-1, rfl, fun h => absurd h (by omega), fun h => absurd h hx.out⟩, by trivial⟩
theorem contains_any {w : World} {v : Value} {ks : List Int} (x : Int) (h : Ints w v ks) :
    Calls Tryd.prog 32 #[v, .int .i64 x] w fun e w' => e = .returned (.bool (decide (x ∈ ks))) ∧ w = w' := by
  have hi := index_any x h
  replace hi := Lib.hid hi
  go_enter Tryd.func32, Tryd.ntmps32
  go_wp2_with fail
  with_reducible refine (hi.out).mono ?_
  rintro e w' ⟨⟨r, rfl, hr⟩, rfl⟩
  replace hr := Lib.hid hr
  go_wp2_with fail
  go_ret
  refine ⟨?_, rfl⟩
  rw [show decide (x ∈ ks) = decide (0 ≤ r) from decide_eq_decide.2 hr.out.symm]
  rfl
theorem after1_any {w : World} {B : Nat} {n : Int} (k : Int) (e : EvS) (h : Boxed w B 3 (.int .i64 n)) :
    Calls Tryd.prog 33 #[.int .i64 k, evV e, .pointer (some ⟨B, 0, none⟩)] w fun r w' => r = .returned (.bool (decide (n ≤ k))) ∧ Keeps w w' := by
  obtain ⟨t, kd, a, b, m⟩ := e
  have hk := Keeps.alloc w (.cells #[.int .u64 (t : Int), .int .i64 kd, .int .i64 a, .int .i64 b, .int .u64 (m : Int)] 28)
  have hc := (h.alloc (.cells #[.int .u64 (t : Int), .int .i64 kd, .int .i64 a, .int .i64 b, .int .u64 (m : Int)] 28)).cell
  replace hk := Lib.hid hk
  clear h
  go_enter Tryd.func33, Tryd.ntmps33
  go_wp2_with fail
  go_ret
  exact ⟨rfl, hk.out⟩
theorem of1_any {w : World} {B : Nat} {v : Value} {ks : List Int} (k : Int) (e : EvS) (h : Boxed w B 41 v) (hi : Ints w v ks) :
    Calls Tryd.prog 31 #[.int .i64 k, evV e, .pointer (some ⟨B, 0, none⟩)] w fun r w' => r = .returned (.bool (decide (e.k ∈ ks))) ∧ Keeps w w' := by
  obtain ⟨t, kd, a, b, m⟩ := e
  have hk := Keeps.alloc w (.cells #[.int .u64 (t : Int), .int .i64 kd, .int .i64 a, .int .i64 b, .int .u64 (m : Int)] 28)
  have hc := (h.alloc (.cells #[.int .u64 (t : Int), .int .i64 kd, .int .i64 a, .int .i64 b, .int .u64 (m : Int)] 28)).cell
  have hcon := contains_any kd (Slc.below hi hk)
  have hcd := (Blk.new w 28 [.int .u64 (t : Int), .int .i64 kd, .int .i64 a, .int .i64 b, .int .u64 (m : Int)]).cell 1 (by simp)
  simp only [List.getElem_cons_zero, List.getElem_cons_succ] at hcd
  replace hk := Lib.hid hk
  replace hcon := Lib.hid hcon
  clear h hi
  go_enter Tryd.func31, Tryd.ntmps31
  go_wp2_with fail
  with_reducible refine (hcon.out).mono ?_
  rintro e w' ⟨rfl, rfl⟩
  go_wp2_with fail
  go_ret
  exact ⟨rfl, hk.out⟩
end Go.Proofs.YtedfkonpkmckbaaDoor
