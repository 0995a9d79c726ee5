/- The walks of detentref23. -/
import Derived.Test.YtmjknhjlhnljpaaStr
import Derived.Test.YtmjknhjlhnljpaaGuardA
import Derived.Test.YtmjknhjlhnljpaaQuiet
import Derived.Laws.Rows
import Derived.Laws.Tables
namespace Go.Proofs.Ytmjknhjlhnljpaa
open Go.RowKit

def pairEl (x : Int × Int) : List Value := [.int .i64 x.1, .int .i64 x.2]
/-- A slice of pairs. -/
def Pairs (w : World) (v : Value) (l : List (Int × Int)) : Prop := SlcS 2 w v (l.map pairEl)
/-- The reference's guard as cells. -/
def gCells (cpus : Int) (v : Value) (ms : List Nat) : List Value := .int .i64 cpus :: v :: countCells ms
/-- Where a pair stands. -/
def findI (l : List (Int × Int)) (a b : Int) : Int := match l.findIdx? (fun x => x.1 == a && x.2 == b) with | some i => (i : Int) | none => -1
def isPair (a b : Int) (x : Int × Int) : Bool := x.1 == a && x.2 == b

theorem Pairs.get {w : World} {v : Value} {l : List (Int × Int)} (h : Pairs w v l) : ∃ p cap, v = .slice p l.length cap ∧ l.length ≤ cap ∧ cap ≤ 9223372036854775807 ∧
    ∀ i, (hi : i < l.length) → ∃ b off, p = some ⟨b, off, none⟩ ∧ w.cell? ⟨b, off + i * 2, none⟩ = some (.int .i64 l[i].1) ∧ w.cell? ⟨b, off + i * 2 + 1, none⟩ = some (.int .i64 l[i].2) := by
  obtain ⟨p, cap, hv, hl, hc, hcell⟩ := SlcS.get h
  rw [List.length_map] at hv hl hcell
  refine ⟨p, cap, hv, hl, hc, fun i hi => ?_⟩
  obtain ⟨b, off, hp, hk⟩ := hcell i hi
  have h0 := hk 0 (by omega)
  have h1 := hk 1 (by omega)
  refine ⟨b, off, hp, ?_, ?_⟩
  · rw [Nat.add_zero] at h0; rw [h0]; simp [List.getD, hi, pairEl]
  · rw [h1]; simp [List.getD, hi, pairEl]

theorem findI_no {l : List (Int × Int)} {a b : Int} (h : ∀ j, (hj : j < l.length) → ¬ (l[j].1 = a ∧ l[j].2 = b)) : findI l a b = -1 := by
  have : l.findIdx? (fun x => x.1 == a && x.2 == b) = none := by
    rw [List.findIdx?_eq_none_iff]
    intro x hx
    obtain ⟨j, hj, rfl⟩ := List.mem_iff_getElem.1 hx
    have := h j hj
    simpa using this
  simp [findI, this]
theorem findI_yes {l : List (Int × Int)} {a b : Int} (k : Nat) (hk : k < l.length) (h : ∀ j, (hj : j < l.length) → j < k → ¬ (l[j].1 = a ∧ l[j].2 = b)) (e1 : l[k].1 = a) (e2 : l[k].2 = b) : findI l a b = (k : Int) := by
  have : l.findIdx? (fun x => x.1 == a && x.2 == b) = some k := by
    rw [List.findIdx?_eq_some_iff_getElem]
    exact ⟨hk, by simp [e1, e2], fun j hj => by have := h j (by omega) hj; simpa using this⟩
  simp [findI, this]

set_option maxHeartbeats 800000 in
theorem find_any (cpus : Int) (v : Value) (ms : List Nat) (l : List (Int × Int)) (a b : Int) (w : World) (hv : Pairs w v l) :
    Calls Try.prog 16 #[.agg (gCells cpus v ms).toArray, .int .i64 a, .int .i64 b] w fun e w' => e = .returned (.int .i64 (findI l a b)) ∧ Keeps w w' := by
  have hK := Keeps.alloc w (.cells (gCells cpus v ms).toArray 31)
  have hv' : Pairs _ v l := hv.below hK
  obtain ⟨p, cap, rfl, hl, hc, hcell⟩ := hv'.get
  have hB := Blk.new w 31 (gCells cpus (.slice p l.length cap) ms)
  have hc1 := hB.cell 1 (by simp [gCells])
  unfold gCells at *
  simp only [List.getElem_cons_succ, List.getElem_cons_zero] at hc1
  replace hcell := Lib.hid hcell
  replace hK := Lib.hid hK
  clear hv hB hv'
  go_enter Try.func16, Try.ntmps16
  go_wp2_with fail
  generalize w.alloc _ = W at *
  go_loop [7] (fun i => ∃ k : Nat, k ≤ l.length ∧ i = .int .i64 k ∧ Hid (∀ j, (hj : j < l.length) → j < k → ¬ (l[j].1 = a ∧ l[j].2 = b))) (fun i => l.length - (intOf i).toNat)
  case atStart => exact ⟨0, Nat.zero_le _, rfl, Lib.hid fun j _ h => absurd h (Nat.not_lt_zero j)⟩
  case round =>
    obtain ⟨k, hk, rfl, hno⟩ := hrel
    by_cases hlt : k < l.length
    · obtain ⟨b0, off, rfl, c0, c1⟩ := hcell.out k hlt
      have hs : ¬ (l[k].1 = a ∧ l[k].2 = b) → Hid (∀ j, (hj : j < l.length) → j < k + 1 → ¬ (l[j].1 = a ∧ l[j].2 = b)) := fun h => Lib.hid (fun j (hj : j < l.length) (hjk : j < k + 1) => (Nat.lt_or_ge j k).elim (fun h1 => hno.out j hj h1) (fun h1 => by obtain rfl : j = k := (by omega); exact h))
      have hy := findI_yes k hlt hno.out
      replace hy := Lib.hid hy
      replace hs := Lib.hid hs
      generalize l[k].1 = x at *
      generalize l[k].2 = y at *
      by_cases e1 : x = a
      · subst e1
        by_cases e2 : y = b
        · subst e2
          replace hy := Lib.hid (hy.out rfl rfl)
          go_wp2_with fail
          go_ret
          exact ⟨ret_int hy.out.symm, hK.out⟩
        · have e2' : (y == b) = false := by simpa using e2
          go_wp2_with fail
          go_round
          case rel => exact ⟨k + 1, by omega, by go_num, hs.out (fun h => e2 h.2)⟩
          case measure => (simp [intOf]; try omega)
      · have e1' : (x == a) = false := by simpa using e1
        go_wp2_with fail
        go_round
        case rel => exact ⟨k + 1, by omega, by go_num, hs.out (fun h => e1 h.1)⟩
        case measure => (simp [intOf]; try omega)
    · obtain rfl : k = l.length := by omega
      have hy : findI l a b = -1 := findI_no fun j hj => hno.out j hj hj
      replace hy := Lib.hid hy
      go_wp2_with fail
      go_ret
      exact ⟨ret_int hy.out.symm, hK.out⟩
end Go.Proofs.Ytmjknhjlhnljpaa
