/- detentref15.Check. -/
import Derived.Test.YtmmglikbajiepaaDoorIsaH
namespace Go.Proofs.YtmmglikbajiepaaDoor
open Go.RowKit

set_option maxRecDepth 100000 in
set_option maxHeartbeats 1000000 in
/-- Does a shape have a letter? -/
theorem luses_any (l : List UInt8) (c : UInt8) (hl : l.length ≤ 3) (w : World) : Calls Tryd.prog 24 #[.string (str l), .int .u8 (c.toNat : Int)] w fun e w' => e = .returned (.bool (l.contains c)) ∧ w = w' := by
  obtain ⟨b, hb⟩ : ∃ b, b = l.contains c := ⟨_, rfl⟩
  rw [← hb]
  obtain ⟨s, hs⟩ : ∃ s, s = str l := ⟨_, rfl⟩
  rw [← hs]
  have hsz : s.size = l.length := by rw [hs]; simp [str, ByteArray.size]
  have hget : ∀ k (h : k < s.size), s[k] = l.getD k 0 := by
    subst hs
    intro k h
    have h2 : k < l.length := by rw [← hsz]; exact h
    rw [List.getD_eq_getElem?_getD, List.getElem?_eq_getElem h2]
    simp [str, ByteArray.getElem_eq_getElem_data]
  replace hb := Lib.hid hb
  clear hs
  go_enter Tryd.func24, Tryd.ntmps24
  go_wp2_with fail
  go_loopw [5] (fun iv wr => ∃ k : Nat, k ≤ l.length ∧ iv = .int .i64 (k : Int) ∧ w = wr ∧ (∀ j < k, l.getD j 0 ≠ c)) (fun iv _ => l.length - (intOf iv).toNat)
  case atStart => exact ⟨0, by omega, rfl, rfl, by omega⟩
  case round =>
    obtain ⟨k, hk, rfl, rfl, hne⟩ := hrel
    by_cases hkl : k < l.length
    · have h1 : k < s.size := by omega
      replace hne := Lib.hid hne
      by_cases hx : l[k] = c
      · have hx2 : (((l[k]).toNat : Int) == (c.toNat : Int)) = true := by rw [hx]; simp
        have hf : b = true := by rw [hb.out, List.contains_iff_mem, ← hx]; exact List.getElem_mem hkl
        replace hf := Lib.hid hf
        clear hx
        go_wp2_with fail
        go_ret
        exact ⟨by rw [hf.out]; rfl, rfl⟩
      · have hx2 : (((l[k]).toNat : Int) == (c.toNat : Int)) = false := by
          rw [beq_eq_false_iff_ne]
          intro h
          exact hx (UInt8.toNat_inj.mp (by omega))
        replace hx := Lib.hid hx
        go_wp2_with fail
        go_roundw
        case rel =>
          refine ⟨k + 1, by omega, by go_num, trivial, fun j hj => ?_⟩
          by_cases h : j < k
          · exact hne.out j h
          · rw [show j = k by omega, List.getD_eq_getElem?_getD, List.getElem?_eq_getElem hkl]
            exact hx.out
        case measure => (simp [intOf]; try omega)
    · have hf : b = false := by
        rw [hb.out, Bool.eq_false_iff]
        intro hc
        rw [List.contains_iff_mem] at hc
        obtain ⟨j, hj, he⟩ := List.mem_iff_getElem.mp hc
        refine hne j (by omega) ?_
        rw [List.getD_eq_getElem?_getD, List.getElem?_eq_getElem hj]
        exact he
      replace hf := Lib.hid hf
      clear hget hne
      go_wp2_with fail
      go_ret
      exact ⟨by rw [hf.out]; rfl, rfl⟩
end Go.Proofs.YtmmglikbajiepaaDoor
