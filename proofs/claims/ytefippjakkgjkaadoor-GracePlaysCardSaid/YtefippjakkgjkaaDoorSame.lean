/- detentref01.Same: are two lists the same? -/
import Derived.Test.YtefippjakkgjkaaDoorQuiet
namespace Go.Proofs.YtefippjakkgjkaaDoor
open Go.RowKit

def sameL (a b : List Int) : Bool := decide (a = b)
theorem sameL_self (a : List Int) : sameL a a = true := by simp [sameL]
set_option maxHeartbeats 1000000 in
theorem same_any (a b : List Int) (u v : Value) (w : World) (hu : Ints w u a) (hv : Ints w v b) :
    Calls Tryd.prog 30 #[u, v] w fun e w' => e = .returned (.bool (sameL a b)) ∧ Keeps w w' := by
  obtain ⟨p, cap, rfl, hl, hc, hcell⟩ := hu.open
  obtain ⟨p', cap', rfl, hl', hc', hcell'⟩ := hv.open
  by_cases hab : a.length = b.length
  · have hn : ((a.length : Int) != (b.length : Int)) = false := by rw [bne_eq_false_iff_eq]; omega
    replace hab := Lib.hid hab
    clear hu hv
    go_enter Tryd.func30, Tryd.ntmps30
    go_wp2
    go_loopw [5] (fun t wr => ∃ k : Nat, k ≤ a.length ∧ t = .int .i64 k ∧ a.take k = b.take k ∧ Keeps w wr) (fun t _ => a.length - (intOf t).toNat)
    case atStart => exact ⟨0, by omega, rfl, rfl, Keeps.refl _⟩
    case round =>
      obtain ⟨k, hk, rfl, hf, hK⟩ := hrel
      by_cases hlt : k < a.length
      · have hlt' : k < b.length := by have := hab.out; omega
        obtain ⟨b1, o1, rfl, h1⟩ := hcell k hlt
        obtain ⟨b2, o2, rfl, h2⟩ := hcell' k hlt'
        have g1 := (hK.cell (p := ⟨b1, o1 + k, none⟩) (cell_lt h1)).trans h1
        have g2 := (hK.cell (p := ⟨b2, o2 + k, none⟩) (cell_lt h2)).trans h2
        have i1 : (0 : Int) ≤ (k : Int) := by omega
        have i2 : (k : Int) < (a.length : Int) := by omega
        have i3 : (k : Int) < (b.length : Int) := by omega
        clear hcell hcell' h1 h2
        by_cases he : a[k] = b[k]
        · have hq : (a[k] != b[k]) = false := by rw [bne_eq_false_iff_eq]; exact he
          have hN := Lib.hid (show a.take (k + 1) = b.take (k + 1) by rw [List.take_succ_eq_append_getElem hlt, List.take_succ_eq_append_getElem hlt', hf, he])
          replace hf := Lib.hid hf
          replace he := Lib.hid he
          go_wp2
          go_quiet (fail)
          go_wp2
          go_roundw
          case rel => exact ⟨k + 1, by omega, by go_num, hN.out, Below.trans hK (below_drewN (Below.refl _ wr) _)⟩
          case measure => (simp [intOf]; try omega)
        · have hq : (a[k] != b[k]) = true := by rw [bne_iff_ne]; exact he
          have hN := Lib.hid (show sameL a b = false by
            simp only [sameL, decide_eq_false_iff_not]; intro h; subst h; exact he rfl)
          replace hf := Lib.hid hf
          replace he := Lib.hid he
          go_wp2
          go_quiet (fail)
          go_wp2
          go_ret
          exact ⟨ret_bool hN.out.symm, Below.trans hK (below_drewN (Below.refl _ wr) _)⟩
      · obtain rfl : k = a.length := by omega
        have hN := Lib.hid (show sameL a b = true by
            have h := hab.out
            rw [List.take_of_length_le (Nat.le_refl _), List.take_of_length_le (by omega)] at hf
            simp [sameL, hf])
        clear hf
        go_wp2
        go_ret
        exact ⟨ret_bool hN.out.symm, hK⟩
  · have hn : ((a.length : Int) != (b.length : Int)) = true := by rw [bne_iff_ne]; omega
    have hN := Lib.hid (show sameL a b = false by
            simp only [sameL, decide_eq_false_iff_not]; intro h; subst h; exact hab rfl)
    clear hab hu hv
    go_enter Tryd.func30, Tryd.ntmps30
    go_wp2
    go_ret
    exact ⟨ret_bool hN.out.symm, Keeps.refl _⟩

end Go.Proofs.YtefippjakkgjkaaDoor
