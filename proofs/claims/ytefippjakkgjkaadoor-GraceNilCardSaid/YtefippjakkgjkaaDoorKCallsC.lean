/- The walks of package calls: Open, Newest, Len. -/
import Derived.Test.YtefippjakkgjkaaDoorKCallsB
namespace Go.Proofs.YtefippjakkgjkaaDoor.K
open Go.RowKit

def openC (l : List Cl) : Nat := (l.filter fun c => decide (c.2 = 0)).length
def newC (l : List Cl) : Int := l.foldl (fun m c => max m c.2) 0
theorem openC_succ (l : List Cl) (k : Nat) (hk : k < l.length) : openC (l.take (k + 1)) = openC (l.take k) + (if l[k].2 = 0 then 1 else 0) := by
  unfold openC
  rw [List.take_succ_eq_append_getElem hk, List.filter_append, List.length_append]
  by_cases h : l[k].2 = 0 <;> simp [h]
theorem newC_succ (l : List Cl) (k : Nat) (hk : k < l.length) : newC (l.take (k + 1)) = max (newC (l.take k)) l[k].2 := by
  unfold newC
  rw [List.take_succ_eq_append_getElem hk, List.foldl_append]; rfl
theorem rowCell {w : World} {base : Nat} {e : TypeId} {q : Option Addr} {m cap : Nat} {l : List Cl} (h : RowS 2 base e w (.slice q m cap) (l.map xc)) (k : Nat) (hk : k < l.length) : ∃ g off, q = some ⟨g, off, none⟩ ∧ w.cell? ⟨g, off + k * 2, none⟩ = some (.int .i64 l[k].1) ∧ w.cell? ⟨g, off + k * 2 + 1, none⟩ = some (.int .i64 l[k].2) := by
  obtain ⟨q', cap', hv, _, _, hc⟩ := srcCell h.slcs
  obtain ⟨g, off, hq, hx⟩ := hc k hk
  simp only [Value.slice.injEq] at hv
  refine ⟨g, off, by rw [hv.1]; exact hq, ?_, ?_⟩
  · have := hx 0 (by decide); simpa [xc] using this
  · have := hx 1 (by decide); simpa [xc] using this
theorem rowCap {w : World} {base : Nat} {e : TypeId} {v : Value} {l : List Cl} (h : RowS 2 base e w v (l.map xc)) : ∃ q cap, v = .slice q l.length cap ∧ l.length ≤ cap ∧ cap ≤ 9223372036854775807 := by
  obtain ⟨q, cap, hv, h1, h2, _⟩ := srcCell h.slcs
  exact ⟨q, cap, hv, h1, h2⟩
/-- What nil lists or lists hold, all together. -/
def AllAt (w : World) (q : Value) (l : List Cl) : Prop := (q = .pointer none ∧ l = []) ∨ ∃ p rb cap n pp bb last R, q = .pointer (some ⟨p, 0, none⟩) ∧ l = List.flatten R ∧ ListsAt w p rb cap n pp bb last R
theorem all_call {w : World} {q : Value} {l : List Cl} (h : AllAt w q l) : Calls Tryd.prog 70 #[q] w fun e w' => ∃ v, e = .returned v ∧ RowS 2 w.heap.size 114 w' v (l.map xc) ∧ Keeps w w' := by
  rcases h with ⟨rfl, rfl⟩ | ⟨p, rb, cap, n, pp, bb, last, R, rfl, rfl, h⟩
  · refine (lall_nil w).mono ?_
    rintro e w' ⟨rfl, rfl⟩
    exact ⟨_, rfl, RowS.nil _ _ _ _, Keeps.refl _⟩
  · exact lall_any h
theorem AllAt.ptr {w : World} {q : Value} {l : List Cl} (h : AllAt w q l) : ∃ a, q = .pointer a := by
  rcases h with ⟨rfl, _⟩ | ⟨p, _, _, _, _, _, _, _, rfl, _⟩
  · exact ⟨_, rfl⟩
  · exact ⟨_, rfl⟩
set_option maxHeartbeats 1000000 in
theorem llen_any {w : World} {q : Value} {l : List Cl} (h : AllAt w q l) : Calls Tryd.prog 45 #[q] w fun e w' => e = .returned (.int .i64 l.length) ∧ Keeps w w' := by
  have hall := all_call h
  obtain ⟨a, rfl⟩ := h.ptr
  replace hall := Lib.hid hall
  clear h
  go_enter Tryd.func45, Tryd.ntmps45
  go_wp2_with fail
  refine hall.out.mono ?_
  rintro e w2 ⟨v, rfl, hrow, hK⟩
  obtain ⟨q, cap, rfl, _, _⟩ := rowCap hrow
  replace hK := Lib.hid hK
  clear hrow
  go_wp2_with fail
  go_ret
  exact ⟨rfl, hK.out⟩
set_option maxRecDepth 100000 in
set_option maxHeartbeats 1000000 in
theorem lopen_any {w : World} {q : Value} {l : List Cl} (h : AllAt w q l) : Calls Tryd.prog 46 #[q] w fun e w' => e = .returned (.int .i64 (openC l : Nat)) ∧ Keeps w w' := by
  have hall := all_call h
  obtain ⟨a, rfl⟩ := h.ptr
  replace hall := Lib.hid hall
  clear h
  go_enter Tryd.func46, Tryd.ntmps46
  go_wp2_with fail
  refine hall.out.mono ?_
  rintro e w2 ⟨v, rfl, hrow, hK⟩
  obtain ⟨q, cap, rfl, h1, h2⟩ := rowCap hrow
  have hl0 : (0 : Int) ≤ l.length := by omega
  replace hK := Lib.hid hK
  replace hrow := Lib.hid hrow
  go_wp2_with fail
  go_loopw [3, 9] (fun t i wr => ∃ k : Nat, k ≤ l.length ∧ i = .int .i64 k ∧ t = .int .i64 (openC (l.take k) : Nat) ∧ Keeps w2 wr) (fun _ i _ => l.length - (intOf i).toNat)
  case atStart => exact ⟨0, Nat.zero_le _, rfl, rfl, Keeps.refl _⟩
  case round =>
    obtain ⟨k, hk, rfl, rfl, hKr⟩ := hrel
    have hkl : k < l.length ∨ k = l.length := by omega
    rcases hkl with hlt | rfl
    · have hltI := Int.ofNat_lt.2 hlt
      obtain ⟨g, off, rfl, x0, x1⟩ := rowCell (rowKeeps' hrow.out hKr) k hlt
      have hs := openC_succ l k hlt
      have hKn := Keeps.trans hKr (Keeps.alloc wr (.cells #[.int .i64 l[k].1, .int .i64 l[k].2] 114))
      have hob : openC (l.take k) ≤ k := by unfold openC; exact Nat.le_trans (List.length_filter_le _ _) (by rw [List.length_take]; omega)
      generalize l[k].1 = a at *
      generalize l[k].2 = b at *
      generalize openC (l.take k) = T at *
      by_cases hb : b = 0
      · have hbb : (b == 0) = true := by simpa using hb
        rw [if_pos hb] at hs
        replace hs := Lib.hid hs
        replace hb := Lib.hid hb
        replace hKn := Lib.hid hKn
        clear hKr
        go_wp2_with fail
        go_roundw
        case rel => exact ⟨k + 1, by omega, by go_num, by rw [hs.out]; go_num, hKn.out⟩
        case measure => (simp [intOf]; try omega)
      · have hbb : (b == 0) = false := by simpa using hb
        rw [if_neg hb] at hs
        replace hs := Lib.hid hs
        replace hb := Lib.hid hb
        replace hKn := Lib.hid hKn
        clear hKr
        go_wp2_with fail
        go_roundw
        case rel => exact ⟨k + 1, by omega, by go_num, by rw [hs.out]; rfl, hKn.out⟩
        case measure => (simp [intOf]; try omega)
    · rw [List.take_of_length_le (Nat.le_refl _)]
      have hKf := Lib.hid (Keeps.trans hK.out hKr)
      clear hKr
      go_wp2_with fail
      go_ret
      exact ⟨rfl, hKf.out⟩
set_option maxRecDepth 100000 in
set_option maxHeartbeats 1000000 in
theorem lnewest_any {w : World} {q : Value} {l : List Cl} (h : AllAt w q l) : Calls Tryd.prog 47 #[q] w fun e w' => e = .returned (.int .i64 (newC l)) ∧ Keeps w w' := by
  have hall := all_call h
  obtain ⟨a, rfl⟩ := h.ptr
  replace hall := Lib.hid hall
  clear h
  go_enter Tryd.func47, Tryd.ntmps47
  go_wp2_with fail
  refine hall.out.mono ?_
  rintro e w2 ⟨v, rfl, hrow, hK⟩
  obtain ⟨q, cap, rfl, h1, h2⟩ := rowCap hrow
  have hl0 : (0 : Int) ≤ l.length := by omega
  replace hK := Lib.hid hK
  replace hrow := Lib.hid hrow
  go_wp2_with fail
  go_loopw [3, 9] (fun t i wr => ∃ k : Nat, k ≤ l.length ∧ i = .int .i64 k ∧ t = .int .i64 (newC (l.take k)) ∧ Keeps w2 wr) (fun _ i _ => l.length - (intOf i).toNat)
  case atStart => exact ⟨0, Nat.zero_le _, rfl, rfl, Keeps.refl _⟩
  case round =>
    obtain ⟨k, hk, rfl, rfl, hKr⟩ := hrel
    have hkl : k < l.length ∨ k = l.length := by omega
    rcases hkl with hlt | rfl
    · have hltI := Int.ofNat_lt.2 hlt
      obtain ⟨g, off, rfl, x0, x1⟩ := rowCell (rowKeeps' hrow.out hKr) k hlt
      have hs := newC_succ l k hlt
      have hKn := Keeps.trans hKr (Keeps.alloc wr (.cells #[.int .i64 l[k].1, .int .i64 l[k].2] 114))
      generalize l[k].1 = a at *
      generalize l[k].2 = b at *
      generalize newC (l.take k) = T at *
      have hcase : T < b ∨ ¬ T < b := by omega
      rcases hcase with hb | hb
      all_goals
        first | rw [Int.max_eq_right (Int.le_of_lt hb)] at hs | rw [Int.max_eq_left (Int.not_lt.1 hb)] at hs
        replace hs := Lib.hid hs
        replace hKn := Lib.hid hKn
        clear hKr
        go_wp2_with fail
        go_roundw
        case rel => exact ⟨k + 1, by omega, by go_num, by rw [hs.out], hKn.out⟩
        case measure => (simp [intOf]; try omega)
    · rw [List.take_of_length_le (Nat.le_refl _)]
      have hKf := Lib.hid (Keeps.trans hK.out hKr)
      clear hKr
      go_wp2_with fail
      go_ret
      exact ⟨rfl, hKf.out⟩
end Go.Proofs.YtefippjakkgjkaaDoor.K
