/- The walks of package sect: find, enter, Exit, of, Depth, Since, In, Stamp. -/
import Derived.Test.YtefippjakkgjkaaDoorSectM
import Derived.Test.YtefippjakkgjkaaDoorMaskA
import Derived.Test.YtefippjakkgjkaaDoorQuiet
import Derived.Test.YtefippjakkgjkaaDoorStr
namespace Go.Proofs.YtefippjakkgjkaaDoor
open Go.RowKit

def rdEl (x : Nat × Nat) : List Value := [.int .i64 (x.1 : Int), .int .i64 (x.2 : Int)]
/-- The sections as the cells of a block. -/
def sCells (S : SSt) : List Value := (S.rs.map rdEl).flatten ++ [.int .u64 (S.m : Int), .int .i64 (S.st : Int)]
/-- Sections at p. -/
structure SectAt (w : World) (p : Nat) (S : SSt) : Prop where
  hdr : Blk w p 83 (sCells S)
  ok : S.Ok
theorem rd_len (S : SSt) : ∀ el ∈ S.rs.map rdEl, el.length = 2 := by intro el h; obtain ⟨x, _, rfl⟩ := List.mem_map.1 h; rfl
theorem sFlat_len (S : SSt) : (S.rs.map rdEl).flatten.length = S.rs.length * 2 := by rw [flat_len (rd_len S), List.length_map]
theorem SSt.Ok.cells {S : SSt} (h : S.Ok) : (sCells S).length = 130 := by simp only [sCells, List.length_append, sFlat_len, h.len, List.length_cons, List.length_nil]
theorem sCells_dep {S : SSt} (h : S.Ok) (r : Nat) (hr : r < 64) : (sCells S)[r * 2]? = some (.int .i64 (S.dep r : Nat)) := by
  have hl := h.len
  unfold sCells
  rw [List.getElem?_append_left (by rw [sFlat_len]; omega)]
  have := flat_get (rd_len S) r 0 (by rw [List.length_map]; omega) (by decide)
  rw [Nat.add_zero] at this
  rw [this]
  simp [List.getD, SSt.dep, rdEl, show r < S.rs.length by omega]
theorem sCells_sin {S : SSt} (h : S.Ok) (r : Nat) (hr : r < 64) : (sCells S)[r * 2 + 1]? = some (.int .i64 (S.sin r : Nat)) := by
  have hl := h.len
  unfold sCells
  rw [List.getElem?_append_left (by rw [sFlat_len]; omega)]
  rw [flat_get (rd_len S) r 1 (by rw [List.length_map]; omega) (by decide)]
  simp [List.getD, SSt.sin, rdEl, show r < S.rs.length by omega]
theorem sCells_in {S : SSt} (h : S.Ok) : (sCells S)[128]? = some (.int .u64 (S.m : Int)) := by
  unfold sCells; rw [List.getElem?_append_right (by rw [sFlat_len, h.len]; decide), sFlat_len, h.len]; rfl
theorem sCells_st {S : SSt} (h : S.Ok) : (sCells S)[129]? = some (.int .i64 (S.st : Int)) := by
  unfold sCells; rw [List.getElem?_append_right (by rw [sFlat_len, h.len]; decide), sFlat_len, h.len]; rfl
theorem Blk.cellO {W : World} {b : Nat} {t : TypeId} {cs : List Value} (h : Blk W b t cs) {k : Nat} {v : Value} (hk : cs[k]? = some v) : W.cell? ⟨b, k, none⟩ = some v := by
  obtain ⟨hlt, e⟩ := List.getElem?_eq_some_iff.1 hk
  rw [h.cell k hlt, e]
theorem SectAt.cDep {w : World} {p : Nat} {S : SSt} (h : SectAt w p S) (r : Nat) (hr : r < 64) : w.cell? ⟨p, r * 2, none⟩ = some (.int .i64 (S.dep r : Nat)) := h.hdr.cellO (sCells_dep h.ok r hr)
theorem SectAt.cSin {w : World} {p : Nat} {S : SSt} (h : SectAt w p S) (r : Nat) (hr : r < 64) : w.cell? ⟨p, r * 2 + 1, none⟩ = some (.int .i64 (S.sin r : Nat)) := h.hdr.cellO (sCells_sin h.ok r hr)
theorem SectAt.cIn {w : World} {p : Nat} {S : SSt} (h : SectAt w p S) : w.cell? ⟨p, 128, none⟩ = some (.int .u64 (S.m : Int)) := h.hdr.cellO (sCells_in h.ok)
theorem SectAt.cSt {w : World} {p : Nat} {S : SSt} (h : SectAt w p S) : w.cell? ⟨p, 129, none⟩ = some (.int .i64 (S.st : Int)) := h.hdr.cellO (sCells_st h.ok)
theorem SectAt.keeps {w w' : World} {p : Nat} {S : SSt} (h : SectAt w p S) (hk : Keeps w w') : SectAt w' p S := ⟨h.hdr.keeps hk, h.ok⟩
theorem SectAt.chg {D : Nat → Prop} {w w' : World} {p : Nat} {S : SSt} (h : SectAt w p S) (hk : Chg D w w') (hp : ¬ D p) : SectAt w' p S := ⟨h.hdr.chg hk hp, h.ok⟩

set_option maxHeartbeats 400000 in
theorem find_nil (r : Int) (w : World) : Calls Tryd.prog 68 #[.pointer none, .int .i64 r] w fun e w' => e = .returned (.tuple #[.pointer none, .int .i64 6]) ∧ w = w' := by
  go_enter Tryd.func68, Tryd.ntmps68
  go_wp2
  go_ret2
  exact ⟨rfl, rfl⟩
set_option maxHeartbeats 400000 in
theorem find_no (p : Nat) (r : Int) (w : World) (h : ¬ (0 ≤ r ∧ r < 64)) : Calls Tryd.prog 68 #[.pointer (some ⟨p, 0, none⟩), .int .i64 r] w fun e w' => e = .returned (.tuple #[.pointer none, .int .i64 2]) ∧ w = w' := by
  have hcase : r < 0 ∨ (¬ r < 0 ∧ 64 ≤ r) := by omega
  clear h
  rcases hcase with h1 | ⟨h1, h2⟩
  all_goals
    go_enter Tryd.func68, Tryd.ntmps68
    go_wp2
    go_ret2
    exact ⟨rfl, rfl⟩
set_option maxHeartbeats 400000 in
theorem find_yes (p r : Nat) (w : World) (h : r < 64) : Calls Tryd.prog 68 #[.pointer (some ⟨p, 0, none⟩), .int .i64 r] w fun e w' => e = .returned (.tuple #[.pointer (some ⟨p, r * 2, none⟩), .int .i64 0]) ∧ w = w' := by
  have h1 : ¬ (r : Int) < 0 := by omega
  have h2 : ¬ 64 ≤ (r : Int) := by omega
  have h3 : (r : Int) < 64 := by omega
  have h4 : (0 : Int) ≤ (r : Int) := by omega
  go_enter Tryd.func68, Tryd.ntmps68
  go_wp2
  go_ret2
  exact ⟨rfl, rfl⟩
end Go.Proofs.YtefippjakkgjkaaDoor
