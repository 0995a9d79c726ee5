/- What the laid table gives a walk; a world for the witnesses. -/
import Derived.Test.YtefippjakkgjkaaDoorCards
import Derived.Test.YtefippjakkgjkaaDoorTie
import Derived.Test.YtefippjakkgjkaaDoorRow
import Derived.Test.YtefippjakkgjkaaDoorMaskA
import Derived.Lib.LaidTab
namespace Go.Proofs.YtefippjakkgjkaaDoor
open Go.ChangeShapes Go.WideShapes Go.ChangeAt Go.RowKit

theorem own : ownKnob Tryd.prog.godebug = none := by kernel_rfl
theorem laidOut : laidOutB Tryd.prog = true := by kernel_rfl
theorem gTab : Tryd.prog.globalNamed "math/bits.deBruijn64tab" = some 0 := by kernel_rfl
theorem gTabType : (Tryd.prog.globals[0]?).map (·.type) = some 155 := by kernel_rfl
theorem cellsTab : Tryd.prog.cellsOf 155 = 64 := by kernel_rfl
theorem cellsU8 : Tryd.prog.cellsOf 5 = 1 := by kernel_rfl

def tabInts : List Int := [0, 1, 56, 2, 57, 49, 28, 3, 61, 58, 42, 50, 38, 29, 17, 4, 62, 47, 59, 36, 45, 43, 51, 22, 53, 39, 33, 30, 24, 18, 12, 5, 63, 55, 48, 27, 60, 41, 37, 16, 46, 35, 44, 21, 52, 32, 23, 11, 54, 26, 40, 15, 34, 20, 31, 10, 25, 14, 19, 9, 13, 8, 7, 6]
theorem tabInts_at : ∀ j, j < 64 → tabInts.getD j 0 = ((Lib.deBruijn64tab.getD j 0 : Nat) : Int) := by decide
theorem tab_of_laid {W : World} (h : laidMetH Tryd.prog [("math/bits.deBruijn64tab", Rows.laid_math_bits_deBruijn64tab)] W) : TabAt W := by
  have ht : Lib.TabIs Tryd.prog W "math/bits.deBruijn64tab" .u8 tabInts := Lib.tabIs_of_head (rest := []) gTab gTabType Tryd.underlying155 Tryd.underlying5 cellsU8 cellsTab h
  intro j hj
  have := ht.cell gTab j hj
  rw [tabInts_at j hj] at this
  exact this
/-- A world for the witness: the settled one, the table laid. -/
noncomputable def laidWorld (os : Os) : World :=
  { World.holding Tryd.prog os ⟨#[], #[], []⟩ with heap := (World.holding Tryd.prog os ⟨#[], #[], []⟩).heap.modify 0 fun
      | .cells _ t frozen => .cells (tabInts.map (Value.int .u8)).toArray t frozen
      | o => o }
end Go.Proofs.YtefippjakkgjkaaDoor
