/- What the laid tables give a walk; a world for the witnesses. -/
import Derived.Test.YtmmglikbajiepaaDoorCards
import Derived.Test.YtmmglikbajiepaaDoorTie
import Derived.Test.YtmmglikbajiepaaDoorRow
import Derived.Test.YtmmglikbajiepaaDoorFmt15
import Derived.Lib.LaidTab
import Derived.LaidSub
import Derived.Deep.DeepLaidRun
import Derived.Deep.DeepWitnessRowRef
namespace Go.Proofs.YtmmglikbajiepaaDoor
open Go.ChangeShapes Go.WideShapes Go.ChangeAt Go.RowKit

theorem own : ownKnob Tryd.prog.godebug = none := by kernel_rfl
theorem laidOut : laidOutB Tryd.prog = true := by kernel_rfl
theorem gPow : Tryd.prog.globalNamed "internal/strconv.uint64pow10" = some 2 := by kernel_rfl
theorem gPowType : (Tryd.prog.globals[2]?).map (·.type) = some 114 := by kernel_rfl
theorem gSp : Tryd.prog.globalNamed "strings.asciiSpace" = some 0 := by kernel_rfl
theorem gSpType : (Tryd.prog.globals[0]?).map (·.type) = some 69 := by kernel_rfl
theorem cellsPow : Tryd.prog.cellsOf 114 = 20 := by kernel_rfl
theorem cellsSp : Tryd.prog.cellsOf 69 = 256 := by kernel_rfl
theorem cellsU64 : Tryd.prog.cellsOf 103 = 1 := by kernel_rfl
theorem cellsU8 : Tryd.prog.cellsOf 5 = 1 := by kernel_rfl
set_option maxRecDepth 100000 in
theorem tabs_of_laid {W : World} (h : laidMetH Tryd.prog [("math/bits.deBruijn32tab", Rows.laid_math_bits_deBruijn32tab), ("math/bits.deBruijn64tab", Rows.laid_math_bits_deBruijn64tab), ("internal/strconv.uint64pow10", Rows.laid_internal_strconv_uint64pow10), ("unicode.White_Space", Rows.laid_unicode_White_Space), ("strings.asciiSpace", Rows.laid_strings_asciiSpace)] W) : Tabs W := by
  have h1 : laidMetH Tryd.prog [("internal/strconv.uint64pow10", Rows.laid_internal_strconv_uint64pow10)] W := h.filter (fun x => x.1 == "internal/strconv.uint64pow10")
  have h2 : laidMetH Tryd.prog [("strings.asciiSpace", Rows.laid_strings_asciiSpace)] W := h.filter (fun x => x.1 == "strings.asciiSpace")
  exact ⟨Lib.tabIs_of_head (rest := []) gPow gPowType Tryd.underlying114 Tryd.underlying103 cellsU64 cellsPow h1,
    Lib.tabIs_of_head (rest := []) gSp gSpType Tryd.underlying69 Tryd.underlying5 cellsU8 cellsSp h2⟩
/-- A world for the witness: the settled one, the tables laid. -/
noncomputable def laidWorld (os : Os) : World :=
  let N := (World.settled Tryd.prog os).heap.size
  let w0 := World.holding Tryd.prog os ⟨#[.cells ([9, 13, 1, 32, 133, 101, 160, 5760, 5600, 8192, 8202, 1, 8232, 8233, 1, 8239, 8287, 48, 12288, 12288, 1].map fun (z : Nat) => Value.int .u16 (z : Int)).toArray 97, .cells #[.slice (some ⟨N, 0, none⟩) 7 7, .slice none 0 0, .int .i64 2] 95], #[], []⟩
  let put (h : Array Obj) (g : Nat) (cs : Array Value) : Array Obj := h.modify g fun
    | .cells _ t frozen => .cells cs t frozen
    | o => o
  let h1 := put w0.heap 0 (Lib.asciiSpaceTab.map fun z => Value.int .u8 z).toArray
  let h2 := put h1 2 (Lib.pow10Tab.map fun z => Value.int .u64 z).toArray
  let h3 := put h2 4 ([0, 1, 28, 2, 29, 14, 24, 3, 30, 22, 20, 15, 25, 17, 4, 8, 31, 27, 13, 23, 21, 19, 16, 7, 26, 12, 18, 6, 11, 5, 10, 9].map fun (z : Nat) => Value.int .u8 (z : Int)).toArray
  let h4 := put h3 5 ([0, 1, 56, 2, 57, 49, 28, 3, 61, 58, 42, 50, 38, 29, 17, 4, 62, 47, 59, 36, 45, 43, 51, 22, 53, 39, 33, 30, 24, 18, 12, 5, 63, 55, 48, 27, 60, 41, 37, 16, 46, 35, 44, 21, 52, 32, 23, 11, 54, 26, 40, 15, 34, 20, 31, 10, 25, 14, 19, 9, 13, 8, 7, 6].map fun (z : Nat) => Value.int .u8 (z : Int)).toArray
  { w0 with heap := put h4 1 #[.pointer (some ⟨N + 1, 0, none⟩)] }
end Go.Proofs.YtmmglikbajiepaaDoor
