/- What the laid tables give; a world for the witnesses (the tops). -/
import Derived.Test.YtkfeofhifmebkaaGreatDoorCards
import Derived.Test.YtkfeofhifmebkaaGreatDoorMyTie
import Derived.Test.YtkfeofhifmebkaaGreatDoorRow
import Derived.Test.YtkfeofhifmebkaaGreatDoorOpenDue
import Derived.Test.YtkfeofhifmebkaaGreatDoorLaidTop
import Derived.Lib.LaidTab
import Derived.LaidSub
import Derived.Deep.DeepLaidRun
import Derived.Deep.DeepWitnessRowRef
set_option maxRecDepth 100000
namespace Go.Proofs.YtkfeofhifmebkaaGreatDoor
open Go.ChangeShapes Go.WideShapes Go.ChangeAt Go.RowKit

theorem own : ownKnob Tryz.prog.godebug = none := by kernel_rfl
theorem cellsU64 : Tryz.prog.cellsOf 25 = 1 := by kernel_rfl
theorem cellsU8 : Tryz.prog.cellsOf 5 = 1 := by kernel_rfl
abbrev laidT : List (String × DataW Unit) := [("math/bits.deBruijn64tab", Rows.laid_math_bits_deBruijn64tab), ("strings.asciiSpace", Rows.laid_strings_asciiSpace), ("unicode.White_Space", Rows.laid_unicode_White_Space), ("internal/strconv.uint64pow10", Rows.laid_internal_strconv_uint64pow10), ("math/bits.deBruijn32tab", Rows.laid_math_bits_deBruijn32tab)]
theorem data_b64 : Rows.laid_math_bits_deBruijn64tab (H := Unit) = Lib.tabData .u8 (Lib.deBruijn64tab.map fun (n : Nat) => (n : Int)) := by kernel_rfl
theorem cellsOf_b64 : Tryz.prog.cellsOf 303 = (Lib.deBruijn64tab.map fun (n : Nat) => (n : Int)).length := by kernel_rfl
theorem gt_b64 : (Tryz.prog.globals[0]?).map (·.type) = some 303 := by kernel_rfl
theorem gn_b64 : Tryz.prog.globalNamed "math/bits.deBruijn64tab" = some 0 := by kernel_rfl
theorem one_b64 {W : World} (h : laidMetH Tryz.prog laidT W) : laidMetH Tryz.prog [("math/bits.deBruijn64tab", Rows.laid_math_bits_deBruijn64tab)] W := h.filter (fun x => x.1 == "math/bits.deBruijn64tab")
theorem tab_b64 {W : World} (h : laidMetH Tryz.prog laidT W) : Lib.TabIs Tryz.prog W "math/bits.deBruijn64tab" .u8 (Lib.deBruijn64tab.map fun (n : Nat) => (n : Int)) := by
  have h1 : laidMet Tryz.prog [("math/bits.deBruijn64tab", Rows.laid_math_bits_deBruijn64tab)] W := one_b64 h
  rw [data_b64] at h1
  exact Lib.tabIs_of_head (rest := []) gn_b64 gt_b64 Tryz.underlying303 Tryz.underlying5 cellsU8 cellsOf_b64 h1
set_option maxRecDepth 100000 in
theorem data_sp : Rows.laid_strings_asciiSpace (H := Unit) = Lib.tabData .u8 Lib.asciiSpaceTab := by kernel_rfl
theorem cellsOf_sp : Tryz.prog.cellsOf 310 = Lib.asciiSpaceTab.length := by kernel_rfl
theorem gt_sp : (Tryz.prog.globals[1]?).map (·.type) = some 310 := by kernel_rfl
theorem gn_sp : Tryz.prog.globalNamed "strings.asciiSpace" = some 1 := by kernel_rfl
theorem one_sp {W : World} (h : laidMetH Tryz.prog laidT W) : laidMetH Tryz.prog [("strings.asciiSpace", Rows.laid_strings_asciiSpace)] W := h.filter (fun x => x.1 == "strings.asciiSpace")
theorem tab_sp {W : World} (h : laidMetH Tryz.prog laidT W) : Lib.TabIs Tryz.prog W "strings.asciiSpace" .u8 Lib.asciiSpaceTab := by
  have h1 : laidMet Tryz.prog [("strings.asciiSpace", Rows.laid_strings_asciiSpace)] W := one_sp h
  rw [data_sp] at h1
  exact Lib.tabIs_of_head (rest := []) gn_sp gt_sp Tryz.underlying310 Tryz.underlying5 cellsU8 cellsOf_sp h1
theorem data_pow : Rows.laid_internal_strconv_uint64pow10 (H := Unit) = Lib.tabData .u64 Lib.pow10Tab := by kernel_rfl
theorem cellsOf_pow : Tryz.prog.cellsOf 391 = Lib.pow10Tab.length := by kernel_rfl
theorem gt_pow : (Tryz.prog.globals[2]?).map (·.type) = some 391 := by kernel_rfl
theorem gn_pow : Tryz.prog.globalNamed "internal/strconv.uint64pow10" = some 2 := by kernel_rfl
theorem one_pow {W : World} (h : laidMetH Tryz.prog laidT W) : laidMetH Tryz.prog [("internal/strconv.uint64pow10", Rows.laid_internal_strconv_uint64pow10)] W := h.filter (fun x => x.1 == "internal/strconv.uint64pow10")
theorem tab_pow {W : World} (h : laidMetH Tryz.prog laidT W) : Lib.TabIs Tryz.prog W "internal/strconv.uint64pow10" .u64 Lib.pow10Tab := by
  have h1 : laidMet Tryz.prog [("internal/strconv.uint64pow10", Rows.laid_internal_strconv_uint64pow10)] W := one_pow h
  rw [data_pow] at h1
  exact Lib.tabIs_of_head (rest := []) gn_pow gt_pow Tryz.underlying391 Tryz.underlying25 cellsU64 cellsOf_pow h1
theorem data_b32 : Rows.laid_math_bits_deBruijn32tab (H := Unit) = Lib.tabData .u8 (Lib.deBruijn32tab.map fun (n : Nat) => (n : Int)) := by kernel_rfl
theorem cellsOf_b32 : Tryz.prog.cellsOf 549 = (Lib.deBruijn32tab.map fun (n : Nat) => (n : Int)).length := by kernel_rfl
theorem gt_b32 : (Tryz.prog.globals[5]?).map (·.type) = some 549 := by kernel_rfl
theorem gn_b32 : Tryz.prog.globalNamed "math/bits.deBruijn32tab" = some 5 := by kernel_rfl
theorem one_b32 {W : World} (h : laidMetH Tryz.prog laidT W) : laidMetH Tryz.prog [("math/bits.deBruijn32tab", Rows.laid_math_bits_deBruijn32tab)] W := h.filter (fun x => x.1 == "math/bits.deBruijn32tab")
theorem tab_b32 {W : World} (h : laidMetH Tryz.prog laidT W) : Lib.TabIs Tryz.prog W "math/bits.deBruijn32tab" .u8 (Lib.deBruijn32tab.map fun (n : Nat) => (n : Int)) := by
  have h1 : laidMet Tryz.prog [("math/bits.deBruijn32tab", Rows.laid_math_bits_deBruijn32tab)] W := one_b32 h
  rw [data_b32] at h1
  exact Lib.tabIs_of_head (rest := []) gn_b32 gt_b32 Tryz.underlying549 Tryz.underlying5 cellsU8 cellsOf_b32 h1
theorem tabs_of_laid {W : World} (h : laidMetH Tryz.prog laidT W) : TabsTop W := ⟨tab_b64 h, tab_sp h, tab_pow h, tab_b32 h⟩
/-- A world for the witness: the settled one, the tables laid. -/
noncomputable def laidWorld (os : Os) : World :=
  let N := (World.settled Tryz.prog os).heap.size
  let w0 := World.holding Tryz.prog os ⟨#[.cells ([9, 13, 1, 32, 133, 101, 160, 5760, 5600, 8192, 8202, 1, 8232, 8233, 1, 8239, 8287, 48, 12288, 12288, 1].map fun (z : Nat) => Value.int .u16 (z : Int)).toArray 475, .cells #[.slice (some ⟨N, 0, none⟩) 7 7, .slice none 0 0, .int .i64 2] 473], #[], []⟩
  let put (h : Array Obj) (g : Nat) (cs : Array Value) : Array Obj := h.modify g fun
    | .cells _ t frozen => .cells cs t frozen
    | o => o
  let h1 := put w0.heap 1 (Lib.asciiSpaceTab.map fun z => Value.int .u8 z).toArray
  let h2 := put h1 2 (Lib.pow10Tab.map fun z => Value.int .u64 z).toArray
  let h3 := put h2 5 ([0, 1, 28, 2, 29, 14, 24, 3, 30, 22, 20, 15, 25, 17, 4, 8, 31, 27, 13, 23, 21, 19, 16, 7, 26, 12, 18, 6, 11, 5, 10, 9].map fun (z : Nat) => Value.int .u8 (z : Int)).toArray
  let h4 := put h3 0 ([0, 1, 56, 2, 57, 49, 28, 3, 61, 58, 42, 50, 38, 29, 17, 4, 62, 47, 59, 36, 45, 43, 51, 22, 53, 39, 33, 30, 24, 18, 12, 5, 63, 55, 48, 27, 60, 41, 37, 16, 46, 35, 44, 21, 52, 32, 23, 11, 54, 26, 40, 15, 34, 20, 31, 10, 25, 14, 19, 9, 13, 8, 7, 6].map fun (z : Nat) => Value.int .u8 (z : Int)).toArray
  { w0 with heap := put h4 3 #[.pointer (some ⟨N + 1, 0, none⟩)] }
end Go.Proofs.YtkfeofhifmebkaaGreatDoor
