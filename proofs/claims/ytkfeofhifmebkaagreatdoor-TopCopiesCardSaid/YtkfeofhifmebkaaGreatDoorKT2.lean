/- The tops: a verified evaluator of the program (KT2). -/
import Derived.Test.YtkfeofhifmebkaaGreatDoorKS
set_option maxRecDepth 100000
namespace Go.Ev
open Go Go.Proofs
theorem stp56_ok : stp56.okE = true := by kernel_rfl
theorem stp57_ok : stp57.okE = true := by kernel_rfl
theorem stp58_ok : stp58.okE = true := by kernel_rfl
theorem stp59_ok : stp59.okE = true := by kernel_rfl
theorem stp60_ok : stp60.okE = true := by kernel_rfl
theorem stp61_ok : stp61.okE = true := by kernel_rfl
theorem stp62_ok : stp62.okE = true := by kernel_rfl
theorem stp63_ok : stp63.okE = true := by kernel_rfl
theorem stp64_ok : stp64.okE = true := by kernel_rfl
theorem stp65_ok : stp65.okE = true := by kernel_rfl
theorem stp66_ok : stp66.okE = true := by kernel_rfl
theorem stp67_ok : stp67.okE = true := by kernel_rfl
theorem stp68_ok : stp68.okE = true := by kernel_rfl
theorem stp69_ok : stp69.okE = true := by kernel_rfl
theorem stp70_ok : stp70.okE = true := by kernel_rfl
theorem stp71_ok : stp71.okE = true := by kernel_rfl
theorem stp72_ok : stp72.okE = true := by kernel_rfl
theorem stp73_ok : stp73.okE = true := by kernel_rfl
theorem stp74_ok : stp74.okE = true := by kernel_rfl
theorem stp75_ok : stp75.okE = true := by kernel_rfl
theorem stp76_ok : stp76.okE = true := by kernel_rfl
theorem stp77_ok : stp77.okE = true := by kernel_rfl
theorem stp78_ok : stp78.okE = true := by kernel_rfl
theorem stp79_ok : stp79.okE = true := by kernel_rfl
theorem stp80_ok : stp80.okE = true := by kernel_rfl
theorem stp81_ok : stp81.okE = true := by kernel_rfl
theorem stp82_ok : stp82.okE = true := by kernel_rfl
theorem stp83_ok : stp83.okE = true := by kernel_rfl
end Go.Ev
