/- The tops: a verified evaluator of the program (KT4). -/
import Derived.Test.YtkfeofhifmebkaaGreatDoorKS
set_option maxRecDepth 100000
namespace Go.Ev
open Go Go.Proofs
theorem stp112_ok : stp112.okE = true := by kernel_rfl
theorem stp113_ok : stp113.okE = true := by kernel_rfl
theorem stp114_ok : stp114.okE = true := by kernel_rfl
theorem stp115_ok : stp115.okE = true := by kernel_rfl
theorem stp116_ok : stp116.okE = true := by kernel_rfl
theorem stp117_ok : stp117.okE = true := by kernel_rfl
theorem stp118_ok : stp118.okE = true := by kernel_rfl
theorem stp119_ok : stp119.okE = true := by kernel_rfl
theorem stp120_ok : stp120.okE = true := by kernel_rfl
theorem stp121_ok : stp121.okE = true := by kernel_rfl
theorem stp122_ok : stp122.okE = true := by kernel_rfl
theorem stp123_ok : stp123.okE = true := by kernel_rfl
theorem stp124_ok : stp124.okE = true := by kernel_rfl
theorem stp125_ok : stp125.okE = true := by kernel_rfl
theorem stp126_ok : stp126.okE = true := by kernel_rfl
theorem stp127_ok : stp127.okE = true := by kernel_rfl
theorem stp128_ok : stp128.okE = true := by kernel_rfl
theorem stp129_ok : stp129.okE = true := by kernel_rfl
theorem stp130_ok : stp130.okE = true := by kernel_rfl
theorem stp131_ok : stp131.okE = true := by kernel_rfl
theorem stp132_ok : stp132.okE = true := by kernel_rfl
theorem stp133_ok : stp133.okE = true := by kernel_rfl
theorem stp134_ok : stp134.okE = true := by kernel_rfl
theorem stp135_ok : stp135.okE = true := by kernel_rfl
theorem stp136_ok : stp136.okE = true := by kernel_rfl
end Go.Ev
