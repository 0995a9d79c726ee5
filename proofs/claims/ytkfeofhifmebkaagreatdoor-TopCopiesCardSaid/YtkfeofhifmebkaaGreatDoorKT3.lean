/- The tops: a verified evaluator of the program (KT3). -/
import Derived.Test.YtkfeofhifmebkaaGreatDoorKS
set_option maxRecDepth 100000
namespace Go.Ev
open Go Go.Proofs
theorem stp84_ok : stp84.okE = true := by kernel_rfl
theorem stp85_ok : stp85.okE = true := by kernel_rfl
theorem stp86_ok : stp86.okE = true := by kernel_rfl
theorem stp87_ok : stp87.okE = true := by kernel_rfl
theorem stp88_ok : stp88.okE = true := by kernel_rfl
theorem stp89_ok : stp89.okE = true := by kernel_rfl
theorem stp90_ok : stp90.okE = true := by kernel_rfl
theorem stp91_ok : stp91.okE = true := by kernel_rfl
theorem stp92_ok : stp92.okE = true := by kernel_rfl
theorem stp93_ok : stp93.okE = true := by kernel_rfl
theorem stp94_ok : stp94.okE = true := by kernel_rfl
theorem stp95_ok : stp95.okE = true := by kernel_rfl
theorem stp96_ok : stp96.okE = true := by kernel_rfl
theorem stp97_ok : stp97.okE = true := by kernel_rfl
theorem stp98_ok : stp98.okE = true := by kernel_rfl
theorem stp99_ok : stp99.okE = true := by kernel_rfl
theorem stp100_ok : stp100.okE = true := by kernel_rfl
theorem stp101_ok : stp101.okE = true := by kernel_rfl
theorem stp102_ok : stp102.okE = true := by kernel_rfl
theorem stp103_ok : stp103.okE = true := by kernel_rfl
theorem stp104_ok : stp104.okE = true := by kernel_rfl
theorem stp105_ok : stp105.okE = true := by kernel_rfl
theorem stp106_ok : stp106.okE = true := by kernel_rfl
theorem stp107_ok : stp107.okE = true := by kernel_rfl
theorem stp108_ok : stp108.okE = true := by kernel_rfl
theorem stp109_ok : stp109.okE = true := by kernel_rfl
theorem stp110_ok : stp110.okE = true := by kernel_rfl
theorem stp111_ok : stp111.okE = true := by kernel_rfl
end Go.Ev
