/- The tops: a verified evaluator of the program (KT1). -/
import Derived.Test.YtkfeofhifmebkaaGreatDoorKS
set_option maxRecDepth 100000
namespace Go.Ev
open Go Go.Proofs
theorem stp28_ok : stp28.okE = true := by kernel_rfl
theorem stp29_ok : stp29.okE = true := by kernel_rfl
theorem stp30_ok : stp30.okE = true := by kernel_rfl
theorem stp31_ok : stp31.okE = true := by kernel_rfl
theorem stp32_ok : stp32.okE = true := by kernel_rfl
theorem stp33_ok : stp33.okE = true := by kernel_rfl
theorem stp34_ok : stp34.okE = true := by kernel_rfl
theorem stp35_ok : stp35.okE = true := by kernel_rfl
theorem stp36_ok : stp36.okE = true := by kernel_rfl
theorem stp37_ok : stp37.okE = true := by kernel_rfl
theorem stp38_ok : stp38.okE = true := by kernel_rfl
theorem stp39_ok : stp39.okE = true := by kernel_rfl
theorem stp40_ok : stp40.okE = true := by kernel_rfl
theorem stp41_ok : stp41.okE = true := by kernel_rfl
theorem stp42_ok : stp42.okE = true := by kernel_rfl
theorem stp43_ok : stp43.okE = true := by kernel_rfl
theorem stp44_ok : stp44.okE = true := by kernel_rfl
theorem stp45_ok : stp45.okE = true := by kernel_rfl
theorem stp46_ok : stp46.okE = true := by kernel_rfl
theorem stp47_ok : stp47.okE = true := by kernel_rfl
theorem stp48_ok : stp48.okE = true := by kernel_rfl
theorem stp49_ok : stp49.okE = true := by kernel_rfl
theorem stp50_ok : stp50.okE = true := by kernel_rfl
theorem stp51_ok : stp51.okE = true := by kernel_rfl
theorem stp52_ok : stp52.okE = true := by kernel_rfl
theorem stp53_ok : stp53.okE = true := by kernel_rfl
theorem stp54_ok : stp54.okE = true := by kernel_rfl
theorem stp55_ok : stp55.okE = true := by kernel_rfl
end Go.Ev
