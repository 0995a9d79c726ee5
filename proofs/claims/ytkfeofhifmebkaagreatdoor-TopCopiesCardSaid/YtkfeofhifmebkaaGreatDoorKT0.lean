/- The tops: a verified evaluator of the program (KT0). -/
import Derived.Test.YtkfeofhifmebkaaGreatDoorKS
set_option maxRecDepth 100000
namespace Go.Ev
open Go Go.Proofs
theorem stp0_ok : stp0.okE = true := by kernel_rfl
theorem stp1_ok : stp1.okE = true := by kernel_rfl
theorem stp2_ok : stp2.okE = true := by kernel_rfl
theorem stp3_ok : stp3.okE = true := by kernel_rfl
theorem stp4_ok : stp4.okE = true := by kernel_rfl
theorem stp5_ok : stp5.okE = true := by kernel_rfl
theorem stp6_ok : stp6.okE = true := by kernel_rfl
theorem stp7_ok : stp7.okE = true := by kernel_rfl
theorem stp8_ok : stp8.okE = true := by kernel_rfl
theorem stp9_ok : stp9.okE = true := by kernel_rfl
theorem stp10_ok : stp10.okE = true := by kernel_rfl
theorem stp11_ok : stp11.okE = true := by kernel_rfl
theorem stp12_ok : stp12.okE = true := by kernel_rfl
theorem stp13_ok : stp13.okE = true := by kernel_rfl
theorem stp14_ok : stp14.okE = true := by kernel_rfl
theorem stp15_ok : stp15.okE = true := by kernel_rfl
theorem stp16_ok : stp16.okE = true := by kernel_rfl
theorem stp17_ok : stp17.okE = true := by kernel_rfl
theorem stp18_ok : stp18.okE = true := by kernel_rfl
theorem stp19_ok : stp19.okE = true := by kernel_rfl
theorem stp20_ok : stp20.okE = true := by kernel_rfl
theorem stp21_ok : stp21.okE = true := by kernel_rfl
theorem stp22_ok : stp22.okE = true := by kernel_rfl
theorem stp23_ok : stp23.okE = true := by kernel_rfl
theorem stp24_ok : stp24.okE = true := by kernel_rfl
theorem stp25_ok : stp25.okE = true := by kernel_rfl
theorem stp26_ok : stp26.okE = true := by kernel_rfl
theorem stp27_ok : stp27.okE = true := by kernel_rfl
end Go.Ev
