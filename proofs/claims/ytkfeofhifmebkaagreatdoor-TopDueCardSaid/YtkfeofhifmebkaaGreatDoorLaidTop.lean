/- The types of the program are laid out: a closed fact, in pieces. -/
import Derived.Test.YtkfeofhifmebkaaGreatDoorRow
namespace Go.Proofs.YtkfeofhifmebkaaGreatDoor
open Go
theorem fine0 : (List.range' 0 40).all (rowFine Tryz.prog) = true := by kernel_rfl
theorem fine1 : (List.range' 40 40).all (rowFine Tryz.prog) = true := by kernel_rfl
theorem fine2 : (List.range' 80 40).all (rowFine Tryz.prog) = true := by kernel_rfl
theorem fine3 : (List.range' 120 40).all (rowFine Tryz.prog) = true := by kernel_rfl
theorem fine4 : (List.range' 160 40).all (rowFine Tryz.prog) = true := by kernel_rfl
theorem fine5 : (List.range' 200 40).all (rowFine Tryz.prog) = true := by kernel_rfl
theorem fine6 : (List.range' 240 40).all (rowFine Tryz.prog) = true := by kernel_rfl
theorem fine7 : (List.range' 280 40).all (rowFine Tryz.prog) = true := by kernel_rfl
theorem fine8 : (List.range' 320 40).all (rowFine Tryz.prog) = true := by kernel_rfl
theorem fine9 : (List.range' 360 40).all (rowFine Tryz.prog) = true := by kernel_rfl
theorem fine10 : (List.range' 400 40).all (rowFine Tryz.prog) = true := by kernel_rfl
theorem fine11 : (List.range' 440 40).all (rowFine Tryz.prog) = true := by kernel_rfl
theorem fine12 : (List.range' 480 40).all (rowFine Tryz.prog) = true := by kernel_rfl
theorem fine13 : (List.range' 520 40).all (rowFine Tryz.prog) = true := by kernel_rfl
theorem fine14 : (List.range' 560 40).all (rowFine Tryz.prog) = true := by kernel_rfl
theorem fine15 : (List.range' 600 40).all (rowFine Tryz.prog) = true := by kernel_rfl
theorem fine16 : (List.range' 640 40).all (rowFine Tryz.prog) = true := by kernel_rfl
theorem fine17 : (List.range' 680 9).all (rowFine Tryz.prog) = true := by kernel_rfl
theorem fine_globals : Tryz.prog.globals.all (fun g => decide (g.type < Tryz.prog.types.size)) = true := by kernel_rfl
theorem fine_funcs : Tryz.prog.funcs.all (fun f => f.params.all fun t => decide (t < Tryz.prog.types.size)) = true := by kernel_rfl
theorem fine_size : Tryz.prog.types.size = 689 := by kernel_rfl
theorem all_app {α : Type} {f : α → Bool} {l m : List α} (h : l.all f = true) (k : m.all f = true) : (l ++ m).all f = true := by rw [List.all_append, h, k]; rfl
theorem fine_range : List.range 689 = List.range' 0 40 ++ (List.range' 40 40 ++ (List.range' 80 40 ++ (List.range' 120 40 ++ (List.range' 160 40 ++ (List.range' 200 40 ++ (List.range' 240 40 ++ (List.range' 280 40 ++ (List.range' 320 40 ++ (List.range' 360 40 ++ (List.range' 400 40 ++ (List.range' 440 40 ++ (List.range' 480 40 ++ (List.range' 520 40 ++ (List.range' 560 40 ++ (List.range' 600 40 ++ (List.range' 640 40 ++ (List.range' 680 9))))))))))))))))) := by kernel_rfl
theorem laidOut : laidOutB Tryz.prog = true := by
  have h1 : (List.range Tryz.prog.types.size).all (rowFine Tryz.prog) = true := by
    rw [fine_size, fine_range]
    exact all_app fine0 (all_app fine1 (all_app fine2 (all_app fine3 (all_app fine4 (all_app fine5 (all_app fine6 (all_app fine7 (all_app fine8 (all_app fine9 (all_app fine10 (all_app fine11 (all_app fine12 (all_app fine13 (all_app fine14 (all_app fine15 (all_app fine16 (fine17)))))))))))))))))
  unfold laidOutB
  rw [h1, fine_globals, fine_funcs]
  rfl
end Go.Proofs.YtkfeofhifmebkaaGreatDoor
