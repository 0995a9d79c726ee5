/- IsaKinds. -/
import Derived.Test.YtmmglikbajiepaaDoorIsaK2
namespace Go.Proofs.YtmmglikbajiepaaDoor
open Go.RowKit

set_option maxRecDepth 100000 in
set_option maxHeartbeats 2000000 in
theorem lawKinds_any (op : Int) (w : World) (hT : Tabs w) : Calls Tryd.prog 3 #[.int .i64 op] w fun e w' => e = .returned (.bool true) ∧ Keeps w w' := by
  have fk := fun (j : Int) (W : World) => kind_any j W
  have fc := fun (j : Int) (W : World) => class_any j W
  have fn := fun (j : Int) (W : World) (hk : Keeps w W) => name_any j W (hT.keeps hk)
  have fkn := fun (W : World) (hk : Keeps w W) => known_any W (hT.keeps hk)
  clear hT
  replace fk := Lib.hid fk
  replace fc := Lib.hid fc
  replace fn := Lib.hid fn
  replace fkn := Lib.hid fkn
  go_enter Tryd.func3, Tryd.ntmps3
  go_wp2_with fail
  go_loopw [3] (fun iv wr => ∃ j : Int, -3 ≤ j ∧ j ≤ 260 ∧ iv = .int .i64 j ∧ Keeps w wr) (fun iv _ => (260 - intOf iv).toNat)
  case atStart => exact ⟨-3, by omega, by omega, rfl, Keeps.refl _⟩
  case round =>
    obtain ⟨j, hj0, hj1, rfl, hK⟩ := hrel
    by_cases hlt : j < 260
    · have f1 := fk.out j
      have f2 := fc.out j
      have f3 := fn.out j
      generalize str (nameB j) = s1 at *
      generalize str (shapeB j) = s2 at *
      generalize classM j = c at *
      replace f1 := Lib.hid f1
      replace f2 := Lib.hid f2
      replace f3 := Lib.hid f3
      replace hK := Lib.hid hK
      go_wp2_with fail
      with_reducible refine (f1.out _).mono ?_
      rintro e w1 ⟨rfl, hK1⟩
      replace hK1 := Lib.hid (hK.out.trans hK1)
      go_wp2_with fail
      with_reducible refine (f2.out _).mono ?_
      rintro e w' ⟨rfl, rfl⟩
      go_wp2_with fail
      refine (f3.out _ hK1.out).mono ?_
      rintro e w2 ⟨rfl, hK2⟩
      replace hK2 := Lib.hid (hK1.out.trans hK2)
      go_wp2_with fail
      go_roundw
      case rel => exact ⟨j + 1, by omega, by omega, by go_num, hK2.out⟩
      case measure => (simp [intOf]; try omega)
    · have f1 := fk.out op
      have f2 := fc.out op
      have f3 := fn.out op
      generalize str (nameB op) = s1 at *
      generalize str (shapeB op) = s2 at *
      generalize classM op = c at *
      replace f1 := Lib.hid f1
      replace f2 := Lib.hid f2
      replace f3 := Lib.hid f3
      replace hK := Lib.hid hK
      go_wp2_with fail
      with_reducible refine (f1.out _).mono ?_
      rintro e w1 ⟨rfl, hK1⟩
      replace hK1 := Lib.hid (hK.out.trans hK1)
      go_wp2_with fail
      refine (fkn.out _ hK1.out).mono ?_
      rintro e w3 ⟨rfl, hK3⟩
      replace hK3 := Lib.hid (hK1.out.trans hK3)
      go_wp2_with fail
      with_reducible refine (f2.out _).mono ?_
      rintro e w' ⟨rfl, rfl⟩
      go_wp2_with fail
      refine (f3.out _ hK3.out).mono ?_
      rintro e w2 ⟨rfl, hK2⟩
      replace hK2 := Lib.hid (hK3.out.trans hK2)
      go_wp2_with fail
      go_ret
      exact ⟨rfl, hK2.out⟩
end Go.Proofs.YtmmglikbajiepaaDoor
