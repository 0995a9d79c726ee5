/- GraceNil, where there is no grace. -/
import Derived.Test.YtefippjakkgjkaaDoorLaw12b
namespace Go.Proofs.YtefippjakkgjkaaDoor
open Go.RowKit

set_option maxRecDepth 100000 in
set_option maxHeartbeats 2000000 in
theorem lawNil12_low (n0 r : Int) (h1 : ¬ 1 ≤ n0) (w : World) (hT : TabAt w) : Calls Tryd.prog 7 #[.int .i64 n0, .int .i64 r] w fun e w' => e = .returned (.bool true) ∧ Keeps w w' := by
  have hk := fun (W : World) (h : Keeps w W) => known12_any W (hT.keeps h)
  have hex := gexit_nil r
  have hen := genter_nil
  have hdp := gdepth_nil r
  have hin := gin_nil
  have hca := gcall_nil n0
  have hti := gticket_nil
  have hba := gbarrier_nil
  have hov := gover_nil n0
  have hpo := gpoll_nil
  have hge := ggen_nil
  have hdo := gdone_nil
  have hru := grunning_nil
  have hho := gholdouts_nil
  have hwa := gwaiting_nil
  replace hk := Lib.hid hk
  replace hex := Lib.hid hex
  replace hen := Lib.hid hen
  replace hdp := Lib.hid hdp
  replace hin := Lib.hid hin
  replace hca := Lib.hid hca
  replace hti := Lib.hid hti
  replace hba := Lib.hid hba
  replace hov := Lib.hid hov
  replace hpo := Lib.hid hpo
  replace hge := Lib.hid hge
  replace hdo := Lib.hid hdo
  replace hru := Lib.hid hru
  replace hho := Lib.hid hho
  replace hwa := Lib.hid hwa
  clear hT
  have hno := gnew_no n0 w (by omega)
  have hkk : Keeps w w := Keeps.refl _
  replace hno := Lib.hid hno
  replace hkk := Lib.hid hkk
  go_enter Tryd.func7, Tryd.ntmps7
  go_wp2_with fail
  refine (hex.out _).mono ?_
  rintro e w' ⟨rfl, rfl⟩
  go_wp2_with fail
  refine hno.out.mono ?_
  rintro e w1 ⟨rfl, rfl⟩
  go_wp2_with fail
  refine (hk.out _ hkk.out).mono ?_
  rintro e w2 ⟨rfl, hk2⟩
  have hkk := Keeps.trans hkk.out hk2
  replace hkk := Lib.hid hkk
  clear hk2
  go_wp2_with fail
  all_goals try (exact absurd (‹some undef = some (Value.bool _)›) (by intro hh; cases hh))
  refine (hen.out _ _ _ _).mono ?_
  rintro e w' ⟨rfl, rfl⟩
  have hkk := Keeps.trans hkk.out (Keeps.alloc w2 (.cells #[.int .i64 r] 3))
  replace hkk := Lib.hid hkk
  go_wp2_with fail
  refine (hdp.out _).mono ?_
  rintro e w3 ⟨rfl, hk3⟩
  have hkk := Keeps.trans hkk.out hk3
  replace hkk := Lib.hid hkk
  clear hk3
  go_wp2_with fail
  refine (hin.out _).mono ?_
  rintro e w' ⟨rfl, rfl⟩
  go_wp2_with fail
  refine (hca.out _ _).mono ?_
  rintro e w' ⟨rfl, rfl⟩
  have hkk := Keeps.trans hkk.out (Keeps.alloc w3 (.cells #[.int .i64 r] 3))
  replace hkk := Lib.hid hkk
  go_wp2_with fail
  refine (hti.out _).mono ?_
  rintro e w' ⟨rfl, rfl⟩
  go_wp2_with fail
  refine (hba.out _).mono ?_
  rintro e w' ⟨rfl, rfl⟩
  go_wp2_with fail
  refine (hov.out _).mono ?_
  rintro e w' ⟨rfl, rfl⟩
  go_wp2_with fail
  refine (hpo.out _).mono ?_
  rintro e w' ⟨rfl, rfl⟩
  go_wp2_with fail
  refine (hge.out _).mono ?_
  rintro e w' ⟨rfl, rfl⟩
  go_wp2_with fail
  refine (hdo.out _).mono ?_
  rintro e w' ⟨rfl, rfl⟩
  go_wp2_with fail
  refine (hru.out _).mono ?_
  rintro e w' ⟨rfl, rfl⟩
  go_wp2_with fail
  refine (hho.out _).mono ?_
  rintro e w' ⟨rfl, rfl⟩
  go_wp2_with fail
  refine (hwa.out _).mono ?_
  rintro e w' ⟨rfl, rfl⟩
  go_wp2_with fail
  go_ret
  exact ⟨rfl, hkk.out⟩
set_option maxRecDepth 100000 in
set_option maxHeartbeats 2000000 in
theorem lawNil12_high (n0 r : Int) (h1 : 1 ≤ n0) (h2 : ¬ n0 ≤ 64) (w : World) (hT : TabAt w) : Calls Tryd.prog 7 #[.int .i64 n0, .int .i64 r] w fun e w' => e = .returned (.bool true) ∧ Keeps w w' := by
  have hk := fun (W : World) (h : Keeps w W) => known12_any W (hT.keeps h)
  have hex := gexit_nil r
  have hen := genter_nil
  have hdp := gdepth_nil r
  have hin := gin_nil
  have hca := gcall_nil n0
  have hti := gticket_nil
  have hba := gbarrier_nil
  have hov := gover_nil n0
  have hpo := gpoll_nil
  have hge := ggen_nil
  have hdo := gdone_nil
  have hru := grunning_nil
  have hho := gholdouts_nil
  have hwa := gwaiting_nil
  replace hk := Lib.hid hk
  replace hex := Lib.hid hex
  replace hen := Lib.hid hen
  replace hdp := Lib.hid hdp
  replace hin := Lib.hid hin
  replace hca := Lib.hid hca
  replace hti := Lib.hid hti
  replace hba := Lib.hid hba
  replace hov := Lib.hid hov
  replace hpo := Lib.hid hpo
  replace hge := Lib.hid hge
  replace hdo := Lib.hid hdo
  replace hru := Lib.hid hru
  replace hho := Lib.hid hho
  replace hwa := Lib.hid hwa
  clear hT
  have hno := gnew_no n0 w (by omega)
  have hkk : Keeps w w := Keeps.refl _
  have hd : decide (n0 ≤ 64) = false := decide_eq_false h2
  replace hno := Lib.hid hno
  replace hkk := Lib.hid hkk
  go_enter Tryd.func7, Tryd.ntmps7
  go_wp2_with fail
  refine (hex.out _).mono ?_
  rintro e w' ⟨rfl, rfl⟩
  go_wp2_with fail
  refine hno.out.mono ?_
  rintro e w1 ⟨rfl, rfl⟩
  go_wp2_with fail
  refine (hk.out _ hkk.out).mono ?_
  rintro e w2 ⟨rfl, hk2⟩
  have hkk := Keeps.trans hkk.out hk2
  replace hkk := Lib.hid hkk
  clear hk2
  go_wp2_with fail
  all_goals try (exact absurd (‹some undef = some (Value.bool _)›) (by intro hh; cases hh))
  refine (hen.out _ _ _ _).mono ?_
  rintro e w' ⟨rfl, rfl⟩
  have hkk := Keeps.trans hkk.out (Keeps.alloc w2 (.cells #[.int .i64 r] 3))
  replace hkk := Lib.hid hkk
  go_wp2_with fail
  refine (hdp.out _).mono ?_
  rintro e w3 ⟨rfl, hk3⟩
  have hkk := Keeps.trans hkk.out hk3
  replace hkk := Lib.hid hkk
  clear hk3
  go_wp2_with fail
  refine (hin.out _).mono ?_
  rintro e w' ⟨rfl, rfl⟩
  go_wp2_with fail
  refine (hca.out _ _).mono ?_
  rintro e w' ⟨rfl, rfl⟩
  have hkk := Keeps.trans hkk.out (Keeps.alloc w3 (.cells #[.int .i64 r] 3))
  replace hkk := Lib.hid hkk
  go_wp2_with fail
  refine (hti.out _).mono ?_
  rintro e w' ⟨rfl, rfl⟩
  go_wp2_with fail
  refine (hba.out _).mono ?_
  rintro e w' ⟨rfl, rfl⟩
  go_wp2_with fail
  refine (hov.out _).mono ?_
  rintro e w' ⟨rfl, rfl⟩
  go_wp2_with fail
  refine (hpo.out _).mono ?_
  rintro e w' ⟨rfl, rfl⟩
  go_wp2_with fail
  refine (hge.out _).mono ?_
  rintro e w' ⟨rfl, rfl⟩
  go_wp2_with fail
  refine (hdo.out _).mono ?_
  rintro e w' ⟨rfl, rfl⟩
  go_wp2_with fail
  refine (hru.out _).mono ?_
  rintro e w' ⟨rfl, rfl⟩
  go_wp2_with fail
  refine (hho.out _).mono ?_
  rintro e w' ⟨rfl, rfl⟩
  go_wp2_with fail
  refine (hwa.out _).mono ?_
  rintro e w' ⟨rfl, rfl⟩
  go_wp2_with fail
  go_ret
  exact ⟨rfl, hkk.out⟩
theorem lawNil12_any (n0 r : Int) (w : World) (hT : TabAt w) : Calls Tryd.prog 7 #[.int .i64 n0, .int .i64 r] w fun e w' => e = .returned (.bool true) ∧ Keeps w w' := by
  by_cases h1 : 1 ≤ n0
  · by_cases h2 : n0 ≤ 64
    · exact lawNil12_yes n0 r ⟨h1, h2⟩ w hT
    · exact lawNil12_high n0 r h1 h2 w hT
  · exact lawNil12_low n0 r h1 w hT
end Go.Proofs.YtefippjakkgjkaaDoor
