/- known, GraceNil. -/
import Derived.Test.YtefippjakkgjkaaDoorLaw12
namespace Go.Proofs.YtefippjakkgjkaaDoor
open Go.RowKit

def kn1 : GSt := { GSt.new 2 with S := ((GSt.new 2).S.ents [5]).1 }
def kn2 : GSt := { kn1 with R := kn1.R.set 0 (K.addR (kn1.R.getD 0 []) [9]) }
def kn3 (x : Nat) : GSt := kn2.lookS.1.begS x
def kn4 (x y : Nat) : GSt := (kn3 x).lookS.1.begS y
def kn5 (x y : Nat) : GSt := { kn4 x y with S := (kn4 x y).S.exi 5 }
theorem kn_e1 : ((GSt.new 2).S.ents [5]).2 = 0 := by kernel_rfl
theorem kn_l2 : kn2.lookS.2 = [] := by kernel_rfl
theorem kn_b3 (x : Nat) : (kn3 x).began = 1 ∧ (kn3 x).last = 1 := ⟨by kernel_rfl, by kernel_rfl⟩
theorem kn_l3 (x : Nat) : (kn3 x).lookS.2 = [] := by kernel_rfl
theorem kn_b5 (x y : Nat) : (kn5 x y).began = 1 ∧ (kn5 x y).last = 1 := ⟨by kernel_rfl, by kernel_rfl⟩
theorem kn_l5 (x y : Nat) : (kn5 x y).lookS.2 = [9] := by kernel_rfl
set_option maxRecDepth 100000 in
set_option maxHeartbeats 2000000 in
theorem known12_any (w : World) (hT : TabAt w) : Calls Tryd.prog 17 #[] w fun e w' => e = .returned (.bool true) ∧ Keeps w w' := by
  have hst := GI.start (n := 2) (by decide) (by decide) w
  rw [show ((2 : Nat) : Int) = 2 from rfl] at hst
  replace hst := Lib.hid hst
  replace hT := Lib.hid hT
  go_enter Tryd.func17, Tryd.ntmps17
  go_wp2_with fail
  refine hst.out.mono ?_
  rintro e w1 ⟨g, sp, p, rb, cap, pp, bb, rfl, hI⟩
  have he := hI.enter1 5 w1.heap.size rfl (by decide)
  rw [kn_e1] at he
  replace he := Lib.hid he
  clear hI hst
  go_wp2_with fail
  refine he.out.mono ?_
  rintro e w2 ⟨rfl, hI⟩
  have hc := GI.call1 (G := kn1) hI 0 (by decide) 9 w2.heap.size rfl
  rw [show (if 1 ≤ 64 - (kn1.R.getD 0 []).length then (0 : Int) else 3) = 0 from rfl] at hc
  replace hc := Lib.hid hc
  clear hI he
  go_wp2_with fail
  refine hc.out.mono ?_
  rintro e w3 ⟨rfl, hI⟩
  have hp := GI.poll (G := kn2) hI hT.out (by decide) (by decide) (by decide) (by rw [kn_l2]; decide)
  rw [kn_l2] at hp
  replace hp := Lib.hid hp
  clear hI hc
  go_wp2_with fail
  refine hp.out.mono ?_
  rintro e w4 ⟨v, x, rfl, hv, hI⟩
  obtain ⟨q1, cap1, rfl, _, _, _⟩ := (show Ints w4 v [] from slc_of_row hv).open
  have hg := ggen_any (G := kn3 x) hI.at'
  rw [(kn_b3 x).1] at hg
  have hp := fun (X : World) (hk : Keeps w4 X) => GI.poll (G := kn3 x) (hI.kept hk) hT.out (by rw [(kn_b3 x).1]; decide) (by rw [(kn_b3 x).1]; decide) (by rw [(kn_b3 x).1, (kn_b3 x).2]; decide) (by rw [kn_l3]; decide)
  have hp := hp w4 (Keeps.refl _)
  rw [kn_l3] at hp
  simp only [List.length_nil]
  replace hg := Lib.hid hg
  replace hp := Lib.hid hp
  clear hI hv
  go_wp2_with fail
  refine hg.out.mono ?_
  rintro e w' ⟨rfl, rfl⟩
  go_wp2_with fail
  refine hp.out.mono ?_
  rintro e w5 ⟨v, y, rfl, hv, hI⟩
  obtain ⟨q2, cap2, rfl, _, _, _⟩ := (show Ints w5 v [] from slc_of_row hv).open
  have hx := GI.exit (G := kn4 x y) hI 5
  simp only [List.length_nil]
  replace hx := Lib.hid hx
  clear hI hv hp hg
  go_wp2_with fail
  refine hx.out.mono ?_
  rintro e w6 ⟨rfl, hI⟩
  have hp := GI.poll (G := kn5 x y) hI hT.out (by rw [(kn_b5 x y).1]; decide) (by rw [(kn_b5 x y).1]; decide) (by rw [(kn_b5 x y).1, (kn_b5 x y).2]; decide) (by rw [kn_l5]; decide)
  rw [kn_l5] at hp
  replace hp := Lib.hid hp
  clear hI hx
  go_wp2_with fail
  refine hp.out.mono ?_
  rintro e w7 ⟨v, z, rfl, hv, hI⟩
  have hs := same_any [9] [9] v (.slice (some ⟨w7.heap.size, 0, none⟩) 1 1) (w7.alloc (.cells #[.int .i64 9] 3)) (Slc.below (slc_of_row hv) (Keeps.alloc _ _)) (ints_new w7 3 [9] (by simp [maxLen]))
  rw [sameL_self] at hs
  have hK := Keeps.trans hI.keeps (Keeps.alloc w7 (.cells #[.int .i64 9] 3))
  replace hs := Lib.hid hs
  replace hK := Lib.hid hK
  clear hI hv hp
  go_wp2_with fail
  refine hs.out.mono ?_
  rintro e w8 ⟨rfl, hK8⟩
  replace hK8 := Lib.hid hK8
  go_wp2_with fail
  go_ret
  exact ⟨rfl, Keeps.trans hK.out hK8.out⟩
set_option maxRecDepth 100000 in
set_option maxHeartbeats 2000000 in
theorem lawNil12_yes (n0 r : Int) (hn : 1 ≤ n0 ∧ n0 ≤ 64) (w : World) (hT : TabAt w) : Calls Tryd.prog 7 #[.int .i64 n0, .int .i64 r] w fun e w' => e = .returned (.bool true) ∧ Keeps w w' := by
  have hk := fun (W : World) (h : Keeps w W) => known12_any W (hT.keeps h)
  have hex := gexit_nil r
  have hen := genter_nil
  have hdp := gdepth_nil r
  have hin := gin_nil
  have hca := gcall_nil n0
  have hti := gticket_nil
  have hba := gbarrier_nil
  have hov := gover_nil n0
  have hpo := gpoll_nil
  have hge := ggen_nil
  have hdo := gdone_nil
  have hru := grunning_nil
  have hho := gholdouts_nil
  have hwa := gwaiting_nil
  replace hk := Lib.hid hk
  replace hex := Lib.hid hex
  replace hen := Lib.hid hen
  replace hdp := Lib.hid hdp
  replace hin := Lib.hid hin
  replace hca := Lib.hid hca
  replace hti := Lib.hid hti
  replace hba := Lib.hid hba
  replace hov := Lib.hid hov
  replace hpo := Lib.hid hpo
  replace hge := Lib.hid hge
  replace hdo := Lib.hid hdo
  replace hru := Lib.hid hru
  replace hho := Lib.hid hho
  replace hwa := Lib.hid hwa
  clear hT
  obtain ⟨n, hn0⟩ : ∃ n : Nat, (n : Int) = n0 := ⟨n0.toNat, by omega⟩
  obtain ⟨h1, h2⟩ := hn
  have hst := GI.start (n := n) (by omega) (by omega) w
  rw [hn0] at hst
  clear hn0
  replace hst := Lib.hid hst
  go_enter Tryd.func7, Tryd.ntmps7
  go_wp2_with fail
  refine (hex.out _).mono ?_
  rintro e w' ⟨rfl, rfl⟩
  go_wp2_with fail
  refine hst.out.mono ?_
  rintro e w1 ⟨g, sp, p, rb, cap, pp, bb, rfl, hI⟩
  have hkk := hI.keeps
  replace hkk := Lib.hid hkk
  clear hI hst
  go_wp2_with fail
  refine (hk.out _ hkk.out).mono ?_
  rintro e w2 ⟨rfl, hk2⟩
  have hkk := Keeps.trans hkk.out hk2
  replace hkk := Lib.hid hkk
  clear hk2
  go_wp2_with fail
  iterate 2 (exact absurd (‹some undef = some (Value.bool _)›) (by intro hh; cases hh))
  refine (hen.out _ _ _ _).mono ?_
  rintro e w' ⟨rfl, rfl⟩
  have hkk := Keeps.trans hkk.out (Keeps.alloc w2 (.cells #[.int .i64 r] 3))
  replace hkk := Lib.hid hkk
  go_wp2_with fail
  refine (hdp.out _).mono ?_
  rintro e w3 ⟨rfl, hk3⟩
  have hkk := Keeps.trans hkk.out hk3
  replace hkk := Lib.hid hkk
  clear hk3
  go_wp2_with fail
  refine (hin.out _).mono ?_
  rintro e w' ⟨rfl, rfl⟩
  go_wp2_with fail
  refine (hca.out _ _).mono ?_
  rintro e w' ⟨rfl, rfl⟩
  have hkk := Keeps.trans hkk.out (Keeps.alloc w3 (.cells #[.int .i64 r] 3))
  replace hkk := Lib.hid hkk
  go_wp2_with fail
  refine (hti.out _).mono ?_
  rintro e w' ⟨rfl, rfl⟩
  go_wp2_with fail
  refine (hba.out _).mono ?_
  rintro e w' ⟨rfl, rfl⟩
  go_wp2_with fail
  refine (hov.out _).mono ?_
  rintro e w' ⟨rfl, rfl⟩
  go_wp2_with fail
  refine (hpo.out _).mono ?_
  rintro e w' ⟨rfl, rfl⟩
  go_wp2_with fail
  refine (hge.out _).mono ?_
  rintro e w' ⟨rfl, rfl⟩
  go_wp2_with fail
  refine (hdo.out _).mono ?_
  rintro e w' ⟨rfl, rfl⟩
  go_wp2_with fail
  refine (hru.out _).mono ?_
  rintro e w' ⟨rfl, rfl⟩
  go_wp2_with fail
  refine (hho.out _).mono ?_
  rintro e w' ⟨rfl, rfl⟩
  go_wp2_with fail
  refine (hwa.out _).mono ?_
  rintro e w' ⟨rfl, rfl⟩
  go_wp2_with fail
  go_ret
  exact ⟨rfl, hkk.out⟩
end Go.Proofs.YtefippjakkgjkaaDoor
