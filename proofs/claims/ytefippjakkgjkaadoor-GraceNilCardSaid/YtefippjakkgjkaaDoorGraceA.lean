/- The walks of package grace: a nil grace; what reads. Printed by gen12a.py. -/
import Derived.Test.YtefippjakkgjkaaDoorGraceM
namespace Go.Proofs.YtefippjakkgjkaaDoor
open Go.RowKit

theorem ginner_nil (w : World) : Calls Tryd.prog 42 #[.pointer none] w fun e w' => e = .returned (.pointer none) ∧ w = w' := by
  go_enter Tryd.func42, Tryd.ntmps42
  go_wp2
  go_ret
  exact ⟨rfl, rfl⟩
theorem gcall_nil (n : Int) (v : Value) (w : World) : Calls Tryd.prog 11 #[.pointer none, .int .i64 n, v] w fun e w' => e = .returned (.int .i64 6) ∧ w = w' := by
  go_enter Tryd.func11, Tryd.ntmps11
  go_wp2
  go_ret
  exact ⟨rfl, rfl⟩
theorem gticket_nil  (w : World) : Calls Tryd.prog 12 #[.pointer none] w fun e w' => e = .returned (.int .i64 0) ∧ w = w' := by
  go_enter Tryd.func12, Tryd.ntmps12
  go_wp2
  go_ret
  exact ⟨rfl, rfl⟩
theorem gbarrier_nil  (w : World) : Calls Tryd.prog 22 #[.pointer none] w fun e w' => e = .returned (.int .i64 0) ∧ w = w' := by
  go_enter Tryd.func22, Tryd.ntmps22
  go_wp2
  go_ret
  exact ⟨rfl, rfl⟩
theorem gover_nil (t : Int) (w : World) : Calls Tryd.prog 16 #[.pointer none, .int .i64 t] w fun e w' => e = .returned (.bool false) ∧ w = w' := by
  go_enter Tryd.func16, Tryd.ntmps16
  go_wp2
  go_ret
  exact ⟨rfl, rfl⟩
theorem gpoll_nil  (w : World) : Calls Tryd.prog 14 #[.pointer none] w fun e w' => e = .returned (.slice none 0 0) ∧ w = w' := by
  go_enter Tryd.func14, Tryd.ntmps14
  go_wp2
  go_ret
  exact ⟨rfl, rfl⟩
theorem ggen_nil  (w : World) : Calls Tryd.prog 34 #[.pointer none] w fun e w' => e = .returned (.int .i64 0) ∧ w = w' := by
  go_enter Tryd.func34, Tryd.ntmps34
  go_wp2
  go_ret
  exact ⟨rfl, rfl⟩
theorem gdone_nil  (w : World) : Calls Tryd.prog 13 #[.pointer none] w fun e w' => e = .returned (.int .i64 0) ∧ w = w' := by
  go_enter Tryd.func13, Tryd.ntmps13
  go_wp2
  go_ret
  exact ⟨rfl, rfl⟩
theorem grunning_nil  (w : World) : Calls Tryd.prog 21 #[.pointer none] w fun e w' => e = .returned (.bool false) ∧ w = w' := by
  go_enter Tryd.func21, Tryd.ntmps21
  go_wp2
  go_ret
  exact ⟨rfl, rfl⟩
theorem gholdouts_nil  (w : World) : Calls Tryd.prog 35 #[.pointer none] w fun e w' => e = .returned (.int .u64 0) ∧ w = w' := by
  go_enter Tryd.func35, Tryd.ntmps35
  go_wp2
  go_ret
  exact ⟨rfl, rfl⟩
theorem gwaiting_nil  (w : World) : Calls Tryd.prog 20 #[.pointer none] w fun e w' => e = .returned (.int .i64 0) ∧ w = w' := by
  go_enter Tryd.func20, Tryd.ntmps20
  go_wp2
  go_ret
  exact ⟨rfl, rfl⟩
theorem genter_nil (p : Option Addr) (n c : Nat) (w : World) : Calls Tryd.prog 25 #[.pointer none, .slice p n c] w fun e w' => e = .returned (.int .i64 6) ∧ w = w' := by
  have hi := ginner_nil w
  have hs := enters_nil p n c w
  replace hi := Lib.hid hi
  replace hs := Lib.hid hs
  go_enter Tryd.func25, Tryd.ntmps25
  go_wp2_with fail
  refine hi.out.mono ?_
  rintro e w' ⟨rfl, rfl⟩
  go_wp2_with fail
  refine hs.out.mono ?_
  rintro e w' ⟨rfl, rfl⟩
  go_wp2_with fail
  go_ret
  exact ⟨rfl, rfl⟩
theorem gexit_nil (r : Int) (w : World) : Calls Tryd.prog 18 #[.pointer none, .int .i64 r] w fun e w' => e = .returned (.tuple #[.bool false, .int .i64 6]) ∧ w = w' := by
  have hi := ginner_nil w
  have hs := exit_nil r w
  replace hi := Lib.hid hi
  replace hs := Lib.hid hs
  go_enter Tryd.func18, Tryd.ntmps18
  go_wp2_with fail
  refine hi.out.mono ?_
  rintro e w' ⟨rfl, rfl⟩
  go_wp2_with fail
  refine hs.out.mono ?_
  rintro e w' ⟨rfl, rfl⟩
  go_wp2_with fail
  go_ret2
  exact ⟨rfl, rfl⟩
theorem gin_nil  (w : World) : Calls Tryd.prog 19 #[.pointer none] w fun e w' => e = .returned (.int .u64 0) ∧ w = w' := by
  have hi := ginner_nil w
  have hs := in_nil w
  replace hi := Lib.hid hi
  replace hs := Lib.hid hs
  go_enter Tryd.func19, Tryd.ntmps19
  go_wp2_with fail
  refine hi.out.mono ?_
  rintro e w' ⟨rfl, rfl⟩
  go_wp2_with fail
  refine hs.out.mono ?_
  rintro e w' ⟨rfl, rfl⟩
  go_wp2_with fail
  go_ret
  exact ⟨rfl, rfl⟩
theorem gdepth_nil (r : Int) (w : World) : Calls Tryd.prog 31 #[.pointer none, .int .i64 r] w fun e w' => e = .returned (.int .i64 0) ∧ Keeps w w' := by
  have hi := ginner_nil w
  have hs := depth_nil r w
  replace hi := Lib.hid hi
  replace hs := Lib.hid hs
  go_enter Tryd.func31, Tryd.ntmps31
  go_wp2_with fail
  refine hi.out.mono ?_
  rintro e w' ⟨rfl, rfl⟩
  go_wp2_with fail
  refine hs.out.mono ?_
  rintro e w' ⟨rfl, hK⟩
  replace hK := Lib.hid hK
  go_wp2_with fail
  go_ret
  exact ⟨rfl, hK.out⟩
section
variable {w W : World} {g sp p rb cap n : Nat} {pp bb : Nat → Nat} {G : GSt}
theorem GraceAt.c0 (h : GraceAt W g sp p rb cap n pp bb G) : W.cell? ⟨g, 0, none⟩ = some (.pointer (some ⟨sp, 0, none⟩)) := h.hdr.cell 0 (by simp [gcells])
theorem GraceAt.c1 (h : GraceAt W g sp p rb cap n pp bb G) : W.cell? ⟨g, 1, none⟩ = some (.pointer (some ⟨p, 0, none⟩)) := h.hdr.cell 1 (by simp [gcells])
theorem GraceAt.c2 (h : GraceAt W g sp p rb cap n pp bb G) : W.cell? ⟨g, 2, none⟩ = some (scV G.sc) := h.hdr.cell 2 (by simp [gcells])
theorem GraceAt.c3 (h : GraceAt W g sp p rb cap n pp bb G) : W.cell? ⟨g, 3, none⟩ = some (.int .i64 G.began) := h.hdr.cell 3 (by simp [gcells])
theorem GraceAt.c4 (h : GraceAt W g sp p rb cap n pp bb G) : W.cell? ⟨g, 4, none⟩ = some (.int .i64 G.done) := h.hdr.cell 4 (by simp [gcells])
theorem GraceAt.c5 (h : GraceAt W g sp p rb cap n pp bb G) : W.cell? ⟨g, 5, none⟩ = some (.int .i64 G.want) := h.hdr.cell 5 (by simp [gcells])
theorem GraceAt.all (h : GraceAt W g sp p rb cap n pp bb G) : K.AllAt W (.pointer (some ⟨p, 0, none⟩)) G.R.flatten := .inr ⟨p, rb, cap, n, pp, bb, G.last, G.R, rfl, rfl, h.calls⟩
theorem ginner_any (h : GraceAt W g sp p rb cap n pp bb G) : Calls Tryd.prog 42 #[.pointer (some ⟨g, 0, none⟩)] W fun e w' => e = .returned (.pointer (some ⟨sp, 0, none⟩)) ∧ W = w' := by
  have c0 := h.c0
  clear h
  go_enter Tryd.func42, Tryd.ntmps42
  go_wp2
  go_ret
  exact ⟨rfl, rfl⟩
theorem ggen_any (h : GraceAt W g sp p rb cap n pp bb G) : Calls Tryd.prog 34 #[.pointer (some ⟨g, 0, none⟩)] W fun e w' => e = .returned (.int .i64 G.began) ∧ W = w' := by
  have c0 := h.c3
  clear h
  go_enter Tryd.func34, Tryd.ntmps34
  go_wp2
  go_ret
  exact ⟨rfl, rfl⟩
theorem gdone_any (h : GraceAt W g sp p rb cap n pp bb G) : Calls Tryd.prog 13 #[.pointer (some ⟨g, 0, none⟩)] W fun e w' => e = .returned (.int .i64 G.done) ∧ W = w' := by
  have c0 := h.c4
  clear h
  go_enter Tryd.func13, Tryd.ntmps13
  go_wp2
  go_ret
  exact ⟨rfl, rfl⟩
theorem gexit_any (h : GraceAt W g sp p rb cap n pp bb G) (r : Int) : Calls Tryd.prog 18 #[.pointer (some ⟨g, 0, none⟩), .int .i64 r] W fun e w' => e = .returned (.tuple #[.bool (G.S.exiB r), .int .i64 (G.S.exiE r)]) ∧ GraceAt w' g sp p rb cap n pp bb { G with S := G.S.exi r } ∧ Chg (· = sp) W w' := by
  have hi := ginner_any h
  have hs := exit_any h.sect r
  replace hi := Lib.hid hi
  replace hs := Lib.hid hs
  replace h := Lib.hid h
  go_enter Tryd.func18, Tryd.ntmps18
  go_wp2_with fail
  refine hi.out.mono ?_
  rintro e w' ⟨rfl, rfl⟩
  go_wp2_with fail
  refine hs.out.mono ?_
  rintro e w' ⟨rfl, hS, hC⟩
  have hG := h.out.setS hS hC
  replace hG := Lib.hid hG
  replace hC := Lib.hid hC
  clear hS
  go_wp2_with fail
  go_ret2
  exact ⟨rfl, hG.out, hC.out⟩
theorem gin_any (h : GraceAt W g sp p rb cap n pp bb G)  : Calls Tryd.prog 19 #[.pointer (some ⟨g, 0, none⟩)] W fun e w' => e = .returned (.int .u64 (G.S.m : Nat)) ∧ W = w' := by
  have hi := ginner_any h
  have hs := in_any h.sect
  replace hi := Lib.hid hi
  replace hs := Lib.hid hs
  clear h
  go_enter Tryd.func19, Tryd.ntmps19
  go_wp2_with fail
  refine hi.out.mono ?_
  rintro e w' ⟨rfl, rfl⟩
  go_wp2_with fail
  refine hs.out.mono ?_
  rintro e w' ⟨rfl, rfl⟩
  go_wp2_with fail
  go_ret
  exact ⟨rfl, rfl⟩
theorem gdepth_any (h : GraceAt W g sp p rb cap n pp bb G) (r : Int) : Calls Tryd.prog 31 #[.pointer (some ⟨g, 0, none⟩), .int .i64 r] W fun e w' => e = .returned (.int .i64 (G.S.depI r)) ∧ Keeps W w' := by
  have hi := ginner_any h
  have hs := depth_any h.sect r
  replace hi := Lib.hid hi
  replace hs := Lib.hid hs
  clear h
  go_enter Tryd.func31, Tryd.ntmps31
  go_wp2_with fail
  refine hi.out.mono ?_
  rintro e w' ⟨rfl, rfl⟩
  go_wp2_with fail
  refine hs.out.mono ?_
  rintro e w' ⟨rfl, hK⟩
  replace hK := Lib.hid hK
  go_wp2_with fail
  go_ret
  exact ⟨rfl, hK.out⟩
theorem genter_any (h : GraceAt W g sp p rb cap n pp bb G) (v : Value) (zs : List Int) (hv : Ints W v zs) (hsep : ∀ b, v.ownBlock = some b → 0 < zs.length → b ≠ sp) (hst : G.S.st + zs.length < 1000000) :
    Calls Tryd.prog 25 #[.pointer (some ⟨g, 0, none⟩), v] W fun e w' => e = .returned (.int .i64 (G.S.ents zs).2) ∧ GraceAt w' g sp p rb cap n pp bb { G with S := (G.S.ents zs).1 } ∧ Chg (· = sp) W w' := by
  have hi := ginner_any h
  have hs := enters_any h.sect v zs hv hsep hst
  obtain ⟨q, vcap, rfl, -⟩ := hv.open
  replace hi := Lib.hid hi
  replace hs := Lib.hid hs
  replace h := Lib.hid h
  go_enter Tryd.func25, Tryd.ntmps25
  go_wp2_with fail
  refine hi.out.mono ?_
  rintro e w' ⟨rfl, rfl⟩
  go_wp2_with fail
  refine hs.out.mono ?_
  rintro e w' ⟨rfl, hS, hC⟩
  have hG := h.out.setS hS hC
  replace hG := Lib.hid hG
  replace hC := Lib.hid hC
  clear hS
  go_wp2_with fail
  go_ret
  exact ⟨rfl, hG.out, hC.out⟩
theorem gwaiting_any (h : GraceAt W g sp p rb cap n pp bb G) : Calls Tryd.prog 20 #[.pointer (some ⟨g, 0, none⟩)] W fun e w' => e = .returned (.int .i64 (G.R.flatten.length : Nat)) ∧ Keeps W w' := by
  have c1 := h.c1
  have hs := K.llen_any h.all
  generalize G.R.flatten.length = N at *
  replace hs := Lib.hid hs
  clear h
  go_enter Tryd.func20, Tryd.ntmps20
  go_wp2_with fail
  refine hs.out.mono ?_
  rintro e w' ⟨rfl, hK⟩
  replace hK := Lib.hid hK
  go_wp2_with fail
  go_ret
  exact ⟨rfl, hK.out⟩
theorem grunning_any (h : GraceAt W g sp p rb cap n pp bb G) : Calls Tryd.prog 21 #[.pointer (some ⟨g, 0, none⟩)] W fun e w' => e = .returned (.bool G.sc.isSome) ∧ W = w' := by
  have c2 := h.c2
  clear h
  generalize G.sc = sc at *
  cases sc with
  | none =>
    simp only [scV] at c2
    go_enter Tryd.func21, Tryd.ntmps21
    go_wp2
    go_ret
    exact ⟨rfl, rfl⟩
  | some y =>
    simp only [scV] at c2
    go_enter Tryd.func21, Tryd.ntmps21
    go_wp2
    go_ret
    exact ⟨rfl, rfl⟩
def GSt.left (G : GSt) : Nat := match G.sc with | none => 0 | some y => y.2.left
theorem gholdouts_any (h : GraceAt W g sp p rb cap n pp bb G) : Calls Tryd.prog 35 #[.pointer (some ⟨g, 0, none⟩)] W fun e w' => e = .returned (.int .u64 (G.left : Nat)) ∧ W = w' := by
  have c2 := h.c2
  unfold GSt.left
  have hl : ∀ y, G.sc = some y → Calls Tryd.prog 60 #[.pointer (some ⟨y.1, 0, none⟩)] W fun e w' => e = .returned (.int .u64 (y.2.left : Int)) ∧ W = w' := fun y hy => left_any (h.scanAt (x := y.1) (c := y.2) hy)
  clear h
  generalize G.sc = sc at *
  cases sc with
  | none =>
    have hl := left_nil W
    simp only [scV] at c2
    replace hl := Lib.hid hl
    go_enter Tryd.func35, Tryd.ntmps35
    go_wp2_with fail
    refine hl.out.mono ?_
    rintro e w' ⟨rfl, rfl⟩
    go_wp2_with fail
    go_ret
    exact ⟨rfl, rfl⟩
  | some y =>
    replace hl := hl y rfl
    simp only [scV] at c2
    replace hl := Lib.hid hl
    go_enter Tryd.func35, Tryd.ntmps35
    go_wp2_with fail
    refine hl.out.mono ?_
    rintro e w' ⟨rfl, rfl⟩
    go_wp2_with fail
    go_ret
    exact ⟨rfl, rfl⟩
end
end Go.Proofs.YtefippjakkgjkaaDoor
