/- Merged: GraceM GraceA GraceB GraceC GraceD GraceE. -/
import Derived.Test.YtefippjakkgjkaaDoorKCalls
import Derived.Test.YtefippjakkgjkaaDoorScanC
import Derived.Test.YtefippjakkgjkaaDoorQuietRow
/- A grace in memory: the sections at sp, the callbacks' lists, the scan that goes (or none), three numbers. -/
namespace Go.Proofs.YtefippjakkgjkaaDoor
open Go.RowKit

structure GSt where
  S : SSt
  R : List (List K.Cl)
  last : Int
  sc : Option (Nat × ScSt)
  began : Int
  done : Int
  want : Int
def scV : Option (Nat × ScSt) → Value
  | none => .pointer none
  | some y => .pointer (some ⟨y.1, 0, none⟩)
def scB (sp : Nat) (c : ScSt) : List Value := [.pointer (some ⟨sp, 0, none⟩), .int .u64 (c.left : Int), .int .i64 (c.began : Int), .int .i64 (c.place : Int)]
def gcells (sp p : Nat) (G : GSt) : List Value := [.pointer (some ⟨sp, 0, none⟩), .pointer (some ⟨p, 0, none⟩), scV G.sc, .int .i64 G.began, .int .i64 G.done, .int .i64 G.want]
structure GraceAt (W : World) (g sp p rb cap n : Nat) (pp bb : Nat → Nat) (G : GSt) : Prop where
  hdr : Blk W g 86 (gcells sp p G)
  sect : SectAt W sp G.S
  calls : K.ListsAt W p rb cap n pp bb G.last G.R
  scan : ∀ y, G.sc = some y → Blk W y.1 131 (scB sp y.2) ∧ y.2.Ok ∧ y.1 ≠ g ∧ y.1 ≠ sp ∧ ¬ K.Foot p rb n pp bb y.1
  gs : g ≠ sp
  nfg : ¬ K.Foot p rb n pp bb g
  nfs : ¬ K.Foot p rb n pp bb sp
/-- The blocks of a grace. -/
def GF (g sp p rb n : Nat) (pp bb : Nat → Nat) (sc : Option (Nat × ScSt)) (b : Nat) : Prop := b = g ∨ b = sp ∨ K.Foot p rb n pp bb b ∨ ∃ y, sc = some y ∧ b = y.1
section
variable {W W' : World} {g sp p rb cap n : Nat} {pp bb : Nat → Nat} {G : GSt}
theorem GraceAt.keeps (h : GraceAt W g sp p rb cap n pp bb G) (hk : Keeps W W') : GraceAt W' g sp p rb cap n pp bb G :=
  ⟨h.hdr.keeps hk, h.sect.keeps hk, h.calls.keeps hk, fun y hy => ⟨(h.scan y hy).1.keeps hk, (h.scan y hy).2⟩, h.gs, h.nfg, h.nfs⟩
theorem GraceAt.lt (h : GraceAt W g sp p rb cap n pp bb G) : ∀ b, GF g sp p rb n pp bb G.sc b → b < W.heap.size := by
  rintro b (rfl | rfl | hb | ⟨y, hy, rfl⟩)
  · exact h.hdr.lt
  · exact h.sect.hdr.lt
  · exact h.calls.foot_lt b hb
  · exact (h.scan y hy).1.lt
theorem GraceAt.chg {D : Nat → Prop} (h : GraceAt W g sp p rb cap n pp bb G) (hc : Chg D W W') (hD : ∀ b, GF g sp p rb n pp bb G.sc b → ¬ D b) : GraceAt W' g sp p rb cap n pp bb G :=
  ⟨h.hdr.chg hc (hD g (.inl rfl)), h.sect.chg hc (hD sp (.inr (.inl rfl))), h.calls.chg hc fun b hb => hD b (.inr (.inr (.inl hb))),
    fun y hy => ⟨(h.scan y hy).1.chg hc (hD y.1 (.inr (.inr (.inr ⟨y, hy, rfl⟩)))), (h.scan y hy).2⟩, h.gs, h.nfg, h.nfs⟩
/-- The sections have changed. -/
theorem GraceAt.setS (h : GraceAt W g sp p rb cap n pp bb G) {S : SSt} (hs : SectAt W' sp S) (hc : Chg (· = sp) W W') : GraceAt W' g sp p rb cap n pp bb { G with S := S } :=
  ⟨h.hdr.chg hc h.gs, hs, h.calls.chg hc fun _ hb e => h.nfs (e ▸ hb), fun y hy => ⟨(h.scan y hy).1.chg hc (h.scan y hy).2.2.2.1, (h.scan y hy).2⟩, h.gs, h.nfg, h.nfs⟩
/-- The lists have changed. -/
theorem GraceAt.setR (h : GraceAt W g sp p rb cap n pp bb G) {l : Int} {R : List (List K.Cl)} (hs : K.ListsAt W' p rb cap n pp bb l R) (hc : Chg (K.Foot p rb n pp bb) W W') : GraceAt W' g sp p rb cap n pp bb { G with R := R, last := l } :=
  ⟨h.hdr.chg hc h.nfg, h.sect.chg hc h.nfs, hs, fun y hy => ⟨(h.scan y hy).1.chg hc (h.scan y hy).2.2.2.2, (h.scan y hy).2⟩, h.gs, h.nfg, h.nfs⟩
/-- A number of the grace has changed. -/
theorem GraceAt.cell (h : GraceAt W g sp p rb cap n pp bb G) (j : Nat) (v : Value) {G' : GSt} (hc : (gcells sp p G).set j v = gcells sp p G') (h1 : G'.S = G.S) (h2 : G'.R = G.R) (h3 : G'.last = G.last) (h4 : G'.sc = G.sc) : GraceAt (W.setCell ⟨g, j, none⟩ v) g sp p rb cap n pp bb G' := by
  have hC : Chg (· = g) W (W.setCell ⟨g, j, none⟩ v) := Chg.setCell _ _ rfl
  refine ⟨hc ▸ h.hdr.set j v, ?_, ?_, ?_, h.gs, h.nfg, h.nfs⟩
  · rw [h1]; exact h.sect.chg hC (Ne.symm h.gs)
  · rw [h2, h3]; exact h.calls.chg hC fun b hb e => h.nfg (e ▸ hb)
  · rw [h4]; exact fun y hy => ⟨(h.scan y hy).1.chg hC (h.scan y hy).2.2.1, (h.scan y hy).2⟩
/-- The scan that goes, as package scan sees it. -/
theorem GraceAt.scanAt (h : GraceAt W g sp p rb cap n pp bb G) {x : Nat} {c : ScSt} (hs : G.sc = some (x, c)) : ScanAt W x sp G.S c := ⟨(h.scan _ hs).1, h.sect, (h.scan _ hs).2.1, (h.scan _ hs).2.2.2.1⟩
/-- The scan has gone on. -/
theorem GraceAt.setC (h : GraceAt W g sp p rb cap n pp bb G) {x : Nat} {c c' : ScSt} (hs : G.sc = some (x, c)) (hc : ScanAt W' x sp G.S c') (hC : Chg (· = x) W W') : GraceAt W' g sp p rb cap n pp bb { G with sc := some (x, c') } := by
  have h0 := h.scan _ hs
  have e : gcells sp p { G with sc := some (x, c') } = gcells sp p G := by unfold gcells; rw [hs]; rfl
  refine ⟨e ▸ h.hdr.chg hC (Ne.symm h0.2.2.1), hc.sect, h.calls.chg hC fun b hb e => h0.2.2.2.2 (e ▸ hb), fun y hy => ?_, h.gs, h.nfg, h.nfs⟩
  obtain rfl : (x, c') = y := Option.some.inj hy
  exact ⟨hc.hdr, hc.ok, h0.2.2⟩
end
end Go.Proofs.YtefippjakkgjkaaDoor

/- The walks of package grace: a nil grace; what reads. Printed by gen12a.py. -/
namespace Go.Proofs.YtefippjakkgjkaaDoor
open Go.RowKit

theorem ginner_nil (w : World) : Calls Tryd.prog 42 #[.pointer none] w fun e w' => e = .returned (.pointer none) ∧ w = w' := by
  go_enter Tryd.func42, Tryd.ntmps42
  go_wp2
  go_ret
  exact ⟨rfl, rfl⟩
theorem gcall_nil (n : Int) (v : Value) (w : World) : Calls Tryd.prog 11 #[.pointer none, .int .i64 n, v] w fun e w' => e = .returned (.int .i64 6) ∧ w = w' := by
  go_enter Tryd.func11, Tryd.ntmps11
  go_wp2
  go_ret
  exact ⟨rfl, rfl⟩
theorem gticket_nil  (w : World) : Calls Tryd.prog 12 #[.pointer none] w fun e w' => e = .returned (.int .i64 0) ∧ w = w' := by
  go_enter Tryd.func12, Tryd.ntmps12
  go_wp2
  go_ret
  exact ⟨rfl, rfl⟩
theorem gbarrier_nil  (w : World) : Calls Tryd.prog 22 #[.pointer none] w fun e w' => e = .returned (.int .i64 0) ∧ w = w' := by
  go_enter Tryd.func22, Tryd.ntmps22
  go_wp2
  go_ret
  exact ⟨rfl, rfl⟩
theorem gover_nil (t : Int) (w : World) : Calls Tryd.prog 16 #[.pointer none, .int .i64 t] w fun e w' => e = .returned (.bool false) ∧ w = w' := by
  go_enter Tryd.func16, Tryd.ntmps16
  go_wp2
  go_ret
  exact ⟨rfl, rfl⟩
theorem gpoll_nil  (w : World) : Calls Tryd.prog 14 #[.pointer none] w fun e w' => e = .returned (.slice none 0 0) ∧ w = w' := by
  go_enter Tryd.func14, Tryd.ntmps14
  go_wp2
  go_ret
  exact ⟨rfl, rfl⟩
theorem ggen_nil  (w : World) : Calls Tryd.prog 34 #[.pointer none] w fun e w' => e = .returned (.int .i64 0) ∧ w = w' := by
  go_enter Tryd.func34, Tryd.ntmps34
  go_wp2
  go_ret
  exact ⟨rfl, rfl⟩
theorem gdone_nil  (w : World) : Calls Tryd.prog 13 #[.pointer none] w fun e w' => e = .returned (.int .i64 0) ∧ w = w' := by
  go_enter Tryd.func13, Tryd.ntmps13
  go_wp2
  go_ret
  exact ⟨rfl, rfl⟩
theorem grunning_nil  (w : World) : Calls Tryd.prog 21 #[.pointer none] w fun e w' => e = .returned (.bool false) ∧ w = w' := by
  go_enter Tryd.func21, Tryd.ntmps21
  go_wp2
  go_ret
  exact ⟨rfl, rfl⟩
theorem gholdouts_nil  (w : World) : Calls Tryd.prog 35 #[.pointer none] w fun e w' => e = .returned (.int .u64 0) ∧ w = w' := by
  go_enter Tryd.func35, Tryd.ntmps35
  go_wp2
  go_ret
  exact ⟨rfl, rfl⟩
theorem gwaiting_nil  (w : World) : Calls Tryd.prog 20 #[.pointer none] w fun e w' => e = .returned (.int .i64 0) ∧ w = w' := by
  go_enter Tryd.func20, Tryd.ntmps20
  go_wp2
  go_ret
  exact ⟨rfl, rfl⟩
theorem genter_nil (p : Option Addr) (n c : Nat) (w : World) : Calls Tryd.prog 25 #[.pointer none, .slice p n c] w fun e w' => e = .returned (.int .i64 6) ∧ w = w' := by
  have hi := ginner_nil w
  have hs := enters_nil p n c w
  replace hi := Lib.hid hi
  replace hs := Lib.hid hs
  go_enter Tryd.func25, Tryd.ntmps25
  go_wp2_with fail
  refine hi.out.mono ?_
  rintro e w' ⟨rfl, rfl⟩
  go_wp2_with fail
  refine hs.out.mono ?_
  rintro e w' ⟨rfl, rfl⟩
  go_wp2_with fail
  go_ret
  exact ⟨rfl, rfl⟩
theorem gexit_nil (r : Int) (w : World) : Calls Tryd.prog 18 #[.pointer none, .int .i64 r] w fun e w' => e = .returned (.tuple #[.bool false, .int .i64 6]) ∧ w = w' := by
  have hi := ginner_nil w
  have hs := exit_nil r w
  replace hi := Lib.hid hi
  replace hs := Lib.hid hs
  go_enter Tryd.func18, Tryd.ntmps18
  go_wp2_with fail
  refine hi.out.mono ?_
  rintro e w' ⟨rfl, rfl⟩
  go_wp2_with fail
  refine hs.out.mono ?_
  rintro e w' ⟨rfl, rfl⟩
  go_wp2_with fail
  go_ret2
  exact ⟨rfl, rfl⟩
theorem gin_nil  (w : World) : Calls Tryd.prog 19 #[.pointer none] w fun e w' => e = .returned (.int .u64 0) ∧ w = w' := by
  have hi := ginner_nil w
  have hs := in_nil w
  replace hi := Lib.hid hi
  replace hs := Lib.hid hs
  go_enter Tryd.func19, Tryd.ntmps19
  go_wp2_with fail
  refine hi.out.mono ?_
  rintro e w' ⟨rfl, rfl⟩
  go_wp2_with fail
  refine hs.out.mono ?_
  rintro e w' ⟨rfl, rfl⟩
  go_wp2_with fail
  go_ret
  exact ⟨rfl, rfl⟩
theorem gdepth_nil (r : Int) (w : World) : Calls Tryd.prog 31 #[.pointer none, .int .i64 r] w fun e w' => e = .returned (.int .i64 0) ∧ Keeps w w' := by
  have hi := ginner_nil w
  have hs := depth_nil r w
  replace hi := Lib.hid hi
  replace hs := Lib.hid hs
  go_enter Tryd.func31, Tryd.ntmps31
  go_wp2_with fail
  refine hi.out.mono ?_
  rintro e w' ⟨rfl, rfl⟩
  go_wp2_with fail
  refine hs.out.mono ?_
  rintro e w' ⟨rfl, hK⟩
  replace hK := Lib.hid hK
  go_wp2_with fail
  go_ret
  exact ⟨rfl, hK.out⟩
section
variable {w W : World} {g sp p rb cap n : Nat} {pp bb : Nat → Nat} {G : GSt}
theorem GraceAt.c0 (h : GraceAt W g sp p rb cap n pp bb G) : W.cell? ⟨g, 0, none⟩ = some (.pointer (some ⟨sp, 0, none⟩)) := h.hdr.cell 0 (by simp [gcells])
theorem GraceAt.c1 (h : GraceAt W g sp p rb cap n pp bb G) : W.cell? ⟨g, 1, none⟩ = some (.pointer (some ⟨p, 0, none⟩)) := h.hdr.cell 1 (by simp [gcells])
theorem GraceAt.c2 (h : GraceAt W g sp p rb cap n pp bb G) : W.cell? ⟨g, 2, none⟩ = some (scV G.sc) := h.hdr.cell 2 (by simp [gcells])
theorem GraceAt.c3 (h : GraceAt W g sp p rb cap n pp bb G) : W.cell? ⟨g, 3, none⟩ = some (.int .i64 G.began) := h.hdr.cell 3 (by simp [gcells])
theorem GraceAt.c4 (h : GraceAt W g sp p rb cap n pp bb G) : W.cell? ⟨g, 4, none⟩ = some (.int .i64 G.done) := h.hdr.cell 4 (by simp [gcells])
theorem GraceAt.c5 (h : GraceAt W g sp p rb cap n pp bb G) : W.cell? ⟨g, 5, none⟩ = some (.int .i64 G.want) := h.hdr.cell 5 (by simp [gcells])
theorem GraceAt.all (h : GraceAt W g sp p rb cap n pp bb G) : K.AllAt W (.pointer (some ⟨p, 0, none⟩)) G.R.flatten := .inr ⟨p, rb, cap, n, pp, bb, G.last, G.R, rfl, rfl, h.calls⟩
theorem ginner_any (h : GraceAt W g sp p rb cap n pp bb G) : Calls Tryd.prog 42 #[.pointer (some ⟨g, 0, none⟩)] W fun e w' => e = .returned (.pointer (some ⟨sp, 0, none⟩)) ∧ W = w' := by
  have c0 := h.c0
  clear h
  go_enter Tryd.func42, Tryd.ntmps42
  go_wp2
  go_ret
  exact ⟨rfl, rfl⟩
theorem ggen_any (h : GraceAt W g sp p rb cap n pp bb G) : Calls Tryd.prog 34 #[.pointer (some ⟨g, 0, none⟩)] W fun e w' => e = .returned (.int .i64 G.began) ∧ W = w' := by
  have c0 := h.c3
  clear h
  go_enter Tryd.func34, Tryd.ntmps34
  go_wp2
  go_ret
  exact ⟨rfl, rfl⟩
theorem gdone_any (h : GraceAt W g sp p rb cap n pp bb G) : Calls Tryd.prog 13 #[.pointer (some ⟨g, 0, none⟩)] W fun e w' => e = .returned (.int .i64 G.done) ∧ W = w' := by
  have c0 := h.c4
  clear h
  go_enter Tryd.func13, Tryd.ntmps13
  go_wp2
  go_ret
  exact ⟨rfl, rfl⟩
theorem gexit_any (h : GraceAt W g sp p rb cap n pp bb G) (r : Int) : Calls Tryd.prog 18 #[.pointer (some ⟨g, 0, none⟩), .int .i64 r] W fun e w' => e = .returned (.tuple #[.bool (G.S.exiB r), .int .i64 (G.S.exiE r)]) ∧ GraceAt w' g sp p rb cap n pp bb { G with S := G.S.exi r } ∧ Chg (· = sp) W w' := by
  have hi := ginner_any h
  have hs := exit_any h.sect r
  replace hi := Lib.hid hi
  replace hs := Lib.hid hs
  replace h := Lib.hid h
  go_enter Tryd.func18, Tryd.ntmps18
  go_wp2_with fail
  refine hi.out.mono ?_
  rintro e w' ⟨rfl, rfl⟩
  go_wp2_with fail
  refine hs.out.mono ?_
  rintro e w' ⟨rfl, hS, hC⟩
  have hG := h.out.setS hS hC
  replace hG := Lib.hid hG
  replace hC := Lib.hid hC
  clear hS
  go_wp2_with fail
  go_ret2
  exact ⟨rfl, hG.out, hC.out⟩
theorem gin_any (h : GraceAt W g sp p rb cap n pp bb G)  : Calls Tryd.prog 19 #[.pointer (some ⟨g, 0, none⟩)] W fun e w' => e = .returned (.int .u64 (G.S.m : Nat)) ∧ W = w' := by
  have hi := ginner_any h
  have hs := in_any h.sect
  replace hi := Lib.hid hi
  replace hs := Lib.hid hs
  clear h
  go_enter Tryd.func19, Tryd.ntmps19
  go_wp2_with fail
  refine hi.out.mono ?_
  rintro e w' ⟨rfl, rfl⟩
  go_wp2_with fail
  refine hs.out.mono ?_
  rintro e w' ⟨rfl, rfl⟩
  go_wp2_with fail
  go_ret
  exact ⟨rfl, rfl⟩
theorem gdepth_any (h : GraceAt W g sp p rb cap n pp bb G) (r : Int) : Calls Tryd.prog 31 #[.pointer (some ⟨g, 0, none⟩), .int .i64 r] W fun e w' => e = .returned (.int .i64 (G.S.depI r)) ∧ Keeps W w' := by
  have hi := ginner_any h
  have hs := depth_any h.sect r
  replace hi := Lib.hid hi
  replace hs := Lib.hid hs
  clear h
  go_enter Tryd.func31, Tryd.ntmps31
  go_wp2_with fail
  refine hi.out.mono ?_
  rintro e w' ⟨rfl, rfl⟩
  go_wp2_with fail
  refine hs.out.mono ?_
  rintro e w' ⟨rfl, hK⟩
  replace hK := Lib.hid hK
  go_wp2_with fail
  go_ret
  exact ⟨rfl, hK.out⟩
theorem genter_any (h : GraceAt W g sp p rb cap n pp bb G) (v : Value) (zs : List Int) (hv : Ints W v zs) (hsep : ∀ b, v.ownBlock = some b → 0 < zs.length → b ≠ sp) (hst : G.S.st + zs.length < 1000000) :
    Calls Tryd.prog 25 #[.pointer (some ⟨g, 0, none⟩), v] W fun e w' => e = .returned (.int .i64 (G.S.ents zs).2) ∧ GraceAt w' g sp p rb cap n pp bb { G with S := (G.S.ents zs).1 } ∧ Chg (· = sp) W w' := by
  have hi := ginner_any h
  have hs := enters_any h.sect v zs hv hsep hst
  obtain ⟨q, vcap, rfl, -⟩ := hv.open
  replace hi := Lib.hid hi
  replace hs := Lib.hid hs
  replace h := Lib.hid h
  go_enter Tryd.func25, Tryd.ntmps25
  go_wp2_with fail
  refine hi.out.mono ?_
  rintro e w' ⟨rfl, rfl⟩
  go_wp2_with fail
  refine hs.out.mono ?_
  rintro e w' ⟨rfl, hS, hC⟩
  have hG := h.out.setS hS hC
  replace hG := Lib.hid hG
  replace hC := Lib.hid hC
  clear hS
  go_wp2_with fail
  go_ret
  exact ⟨rfl, hG.out, hC.out⟩
theorem gwaiting_any (h : GraceAt W g sp p rb cap n pp bb G) : Calls Tryd.prog 20 #[.pointer (some ⟨g, 0, none⟩)] W fun e w' => e = .returned (.int .i64 (G.R.flatten.length : Nat)) ∧ Keeps W w' := by
  have c1 := h.c1
  have hs := K.llen_any h.all
  generalize G.R.flatten.length = N at *
  replace hs := Lib.hid hs
  clear h
  go_enter Tryd.func20, Tryd.ntmps20
  go_wp2_with fail
  refine hs.out.mono ?_
  rintro e w' ⟨rfl, hK⟩
  replace hK := Lib.hid hK
  go_wp2_with fail
  go_ret
  exact ⟨rfl, hK.out⟩
theorem grunning_any (h : GraceAt W g sp p rb cap n pp bb G) : Calls Tryd.prog 21 #[.pointer (some ⟨g, 0, none⟩)] W fun e w' => e = .returned (.bool G.sc.isSome) ∧ W = w' := by
  have c2 := h.c2
  clear h
  generalize G.sc = sc at *
  cases sc with
  | none =>
    simp only [scV] at c2
    go_enter Tryd.func21, Tryd.ntmps21
    go_wp2
    go_ret
    exact ⟨rfl, rfl⟩
  | some y =>
    simp only [scV] at c2
    go_enter Tryd.func21, Tryd.ntmps21
    go_wp2
    go_ret
    exact ⟨rfl, rfl⟩
def GSt.left (G : GSt) : Nat := match G.sc with | none => 0 | some y => y.2.left
theorem gholdouts_any (h : GraceAt W g sp p rb cap n pp bb G) : Calls Tryd.prog 35 #[.pointer (some ⟨g, 0, none⟩)] W fun e w' => e = .returned (.int .u64 (G.left : Nat)) ∧ W = w' := by
  have c2 := h.c2
  unfold GSt.left
  have hl : ∀ y, G.sc = some y → Calls Tryd.prog 60 #[.pointer (some ⟨y.1, 0, none⟩)] W fun e w' => e = .returned (.int .u64 (y.2.left : Int)) ∧ W = w' := fun y hy => left_any (h.scanAt (x := y.1) (c := y.2) hy)
  clear h
  generalize G.sc = sc at *
  cases sc with
  | none =>
    have hl := left_nil W
    simp only [scV] at c2
    replace hl := Lib.hid hl
    go_enter Tryd.func35, Tryd.ntmps35
    go_wp2_with fail
    refine hl.out.mono ?_
    rintro e w' ⟨rfl, rfl⟩
    go_wp2_with fail
    go_ret
    exact ⟨rfl, rfl⟩
  | some y =>
    replace hl := hl y rfl
    simp only [scV] at c2
    replace hl := Lib.hid hl
    go_enter Tryd.func35, Tryd.ntmps35
    go_wp2_with fail
    refine hl.out.mono ?_
    rintro e w' ⟨rfl, rfl⟩
    go_wp2_with fail
    go_ret
    exact ⟨rfl, rfl⟩
end
end Go.Proofs.YtefippjakkgjkaaDoor

/- The walks of package grace: New, Call, Ticket, Barrier, Over. -/
namespace Go.Proofs.YtefippjakkgjkaaDoor
open Go.RowKit

def GSt.new (n : Nat) : GSt := ⟨.init, List.replicate n [], 0, none, 0, 0, 0⟩
theorem gnew_no (n : Int) (w : World) (h : n < 1 ∨ 64 < n) : Calls Tryd.prog 8 #[.int .i64 n] w fun e w' => e = .returned (.tuple #[.pointer none, .int .i64 2]) ∧ w = w' := by
  have hn := K.lnew_no n w h
  replace hn := Lib.hid hn
  clear h
  go_enter Tryd.func8, Tryd.ntmps8
  go_wp2_with fail
  refine hn.out.mono ?_
  rintro e w' ⟨rfl, rfl⟩
  go_wp2_with fail
  go_ret2
  exact ⟨rfl, rfl⟩
set_option maxRecDepth 100000 in
theorem gnew_yes (n : Nat) (w : World) (h1 : 1 ≤ n) (h2 : n ≤ 64) :
    Calls Tryd.prog 8 #[.int .i64 n] w fun e w' => ∃ g sp p rb cap pp bb, e = .returned (.tuple #[.pointer (some ⟨g, 0, none⟩), .int .i64 0]) ∧ GraceAt w' g sp p rb cap n pp bb (.new n) ∧ (∀ b, GF g sp p rb n pp bb none b → w.heap.size ≤ b) ∧ Keeps w w' := by
  have hn := K.lnew_yes n w h1 h2
  have hz := zeroSect
  replace hn := Lib.hid hn
  go_enter Tryd.func8, Tryd.ntmps8
  go_wp2_with fail
  refine hn.out.mono ?_
  rintro e w1 ⟨p, rb, cap, pp, bb, rfl, hL, hF, hK⟩
  have hs := hK.size
  have hlt := hL.foot_lt
  obtain ⟨sp, hsp⟩ : ∃ sp, sp = w1.heap.size := ⟨_, rfl⟩
  obtain ⟨g, hg⟩ : ∃ g, g = w1.heap.size + 1 := ⟨_, rfl⟩
  have hG : GraceAt ((w1.alloc (.cells (sCells .init).toArray 83)).alloc (.cells (gcells sp p (.new n)).toArray 86)) g sp p rb cap n pp bb (.new n) := by
    refine ⟨Blk.at (by simp [hg]) rfl, ?_, hL.keeps ((Keeps.alloc _ _).trans (Keeps.alloc _ _)), fun y hy => ?_, by omega, fun hf => by have := hlt g hf; omega, fun hf => by have := hlt sp hf; omega⟩
    · rw [hsp]; exact (sect_new w1).keeps (Keeps.alloc _ _)
    · cases hy
  have hN : ∀ b, GF g sp p rb n pp bb none b → w.heap.size ≤ b := by
    rintro b (rfl | rfl | hb | ⟨y, hy, rfl⟩)
    · omega
    · omega
    · exact hF b hb
    · cases hy
  have hKK : Keeps w ((w1.alloc (.cells (sCells .init).toArray 83)).alloc (.cells (gcells sp p (.new n)).toArray 86)) := Keeps.trans hK ((Keeps.alloc _ _).trans (Keeps.alloc _ _))
  replace hG := Lib.hid hG
  replace hN := Lib.hid hN
  replace hKK := Lib.hid hKK
  clear hL hF hK hlt hs
  go_wp2_with fail
  go_ret2
  subst hsp
  subst hg
  exact ⟨_, _, p, rb, cap, pp, bb, rfl, hG.out, hN.out, hKK.out⟩
section
variable {w W : World} {g sp p rb cap n : Nat} {pp bb : Nat → Nat} {G : GSt}
theorem gcall_any (h : GraceAt W g sp p rb cap n pp bb G) (c : Nat) (hc : c < n) (v : Value) (ids : List Int) (hv : Ints W v ids) (hsep : ∀ k, v.ownBlock = some k → 0 < ids.length → ¬ K.Foot p rb n pp bb k) :
    Calls Tryd.prog 11 #[.pointer (some ⟨g, 0, none⟩), .int .i64 c, v] W fun e w' => e = .returned (.int .i64 (if ids.length ≤ 64 - (G.R.getD c []).length then 0 else 3)) ∧
      GraceAt w' g sp p rb cap n pp bb { G with R := G.R.set c (K.addR (G.R.getD c []) ids) } ∧ Chg (K.Foot p rb n pp bb) W w' := by
  have c1 := h.c1
  have hs := K.ladd_any h.calls c hc v ids hv hsep
  obtain ⟨q, vcap, rfl, -⟩ := hv.open
  generalize (if ids.length ≤ 64 - (G.R.getD c []).length then (0 : Int) else 3) = r at *
  replace hs := Lib.hid hs
  replace h := Lib.hid h
  go_enter Tryd.func11, Tryd.ntmps11
  go_wp2_with fail
  refine hs.out.mono ?_
  rintro e w' ⟨rfl, hS, hC⟩
  have hG := h.out.setR hS hC
  replace hG := Lib.hid hG
  replace hC := Lib.hid hC
  clear hS
  go_wp2_with fail
  go_ret
  exact ⟨rfl, hG.out, hC.out⟩
theorem gcall_no (h : GraceAt W g sp p rb cap n pp bb G) (c : Int) (hc : c < 0 ∨ (n : Int) ≤ c) (v : Value) : Calls Tryd.prog 11 #[.pointer (some ⟨g, 0, none⟩), .int .i64 c, v] W fun e w' => e = .returned (.int .i64 2) ∧ W = w' := by
  have c1 := h.c1
  have hs := K.ladd_no h.calls c hc v
  replace hs := Lib.hid hs
  clear h hc
  go_enter Tryd.func11, Tryd.ntmps11
  go_wp2_with fail
  refine hs.out.mono ?_
  rintro e w' ⟨rfl, rfl⟩
  go_wp2_with fail
  go_ret
  exact ⟨rfl, rfl⟩
theorem gticket_any (h : GraceAt W g sp p rb cap n pp bb G) (h0 : 0 ≤ G.began) (h1 : G.began < 1000000000) :
    Calls Tryd.prog 12 #[.pointer (some ⟨g, 0, none⟩)] W fun e w' => e = .returned (.int .i64 (G.began + 1)) ∧ GraceAt w' g sp p rb cap n pp bb { G with want := G.began + 1 } ∧ Chg (· = g) W w' := by
  have c3 := h.c3
  have c5 := h.c5
  have f5 := h.hdr.frozen 5
  have hG := h.cell 5 (.int .i64 (G.began + 1)) (G' := { G with want := G.began + 1 }) rfl rfl rfl rfl rfl
  have hC : Chg (· = g) W (W.setCell ⟨g, 5, none⟩ (.int .i64 (G.began + 1))) := Chg.setCell _ _ rfl
  have hwr : IntKind.i64.wrap (G.began + 1) = G.began + 1 := wrap_small _ (by omega) (by omega)
  clear h
  generalize G.began = z at *
  replace hG := Lib.hid hG
  replace hC := Lib.hid hC
  go_enter Tryd.func12, Tryd.ntmps12
  go_wp2_with fail
  go_ret
  exact ⟨rfl, hG.out, hC.out⟩
theorem gover_any (h : GraceAt W g sp p rb cap n pp bb G) (t : Int) : Calls Tryd.prog 16 #[.pointer (some ⟨g, 0, none⟩), .int .i64 t] W fun e w' => e = .returned (.bool (decide (t ≤ G.done))) ∧ W = w' := by
  have c4 := h.c4
  clear h
  generalize G.done = z at *
  go_enter Tryd.func16, Tryd.ntmps16
  go_wp2
  go_ret
  exact ⟨rfl, rfl⟩
def GSt.bar (G : GSt) : Int := if 0 < K.openC G.R.flatten then G.began + 1 else K.newC G.R.flatten
theorem gbarrier_any (h : GraceAt W g sp p rb cap n pp bb G) (h0 : 0 ≤ G.began) (h1 : G.began < 1000000000) :
    Calls Tryd.prog 22 #[.pointer (some ⟨g, 0, none⟩)] W fun e w' => e = .returned (.int .i64 G.bar) ∧ Keeps W w' := by
  have c1 := h.c1
  have c3 := h.c3
  have ho := K.lopen_any h.all
  have hn := fun (X : World) (hk : Keeps W X) => K.lnewest_any (h.keeps hk).all
  have hx := fun (X : World) (hk : Keeps W X) => (h.keeps hk).c1
  have hy := fun (X : World) (hk : Keeps W X) => (h.keeps hk).c3
  unfold GSt.bar
  have hwr : IntKind.i64.wrap (G.began + 1) = G.began + 1 := wrap_small _ (by omega) (by omega)
  clear h
  generalize G.began = z at *
  generalize K.newC G.R.flatten = y at *
  generalize K.openC G.R.flatten = o at *
  replace ho := Lib.hid ho
  replace hn := Lib.hid hn
  replace hx := Lib.hid hx
  replace hy := Lib.hid hy
  by_cases hp : 0 < o
  · have hpI : (0 : Int) < (o : Int) := by omega
    rw [if_pos hp]
    go_enter Tryd.func22, Tryd.ntmps22
    go_wp2_with fail
    refine ho.out.mono ?_
    rintro e w1 ⟨rfl, hK⟩
    have x3 := hy.out w1 hK
    replace hK := Lib.hid hK
    go_wp2_with fail
    go_ret
    exact ⟨rfl, hK.out⟩
  · obtain rfl : o = 0 := by omega
    rw [if_neg hp]
    go_enter Tryd.func22, Tryd.ntmps22
    go_wp2_with fail
    refine ho.out.mono ?_
    rintro e w1 ⟨rfl, hK⟩
    have x1 := hx.out w1 hK
    have hn1 := hn.out w1 hK
    replace hK := Lib.hid hK
    replace hn1 := Lib.hid hn1
    go_wp2_with fail
    refine hn1.out.mono ?_
    rintro e w2 ⟨rfl, hK2⟩
    replace hK2 := Lib.hid hK2
    go_wp2_with fail
    go_ret
    exact ⟨rfl, Keeps.trans hK.out hK2.out⟩
end
end Go.Proofs.YtefippjakkgjkaaDoor

/- The walks of package grace: look. -/
namespace Go.Proofs.YtefippjakkgjkaaDoor
open Go.RowKit

theorem ownsRow_low {W : World} {base base' sz : Nat} {e : TypeId} {v : Value} {n : Nat} {xs : List Value} (h : W.ownsRow base e sz v n xs) (hb : base' ≤ base) : W.ownsRow base' e sz v n xs := by
  obtain ⟨h1, h2⟩ := h
  refine ⟨h1, h2.elim .inl fun h3 => ?_⟩
  obtain ⟨g, cap, cur, hv, hg, h4⟩ := h3
  exact .inr ⟨g, cap, cur, hv, Nat.le_trans hb hg, h4⟩
/-- A look at the scan that goes: what is behind it, and whose callbacks may run. -/
def GSt.lookS (G : GSt) : GSt × List Int :=
  match G.sc with
  | none => (G, [])
  | some y => if lenN (poll G.S y.2 16).left = 0 then ({ G with sc := none, done := G.began, R := G.R.map (K.lfL G.began) }, K.tellL G.began G.R) else ({ G with sc := some (y.1, poll G.S y.2 16) }, [])
section
variable {w W W' : World} {g sp p rb cap n : Nat} {pp bb : Nat → Nat} {G : GSt}
theorem GraceAt.dropC (h : GraceAt W g sp p rb cap n pp bb G) : GraceAt (W.setCell ⟨g, 2, none⟩ (.pointer none)) g sp p rb cap n pp bb { G with sc := none } := by
  have hC : Chg (· = g) W (W.setCell ⟨g, 2, none⟩ (.pointer none)) := Chg.setCell _ _ rfl
  exact ⟨h.hdr.set 2 _, h.sect.chg hC (Ne.symm h.gs), h.calls.chg hC fun _ hb e => h.nfg (e ▸ hb), fun y hy => (nomatch hy), h.gs, h.nfg, h.nfs⟩
theorem glook_none (h : GraceAt W g sp p rb cap n pp bb G) (hs : G.sc = none) : Calls Tryd.prog 40 #[.pointer (some ⟨g, 0, none⟩)] W fun e w' => e = .returned (.slice none 0 0) ∧ W = w' := by
  have c2 := h.c2
  rw [hs] at c2
  simp only [scV] at c2
  clear h hs
  go_enter Tryd.func40, Tryd.ntmps40
  go_wp2_with fail
  go_ret
  exact ⟨rfl, rfl⟩
theorem glook_wait (h : GraceAt W g sp p rb cap n pp bb G) {x : Nat} {c : ScSt} (hs : G.sc = some (x, c)) (hT : TabAt W) (hl : lenN (poll G.S c 16).left ≠ 0) : Calls Tryd.prog 40 #[.pointer (some ⟨g, 0, none⟩)] W fun e w' => e = .returned (.slice none 0 0) ∧ GraceAt w' g sp p rb cap n pp bb { G with sc := some (x, poll G.S c 16) } ∧ Chg (· = x) W w' := by
  have c2 := h.c2
  have hp := poll_any (h.scanAt hs) hT 16
  have hset := fun (X : World) hx hc => h.setC (W' := X) (c' := poll G.S c 16) hs hx hc
  rw [hs] at c2
  simp only [scV] at c2
  have hm : (0 : Int) < (lenN (poll G.S c 16).left : Nat) := by omega
  generalize lenN (poll G.S c 16).left = m at *
  clear h hT hl hs
  replace hp := Lib.hid hp
  replace hset := Lib.hid hset
  go_enter Tryd.func40, Tryd.ntmps40
  go_wp2_with fail
  refine hp.out.mono ?_
  rintro e w1 ⟨rfl, hx, hC⟩
  have hG := hset.out w1 hx hC
  replace hG := Lib.hid hG
  replace hC := Lib.hid hC
  clear hx
  go_wp2_with fail
  go_ret
  exact ⟨rfl, hG.out, hC.out⟩
theorem glook_over (h : GraceAt W g sp p rb cap n pp bb G) {x : Nat} {c : ScSt} (hs : G.sc = some (x, c)) (hT : TabAt W) (hl : lenN (poll G.S c 16).left = 0) : Calls Tryd.prog 40 #[.pointer (some ⟨g, 0, none⟩)] W fun e w' => ∃ v, e = .returned v ∧
    w'.ownsRow W.heap.size 3 1 v (K.tellL G.began G.R).length ((K.tellL G.began G.R).map (Value.int .i64)) ∧ GraceAt w' g sp p rb cap n pp bb { G with sc := none, done := G.began, R := G.R.map (K.lfL G.began) } ∧ Chg (fun b => b = x ∨ b = g ∨ K.Foot p rb n pp bb b) W w' := by
  have c2 := h.c2
  have hp := poll_any (h.scanAt hs) hT 16
  have hset := fun (X : World) hx hc => h.setC (W' := X) (c' := poll G.S c 16) hs hx hc
  rw [hs] at c2
  simp only [scV] at c2
  rw [hl] at hp
  have hxg := (h.scan _ hs).2.2.1
  have hlt := h.hdr.lt
  replace hs := Lib.hid hs
  clear h hT hl
  replace hp := Lib.hid hp
  replace hset := Lib.hid hset
  go_enter Tryd.func40, Tryd.ntmps40
  go_wp2_with fail
  refine hp.out.mono ?_
  rintro e w1 ⟨rfl, hx, hC⟩
  have hG := hset.out w1 hx hC
  have y2 := hG.c2
  have y3 := hG.c3
  have y4 := hG.c4
  have f2 := hG.hdr.frozen 2
  have f4 := hG.hdr.frozen 4
  have hG2 := hG.dropC
  have hG4 := hG2.cell 4 (.int .i64 G.began) (G' := { G with sc := none, done := G.began }) rfl rfl rfl rfl rfl
  have hC4 : Chg (fun b => b = x ∨ b = g ∨ K.Foot p rb n pp bb b) W ((w1.setCell ⟨g, 2, none⟩ (.pointer none)).setCell ⟨g, 4, none⟩ (.int .i64 G.began)) := (hC.mono fun _ _ e => .inl e).trans ((Chg.setCell (S := fun b => b = x ∨ b = g ∨ K.Foot p rb n pp bb b) _ _ (.inr (.inl rfl))).trans (Chg.setCell (S := fun b => b = x ∨ b = g ∨ K.Foot p rb n pp bb b) _ _ (.inr (.inl rfl))))
  replace hG4 := Lib.hid hG4
  replace hC4 := Lib.hid hC4
  have hcall := fun (X : World) (hk : Keeps ((w1.setCell ⟨g, 2, none⟩ (.pointer none)).setCell ⟨g, 4, none⟩ (.int .i64 G.began)) X) => K.ldone_any (hG4.out.keeps hk).calls G.began
  replace hcall := Lib.hid hcall
  clear hx hC hG hG2 hset hp c2
  simp only [scV] at y2 y3 y4
  go_upto_region 4 with (fail)
  refine wp_gen (fun X => GraceAt X g sp p rb cap n pp bb { G with sc := none, done := G.began } ∧ Chg (fun b => b = x ∨ b = g ∨ K.Foot p rb n pp bb b) W X) ⟨hG4.out, hC4.out⟩ ?_
  clear hG4 hC4 hcall y2 y3 y4 f2 f4
  rintro W2 ⟨hG, hC⟩
  have y1 := hG.c1
  have y4 := hG.c4
  have hcall := fun m => K.ldone_any (hG.keeps (Keeps.drewN W2 m)).calls G.began
  simp only at hcall y4
  have hsz : W.heap.size ≤ W2.heap.size := hC.size
  replace hG := Lib.hid hG
  replace hC := Lib.hid hC
  replace hcall := Lib.hid hcall
  refine region_quiet_tail 8 (by kernel_rfl) (by kernel_rfl) ?_
  simp only [List.take_succ_cons, List.take_zero, List.drop_succ_cons, List.drop_zero]
  repeat (go_big_quiet_step (fail))
  refine wpQuiet_nil ?_
  rintro _ ⟨nq, rfl⟩
  have hc2 := hcall.out nq
  have hG2 := hG.out.keeps (Keeps.drewN W2 nq)
  have hC2 := hC.out.trans (Chg.of_keeps (S := fun b => b = x ∨ b = g ∨ K.Foot p rb n pp bb b) (Keeps.drewN W2 nq))
  replace hc2 := Lib.hid hc2
  replace hG2 := Lib.hid hG2
  replace hC2 := Lib.hid hC2
  clear hcall hG hC
  go_wp2_with fail
  refine hc2.out.mono ?_
  rintro e W5 ⟨v, rfl, hv, hL, hC5⟩
  have hG5 := hG2.out.setR hL hC5
  have hC6 := hC2.out.trans (hC5.mono (T := fun b => b = x ∨ b = g ∨ K.Foot p rb n pp bb b) fun _ _ hb => .inr (.inr hb))
  have hv := ownsRow_low hv (show W.heap.size ≤ (W2.drewN nq).heap.size from hsz)
  replace hv := Lib.hid hv
  replace hG5 := Lib.hid hG5
  replace hC6 := Lib.hid hC6
  clear hG2 hC2 hL hC5
  go_wp2_with fail
  go_ret
  exact ⟨v, rfl, hv.out, hG5.out, hC6.out⟩
theorem glook_any (h : GraceAt W g sp p rb cap n pp bb G) (hT : TabAt W) : Calls Tryd.prog 40 #[.pointer (some ⟨g, 0, none⟩)] W fun e w' => ∃ v, e = .returned v ∧
    w'.ownsRow W.heap.size 3 1 v G.lookS.2.length (G.lookS.2.map (Value.int .i64)) ∧ GraceAt w' g sp p rb cap n pp bb G.lookS.1 ∧ Chg (GF g sp p rb n pp bb G.sc) W w' := by
  unfold GSt.lookS
  cases hs : G.sc with
  | none =>
    refine (glook_none h hs).mono ?_
    rintro e w' ⟨rfl, rfl⟩
    exact ⟨_, rfl, World.ownsRow_nil _ _ _ _, h, Chg.refl _ _⟩
  | some y =>
    obtain ⟨x, c⟩ := y
    by_cases hl : lenN (poll G.S c 16).left = 0
    · simp only [if_pos hl]
      refine (glook_over h hs hT hl).mono ?_
      rintro e w' ⟨v, rfl, hv, hG, hC⟩
      exact ⟨v, rfl, hv, hG, hC.mono fun b _ hb => hb.elim (fun e => .inr (.inr (.inr ⟨_, rfl, e⟩))) fun hb => hb.elim .inl fun hf => .inr (.inr (.inl hf))⟩
    · simp only [if_neg hl]
      refine (glook_wait h hs hT hl).mono ?_
      rintro e w' ⟨rfl, hG, hC⟩
      exact ⟨_, rfl, World.ownsRow_nil _ _ _ _, hG, hC.mono fun b _ e => .inr (.inr (.inr ⟨_, rfl, e⟩))⟩
end
end Go.Proofs.YtefippjakkgjkaaDoor

/- The walks of package grace: begin. -/
namespace Go.Proofs.YtefippjakkgjkaaDoor
open Go.RowKit

section
variable {w W W' : World} {g sp p rb cap n : Nat} {pp bb : Nat → Nat} {G : GSt}
theorem GraceAt.newC (h : GraceAt W g sp p rb cap n pp bb G) {x : Nat} {c : ScSt} (hx : ScanAt W x sp G.S c) (hg : x ≠ g) (hf : ¬ K.Foot p rb n pp bb x) : GraceAt (W.setCell ⟨g, 2, none⟩ (.pointer (some ⟨x, 0, none⟩))) g sp p rb cap n pp bb { G with sc := some (x, c) } := by
  have hC : Chg (· = g) W (W.setCell ⟨g, 2, none⟩ (.pointer (some ⟨x, 0, none⟩))) := Chg.setCell _ _ rfl
  refine ⟨h.hdr.set 2 _, h.sect.chg hC (Ne.symm h.gs), h.calls.chg hC fun _ hb e => h.nfg (e ▸ hb), fun y hy => ?_, h.gs, h.nfg, h.nfs⟩
  obtain rfl : (x, c) = y := Option.some.inj hy
  exact ⟨hx.hdr.chg hC hg, hx.ok, hg, hx.ne, hf⟩
set_option maxRecDepth 100000 in
theorem gbegin_some (h : GraceAt W g sp p rb cap n pp bb G) {y : Nat × ScSt} (hs : G.sc = some y) : Calls Tryd.prog 41 #[.pointer (some ⟨g, 0, none⟩)] W fun e w' => e = .returned (.slice none 0 0) ∧ Keeps W w' := by
  have c2 := h.c2
  rw [hs] at c2
  simp only [scV] at c2
  have x2 := After.cell c2
  clear h hs
  go_enter Tryd.func41, Tryd.ntmps41
  go_wp2_with fail
  refine region_after (by kernel_rfl) (by kernel_rfl) ?_
  repeat (go_big_quiet_step (fail))
  refine wpQuiet_nil ?_
  rintro W8 ⟨⟨X8, hK8⟩, hX8⟩
  replace hX8 := show W8 = X8 from hX8
  subst hX8
  replace hK8 := Lib.hid hK8
  go_wp2_with fail
  go_ret
  exact ⟨rfl, hK8.out⟩
set_option maxRecDepth 100000 in
theorem gbegin_idle (h : GraceAt W g sp p rb cap n pp bb G) (hs : G.sc = none) (ho : K.openC G.R.flatten = 0) (hw : G.want ≤ G.began) : Calls Tryd.prog 41 #[.pointer (some ⟨g, 0, none⟩)] W fun e w' => e = .returned (.slice none 0 0) ∧ Keeps W w' := by
  have c1 := h.c1
  have c2 := h.c2
  have c3 := h.c3
  have c5 := h.c5
  rw [hs] at c2
  simp only [scV] at c2
  have x1 := After.cell c1
  have x2 := After.cell c2
  have x3 := After.cell c3
  have x5 := After.cell c5
  have hop : ∀ x : After W, Calls Tryd.prog 46 #[.pointer (some ⟨p, 0, none⟩)] x.now fun e w' => e = .returned (.int .i64 0) ∧ ∃ y : After W, w' = y.now := fun x => After.call x (by have := K.lopen_any (h.keeps x.keeps).all; rw [ho] at this; exact this)
  clear h hs c1 c3 c5 ho
  generalize G.want = a at *
  generalize G.began = b at *
  replace hop := Lib.hid hop
  go_enter Tryd.func41, Tryd.ntmps41
  go_wp2_with fail
  refine region_after (by kernel_rfl) (by kernel_rfl) ?_
  repeat (go_big_quiet_step (first | (with_reducible exact hop.out _)))
  refine wpQuiet_nil ?_
  rintro W8 ⟨⟨X8, hK8⟩, hX8⟩
  replace hX8 := show W8 = X8 from hX8
  subst hX8
  replace hK8 := Lib.hid hK8
  go_wp2_with fail
  go_ret
  exact ⟨rfl, hK8.out⟩
/-- What begin leaves. -/
def GSt.beg (G : GSt) (x : Nat) : GSt := { G with began := G.began + 1, last := G.began + 1, R := K.closeL (G.began + 1) G.R, sc := some (x, ⟨G.S.m, G.S.st, 0⟩) }
set_option maxRecDepth 100000 in
theorem gbegin_tail (h : GraceAt W g sp p rb cap n pp bb G) (hs : G.sc = none) (h0 : 0 ≤ G.began) (h1 : G.began < 1000000000) (hl : G.last ≤ G.began) (hc : K.openC G.R.flatten ≠ 0 ∨ G.began < G.want) : Calls Tryd.prog 41 #[.pointer (some ⟨g, 0, none⟩)] W fun e w' => ∃ x, e = .returned (.slice none 0 0) ∧
    GraceAt w' g sp p rb cap n pp bb (G.beg x) ∧ W.heap.size ≤ x ∧ Chg (fun b => b = g ∨ K.Foot p rb n pp bb b) W w' := by
  have c1 := h.c1
  have c2 := h.c2
  have c3 := h.c3
  have c5 := h.c5
  rw [hs] at c2
  simp only [scV] at c2
  have x1 := After.cell c1
  have x2 := After.cell c2
  have x3 := After.cell c3
  have x5 := After.cell c5
  have hop : ∀ x : After W, Calls Tryd.prog 46 #[.pointer (some ⟨p, 0, none⟩)] x.now fun e w' => e = .returned (.int .i64 (K.openC G.R.flatten : Nat)) ∧ ∃ y : After W, w' = y.now := fun x => After.call x (K.lopen_any (h.keeps x.keeps).all)
  have hwr : IntKind.i64.wrap (G.began + 1) = G.began + 1 := wrap_small _ (by omega) (by omega)
  have hcase : ((((K.openC G.R.flatten : Nat) : Int) == 0) = false) ∨ (K.openC G.R.flatten = 0 ∧ ¬ G.want ≤ G.began) := by
    by_cases e : K.openC G.R.flatten = 0
    · exact .inr ⟨e, by omega⟩
    · exact .inl (beq_false_of_ne (by omega))
  clear c1 c3 c5 hc
  replace hop := Lib.hid hop
  replace h := Lib.hid h
  replace hs := Lib.hid hs
  replace hl := Lib.hid hl
  generalize ho : K.openC G.R.flatten = o at *
  clear ho
  go_enter Tryd.func41, Tryd.ntmps41
  go_wp2_with fail
  refine region_after (by kernel_rfl) (by kernel_rfl) ?_
  rcases hcase with ha | ⟨rfl, hb⟩
  all_goals
    (repeat (go_big_quiet_step (first | (with_reducible exact hop.out _))))
    refine wpQuiet_nil ?_
    rintro W8 ⟨⟨X8, hK8⟩, hX8⟩
    replace hX8 := show W8 = X8 from hX8
    subst hX8
    have h8 := h.out.keeps hK8
    have y3 := h8.c3
    have f3 := h8.hdr.frozen 3
    have hG9 := h8.cell 3 (.int .i64 (G.began + 1)) (G' := { G with began := G.began + 1 }) rfl rfl rfl rfl rfl
    have hC9 : Chg (fun b => b = g ∨ K.Foot p rb n pp bb b) W (W8.setCell ⟨g, 3, none⟩ (.int .i64 (G.began + 1))) := (Chg.of_keeps (S := fun b => b = g ∨ K.Foot p rb n pp bb b) hK8).trans (Chg.setCell (S := fun b => b = g ∨ K.Foot p rb n pp bb b) _ _ (.inl rfl))
    replace hG9 := Lib.hid hG9
    replace hC9 := Lib.hid hC9
    clear h8 hK8 hop x1 x2 x3 x5 c2
    go_upto_region 4 with (fail)
    refine wp_gen (fun X => GraceAt X g sp p rb cap n pp bb { G with began := G.began + 1 } ∧ Chg (fun b => b = g ∨ K.Foot p rb n pp bb b) W X) ⟨hG9.out, hC9.out⟩ ?_
    clear hG9 hC9 y3 f3
    rintro W2 ⟨hG, hC⟩
    have y1 := hG.c1
    have y3 := hG.c3
    have hcall := fun m => K.lclose_any (hG.keeps (Keeps.drewN W2 m)).calls (G.began + 1) (by omega) (by have := hl.out; show G.last ≤ _; omega)
    simp only at hcall y3
    have hsz : W.heap.size ≤ W2.heap.size := hC.size
    replace hG := Lib.hid hG
    replace hC := Lib.hid hC
    replace hcall := Lib.hid hcall
    refine region_quiet_tail 8 (by kernel_rfl) (by kernel_rfl) ?_
    simp only [List.take_succ_cons, List.take_zero, List.drop_succ_cons, List.drop_zero]
    (repeat (go_big_quiet_step (fail)))
    refine wpQuiet_nil ?_
    rintro _ ⟨nq, rfl⟩
    have hc2 := hcall.out nq
    have hG2 := hG.out.keeps (Keeps.drewN W2 nq)
    have hC2 := hC.out.trans (Chg.of_keeps (S := fun b => b = g ∨ K.Foot p rb n pp bb b) (Keeps.drewN W2 nq))
    replace hc2 := Lib.hid hc2
    replace hG2 := Lib.hid hG2
    replace hC2 := Lib.hid hC2
    clear hcall hG hC y1 y3
    go_wp2_with fail
    refine hc2.out.mono ?_
    rintro e W5 ⟨rfl, hL, hC5⟩
    have hG5 := hG2.out.setR hL hC5
    have hC6 := hC2.out.trans (hC5.mono (T := fun b => b = g ∨ K.Foot p rb n pp bb b) fun _ _ hb => .inr hb)
    have z0 := hG5.c0
    have hsn := scNew_any hG5.sect
    replace hG5 := Lib.hid hG5
    replace hC6 := Lib.hid hC6
    replace hsn := Lib.hid hsn
    clear hc2 hG2 hC2 hL hC5 hsz
    go_wp2_with fail
    refine hsn.out.mono ?_
    rintro e W6 ⟨rfl, hx, hK6⟩
    have hG6 := hG5.out.keeps hK6
    have z2 := hG6.c2
    have f2 := hG6.hdr.frozen 2
    have hlt := hG5.out.calls.foot_lt
    have hlg := hG5.out.hdr.lt
    have hG7 := hG6.newC hx (by omega) (fun hf => by have := hlt _ hf; omega)
    have hC7 := (hC6.out.trans (Chg.of_keeps (S := fun b => b = g ∨ K.Foot p rb n pp bb b) hK6)).trans (Chg.setCell (S := fun b => b = g ∨ K.Foot p rb n pp bb b) (b := g) 2 (.pointer (some ⟨W5.heap.size, 0, none⟩)) (.inl rfl))
    have hsx : W.heap.size ≤ W5.heap.size := hC6.out.size
    simp only [hs.out, scV] at z2
    replace hG7 := Lib.hid hG7
    replace hC7 := Lib.hid hC7
    replace hsx := Lib.hid hsx
    clear z0 hG5 hC6 hsn hx hK6 hG6 hlt hlg
    go_wp2_with fail
    go_ret
    exact ⟨_, rfl, hG7.out, hsx.out, hC7.out⟩
end
end Go.Proofs.YtefippjakkgjkaaDoor

/- The walks of package grace: Poll. -/
namespace Go.Proofs.YtefippjakkgjkaaDoor
open Go.RowKit

section
variable {w W W' : World} {g sp p rb cap n : Nat} {pp bb : Nat → Nat} {G : GSt}
def GSt.begS (G : GSt) (x : Nat) : GSt := if G.sc.isSome = true ∨ (K.openC G.R.flatten = 0 ∧ G.want ≤ G.began) then G else G.beg x
theorem gbegin_any (h : GraceAt W g sp p rb cap n pp bb G) (h0 : 0 ≤ G.began) (h1 : G.began < 1000000000) (hl : G.last ≤ G.began) : Calls Tryd.prog 41 #[.pointer (some ⟨g, 0, none⟩)] W fun e w' => ∃ x, e = .returned (.slice none 0 0) ∧
    GraceAt w' g sp p rb cap n pp bb (G.begS x) ∧ W.heap.size ≤ x ∧ Chg (fun b => b = g ∨ K.Foot p rb n pp bb b) W w' := by
  cases hs : G.sc with
  | some y =>
    refine (gbegin_some h hs).mono ?_
    rintro e w' ⟨rfl, hK⟩
    refine ⟨W.heap.size, rfl, ?_, Nat.le_refl _, Chg.of_keeps hK⟩
    unfold GSt.begS
    rw [hs, if_pos (.inl rfl)]
    exact h.keeps hK
  | none =>
    by_cases hc : K.openC G.R.flatten = 0 ∧ G.want ≤ G.began
    · refine (gbegin_idle h hs hc.1 hc.2).mono ?_
      rintro e w' ⟨rfl, hK⟩
      refine ⟨W.heap.size, rfl, ?_, Nat.le_refl _, Chg.of_keeps hK⟩
      unfold GSt.begS
      rw [if_pos (.inr hc)]
      exact h.keeps hK
    · refine (gbegin_tail h hs h0 h1 hl (by omega)).mono ?_
      rintro e w' ⟨x, rfl, hG, hx, hC⟩
      refine ⟨x, rfl, ?_, hx, hC⟩
      unfold GSt.begS
      rw [hs, if_neg (fun hh => hh.elim (fun e => nomatch e) hc)]
      exact hG
theorem rowG_chg {S : Nat → Prop} {W W' : World} {base : Nat} {e : TypeId} {v : Value} {n : Nat} {xs : List Value} (h : W.ownsRow base e 1 v n xs) (hc : Chg S W W') (hs : ∀ b, S b → b < base) : W'.ownsRow base e 1 v n xs := by
  refine ⟨h.1, h.2.elim .inl fun h3 => ?_⟩
  obtain ⟨g, cap, cur, hv, hg, hb, h4⟩ := h3
  have hlt : g < W.heap.size := by
    obtain ⟨hlt, _⟩ := Array.getElem?_eq_some_iff.1 hb
    exact hlt
  exact .inr ⟨g, cap, cur, hv, hg, (hc.block g hlt (fun hS => by have := hs g hS; omega)).trans hb, h4⟩
theorem two0 (w : World) : (Instr.index 89 (.agg #[.func (.func 40) #[] #[], .func (.func 41) #[] #[]]) (.int .i64 0)).run Tryd.prog w = .ok (.func (.func 40) #[] #[]) w := by kernel_rfl
theorem two1 (w : World) : (Instr.index 89 (.agg #[.func (.func 40) #[] #[], .func (.func 41) #[] #[]]) (.int .i64 1)).run Tryd.prog w = .ok (.func (.func 41) #[] #[]) w := by kernel_rfl
theorem int_ones (L : List Int) : ∀ y ∈ L.map (Value.int .i64), y.oneCell' = true := by
  intro y hy
  obtain ⟨z, _, rfl⟩ := List.mem_map.1 hy
  rfl
set_option maxRecDepth 100000 in
theorem gpoll_any (h : GraceAt W g sp p rb cap n pp bb G) (hT : TabAt W) (h0 : 0 ≤ G.began) (h1 : G.began < 1000000000) (hl : G.last ≤ G.began) (hn : G.lookS.2.length ≤ 100000) : Calls Tryd.prog 14 #[.pointer (some ⟨g, 0, none⟩)] W fun e w' => ∃ v x, e = .returned v ∧
    w'.ownsRow W.heap.size 3 1 v G.lookS.2.length (G.lookS.2.map (Value.int .i64)) ∧ GraceAt w' g sp p rb cap n pp bb (G.lookS.1.begS x) ∧ W.heap.size ≤ x ∧ Chg (GF g sp p rb n pp bb G.sc) W w' := by
  have hlk := glook_any h hT
  have hbg := fun (X : World) (G2 : GSt) (hx : GraceAt X g sp p rb cap n pp bb G2) => gbegin_any hx
  have e1 : G.lookS.1.began = G.began ∧ G.lookS.1.last = G.last := by
    unfold GSt.lookS
    split
    · exact ⟨rfl, rfl⟩
    · split
      · exact ⟨rfl, rfl⟩
      · exact ⟨rfl, rfl⟩
  have hlt := h.lt
  generalize G.lookS = r at *
  obtain ⟨G1, L⟩ := r
  simp only at hlk e1 hn ⊢
  obtain ⟨e1, e2⟩ := e1
  generalize hF : GF g sp p rb n pp bb G.sc = F at *
  have hgF : F g := by rw [← hF]; exact .inl rfl
  have hfF : ∀ b, K.Foot p rb n pp bb b → F b := fun b hb => by rw [← hF]; exact .inr (.inr (.inl hb))
  replace hlk := Lib.hid hlk
  replace hbg := Lib.hid hbg
  replace hlt := Lib.hid hlt
  replace hgF := Lib.hid hgF
  replace hfF := Lib.hid hfF
  replace e1 := Lib.hid e1
  replace e2 := Lib.hid e2
  replace h0 := Lib.hid h0
  replace h1 := Lib.hid h1
  replace hl := Lib.hid hl
  replace hn := Lib.hid hn
  clear h hT hF
  go_enter Tryd.func14, Tryd.ntmps14
  go_wp2_with fail
  go_loopw [3, 9] (fun out i wr => (i = .int .i64 0 ∧ out = .slice none 0 0 ∧ W = wr) ∨ (i = .int .i64 1 ∧ wr.ownsRow W.heap.size 3 1 out L.length (L.map (Value.int .i64)) ∧ GraceAt wr g sp p rb cap n pp bb G1 ∧ Chg F W wr) ∨
    (i = .int .i64 2 ∧ ∃ x, wr.ownsRow W.heap.size 3 1 out L.length (L.map (Value.int .i64)) ∧ GraceAt wr g sp p rb cap n pp bb (G1.begS x) ∧ W.heap.size ≤ x ∧ Chg F W wr)) (fun _ i _ => 2 - (intOf i).toNat)
  case atStart => exact .inl ⟨rfl, rfl, rfl⟩
  case round =>
    rcases hrel with ⟨rfl, rfl, hw⟩ | ⟨rfl, hv, hG, hC⟩ | ⟨rfl, x, hv, hG, hx, hC⟩
    · subst hw
      have hix := two0
      go_wp2_with fail
      refine hlk.out.mono ?_
      rintro e W1 ⟨v, rfl, hv, hG, hC⟩
      have hsrc := slc_of_row hv
      have hnil := World.ownsRow_nil W1 W1.heap.size 3 1
      have hb1 : (0 : Nat) + (L.map (Value.int .i64)).length ≤ maxLen := by have := hn.out; simp [maxLen]; omega
      have hb2 : (0 + (L.map (Value.int .i64)).length) * 8 ≤ 140737488355328 := by have := hn.out; simp; omega
      have hsz : W.heap.size ≤ W1.heap.size := hC.size
      replace hv := Lib.hid hv
      replace hG := Lib.hid hG
      replace hC := Lib.hid hC
      replace hsrc := Lib.hid hsrc
      replace hnil := Lib.hid hnil
      replace hb1 := Lib.hid hb1
      replace hb2 := Lib.hid hb2
      replace hsz := Lib.hid hsz
      go_wp2_with (at_builtin; refine appS rfl _ _ 38 3 (.int .i64 0) 8 rfl Tryd.underlying38 infoInt rfl W1.heap.size _ _ _ rfl hnil.out _ _ rfl hsrc.out (int_ones L) hb1.out hb2.out (Nat.le_refl _) ?_; intro v2 W2 hv2 _ hk2)
      rw [Nat.zero_add, List.length_map, List.nil_append] at hv2
      exact ⟨.inr (.inl ⟨rfl, ownsRow_low hv2 hsz.out, hG.out.keeps hk2, hC.out.trans (Chg.of_keeps hk2)⟩), by simp [intOf]⟩
    · have hix := two1
      have hb := hbg.out wr G1 hG (by rw [e1.out]; exact h0.out) (by rw [e1.out]; exact h1.out) (by rw [e1.out, e2.out]; exact hl.out)
      replace hb := Lib.hid hb
      replace hv := Lib.hid hv
      replace hC := Lib.hid hC
      clear hG
      go_wp2_with fail
      refine hb.out.mono ?_
      rintro e W1 ⟨x, rfl, hG, hx, hC1⟩
      have hC2 := hC.out.trans (hC1.mono (T := F) fun b _ hb => hb.elim (fun e => e ▸ hgF.out) (hfF.out b))
      have hv2 := rowG_chg hv.out hC1 (fun b hb => hlt.out b (hb.elim (fun e => e ▸ hgF.out) (hfF.out b)))
      obtain ⟨i0, hi0, _, _, _⟩ := info_parts infoInt
      replace hG := Lib.hid hG
      replace hC2 := Lib.hid hC2
      replace hv2 := Lib.hid hv2
      replace hi0 := Lib.hid hi0
      have hx2 : W.heap.size ≤ x := Nat.le_trans hC.out.size hx
      replace hx2 := Lib.hid hx2
      clear hv hC hC1 hx
      go_wp2_with (at_builtin; refine wpList_append_own_none rfl _ _ 38 rfl W.heap.size 3 i0 1 Tryd.underlying38 hi0.out _ _ _ rfl hv2.out rfl ?_)
      exact ⟨.inr (.inr ⟨rfl, x, hv2.out, hG.out, hx2.out, hC2.out⟩), by simp [intOf]⟩
    · replace hx := Lib.hid hx
      replace hv := Lib.hid hv
      replace hG := Lib.hid hG
      replace hC := Lib.hid hC
      go_wp2_with fail
      go_ret
      exact ⟨_, x, rfl, hv.out, hG.out, hx.out, hC.out⟩
end
end Go.Proofs.YtefippjakkgjkaaDoor
