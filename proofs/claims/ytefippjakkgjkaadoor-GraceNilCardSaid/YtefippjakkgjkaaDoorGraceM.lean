/- A grace in memory: the sections at sp, the callbacks' lists, the scan that goes (or none), three numbers. -/
import Derived.Test.YtefippjakkgjkaaDoorKCallsF
import Derived.Test.YtefippjakkgjkaaDoorScanC
namespace Go.Proofs.YtefippjakkgjkaaDoor
open Go.RowKit

structure GSt where
  S : SSt
  R : List (List K.Cl)
  last : Int
  sc : Option (Nat × ScSt)
  began : Int
  done : Int
  want : Int
def scV : Option (Nat × ScSt) → Value
  | none => .pointer none
  | some y => .pointer (some ⟨y.1, 0, none⟩)
def scB (sp : Nat) (c : ScSt) : List Value := [.pointer (some ⟨sp, 0, none⟩), .int .u64 (c.left : Int), .int .i64 (c.began : Int), .int .i64 (c.place : Int)]
def gcells (sp p : Nat) (G : GSt) : List Value := [.pointer (some ⟨sp, 0, none⟩), .pointer (some ⟨p, 0, none⟩), scV G.sc, .int .i64 G.began, .int .i64 G.done, .int .i64 G.want]
structure GraceAt (W : World) (g sp p rb cap n : Nat) (pp bb : Nat → Nat) (G : GSt) : Prop where
  hdr : Blk W g 86 (gcells sp p G)
  sect : SectAt W sp G.S
  calls : K.ListsAt W p rb cap n pp bb G.last G.R
  scan : ∀ y, G.sc = some y → Blk W y.1 131 (scB sp y.2) ∧ y.2.Ok ∧ y.1 ≠ g ∧ y.1 ≠ sp ∧ ¬ K.Foot p rb n pp bb y.1
  gs : g ≠ sp
  nfg : ¬ K.Foot p rb n pp bb g
  nfs : ¬ K.Foot p rb n pp bb sp
/-- The blocks of a grace. -/
def GF (g sp p rb n : Nat) (pp bb : Nat → Nat) (sc : Option (Nat × ScSt)) (b : Nat) : Prop := b = g ∨ b = sp ∨ K.Foot p rb n pp bb b ∨ ∃ y, sc = some y ∧ b = y.1
section
variable {W W' : World} {g sp p rb cap n : Nat} {pp bb : Nat → Nat} {G : GSt}
theorem GraceAt.keeps (h : GraceAt W g sp p rb cap n pp bb G) (hk : Keeps W W') : GraceAt W' g sp p rb cap n pp bb G :=
  ⟨h.hdr.keeps hk, h.sect.keeps hk, h.calls.keeps hk, fun y hy => ⟨(h.scan y hy).1.keeps hk, (h.scan y hy).2⟩, h.gs, h.nfg, h.nfs⟩
theorem GraceAt.lt (h : GraceAt W g sp p rb cap n pp bb G) : ∀ b, GF g sp p rb n pp bb G.sc b → b < W.heap.size := by
  rintro b (rfl | rfl | hb | ⟨y, hy, rfl⟩)
  · exact h.hdr.lt
  · exact h.sect.hdr.lt
  · exact h.calls.foot_lt b hb
  · exact (h.scan y hy).1.lt
theorem GraceAt.chg {D : Nat → Prop} (h : GraceAt W g sp p rb cap n pp bb G) (hc : Chg D W W') (hD : ∀ b, GF g sp p rb n pp bb G.sc b → ¬ D b) : GraceAt W' g sp p rb cap n pp bb G :=
  ⟨h.hdr.chg hc (hD g (.inl rfl)), h.sect.chg hc (hD sp (.inr (.inl rfl))), h.calls.chg hc fun b hb => hD b (.inr (.inr (.inl hb))),
    fun y hy => ⟨(h.scan y hy).1.chg hc (hD y.1 (.inr (.inr (.inr ⟨y, hy, rfl⟩)))), (h.scan y hy).2⟩, h.gs, h.nfg, h.nfs⟩
/-- The sections have changed. -/
theorem GraceAt.setS (h : GraceAt W g sp p rb cap n pp bb G) {S : SSt} (hs : SectAt W' sp S) (hc : Chg (· = sp) W W') : GraceAt W' g sp p rb cap n pp bb { G with S := S } :=
  ⟨h.hdr.chg hc h.gs, hs, h.calls.chg hc fun _ hb e => h.nfs (e ▸ hb), fun y hy => ⟨(h.scan y hy).1.chg hc (h.scan y hy).2.2.2.1, (h.scan y hy).2⟩, h.gs, h.nfg, h.nfs⟩
/-- The lists have changed. -/
theorem GraceAt.setR (h : GraceAt W g sp p rb cap n pp bb G) {l : Int} {R : List (List K.Cl)} (hs : K.ListsAt W' p rb cap n pp bb l R) (hc : Chg (K.Foot p rb n pp bb) W W') : GraceAt W' g sp p rb cap n pp bb { G with R := R, last := l } :=
  ⟨h.hdr.chg hc h.nfg, h.sect.chg hc h.nfs, hs, fun y hy => ⟨(h.scan y hy).1.chg hc (h.scan y hy).2.2.2.2, (h.scan y hy).2⟩, h.gs, h.nfg, h.nfs⟩
/-- A number of the grace has changed. -/
theorem GraceAt.cell (h : GraceAt W g sp p rb cap n pp bb G) (j : Nat) (v : Value) {G' : GSt} (hc : (gcells sp p G).set j v = gcells sp p G') (h1 : G'.S = G.S) (h2 : G'.R = G.R) (h3 : G'.last = G.last) (h4 : G'.sc = G.sc) : GraceAt (W.setCell ⟨g, j, none⟩ v) g sp p rb cap n pp bb G' := by
  have hC : Chg (· = g) W (W.setCell ⟨g, j, none⟩ v) := Chg.setCell _ _ rfl
  refine ⟨hc ▸ h.hdr.set j v, ?_, ?_, ?_, h.gs, h.nfg, h.nfs⟩
  · rw [h1]; exact h.sect.chg hC (Ne.symm h.gs)
  · rw [h2, h3]; exact h.calls.chg hC fun b hb e => h.nfg (e ▸ hb)
  · rw [h4]; exact fun y hy => ⟨(h.scan y hy).1.chg hC (h.scan y hy).2.2.1, (h.scan y hy).2⟩
/-- The scan that goes, as package scan sees it. -/
theorem GraceAt.scanAt (h : GraceAt W g sp p rb cap n pp bb G) {x : Nat} {c : ScSt} (hs : G.sc = some (x, c)) : ScanAt W x sp G.S c := ⟨(h.scan _ hs).1, h.sect, (h.scan _ hs).2.1, (h.scan _ hs).2.2.2.1⟩
/-- The scan has gone on. -/
theorem GraceAt.setC (h : GraceAt W g sp p rb cap n pp bb G) {x : Nat} {c c' : ScSt} (hs : G.sc = some (x, c)) (hc : ScanAt W' x sp G.S c') (hC : Chg (· = x) W W') : GraceAt W' g sp p rb cap n pp bb { G with sc := some (x, c') } := by
  have h0 := h.scan _ hs
  have e : gcells sp p { G with sc := some (x, c') } = gcells sp p G := by unfold gcells; rw [hs]; rfl
  refine ⟨e ▸ h.hdr.chg hC (Ne.symm h0.2.2.1), hc.sect, h.calls.chg hC fun b hb e => h0.2.2.2.2 (e ▸ hb), fun y hy => ?_, h.gs, h.nfg, h.nfs⟩
  obtain rfl : (x, c') = y := Option.some.inj hy
  exact ⟨hc.hdr, hc.ok, h0.2.2⟩
end
end Go.Proofs.YtefippjakkgjkaaDoor
