/- The walks of package grace: New, Call, Ticket, Barrier, Over. -/
import Derived.Test.YtefippjakkgjkaaDoorGraceA
namespace Go.Proofs.YtefippjakkgjkaaDoor
open Go.RowKit

def GSt.new (n : Nat) : GSt := ⟨.init, List.replicate n [], 0, none, 0, 0, 0⟩
theorem gnew_no (n : Int) (w : World) (h : n < 1 ∨ 64 < n) : Calls Tryd.prog 8 #[.int .i64 n] w fun e w' => e = .returned (.tuple #[.pointer none, .int .i64 2]) ∧ w = w' := by
  have hn := K.lnew_no n w h
  replace hn := Lib.hid hn
  clear h
  go_enter Tryd.func8, Tryd.ntmps8
  go_wp2_with fail
  refine hn.out.mono ?_
  rintro e w' ⟨rfl, rfl⟩
  go_wp2_with fail
  go_ret2
  exact ⟨rfl, rfl⟩
set_option maxRecDepth 100000 in
theorem gnew_yes (n : Nat) (w : World) (h1 : 1 ≤ n) (h2 : n ≤ 64) :
    Calls Tryd.prog 8 #[.int .i64 n] w fun e w' => ∃ g sp p rb cap pp bb, e = .returned (.tuple #[.pointer (some ⟨g, 0, none⟩), .int .i64 0]) ∧ GraceAt w' g sp p rb cap n pp bb (.new n) ∧ (∀ b, GF g sp p rb n pp bb none b → w.heap.size ≤ b) ∧ Keeps w w' := by
  have hn := K.lnew_yes n w h1 h2
  have hz := zeroSect
  replace hn := Lib.hid hn
  go_enter Tryd.func8, Tryd.ntmps8
  go_wp2_with fail
  refine hn.out.mono ?_
  rintro e w1 ⟨p, rb, cap, pp, bb, rfl, hL, hF, hK⟩
  have hs := hK.size
  have hlt := hL.foot_lt
  obtain ⟨sp, hsp⟩ : ∃ sp, sp = w1.heap.size := ⟨_, rfl⟩
  obtain ⟨g, hg⟩ : ∃ g, g = w1.heap.size + 1 := ⟨_, rfl⟩
  have hG : GraceAt ((w1.alloc (.cells (sCells .init).toArray 83)).alloc (.cells (gcells sp p (.new n)).toArray 86)) g sp p rb cap n pp bb (.new n) := by
    refine ⟨Blk.at (by simp [hg]) rfl, ?_, hL.keeps ((Keeps.alloc _ _).trans (Keeps.alloc _ _)), fun y hy => ?_, by omega, fun hf => by have := hlt g hf; omega, fun hf => by have := hlt sp hf; omega⟩
    · rw [hsp]; exact (sect_new w1).keeps (Keeps.alloc _ _)
    · cases hy
  have hN : ∀ b, GF g sp p rb n pp bb none b → w.heap.size ≤ b := by
    rintro b (rfl | rfl | hb | ⟨y, hy, rfl⟩)
    · omega
    · omega
    · exact hF b hb
    · cases hy
  have hKK : Keeps w ((w1.alloc (.cells (sCells .init).toArray 83)).alloc (.cells (gcells sp p (.new n)).toArray 86)) := Keeps.trans hK ((Keeps.alloc _ _).trans (Keeps.alloc _ _))
  replace hG := Lib.hid hG
  replace hN := Lib.hid hN
  replace hKK := Lib.hid hKK
  clear hL hF hK hlt hs
  go_wp2_with fail
  go_ret2
  subst hsp
  subst hg
  exact ⟨_, _, p, rb, cap, pp, bb, rfl, hG.out, hN.out, hKK.out⟩
section
variable {w W : World} {g sp p rb cap n : Nat} {pp bb : Nat → Nat} {G : GSt}
theorem gcall_any (h : GraceAt W g sp p rb cap n pp bb G) (c : Nat) (hc : c < n) (v : Value) (ids : List Int) (hv : Ints W v ids) (hsep : ∀ k, v.ownBlock = some k → 0 < ids.length → ¬ K.Foot p rb n pp bb k) :
    Calls Tryd.prog 11 #[.pointer (some ⟨g, 0, none⟩), .int .i64 c, v] W fun e w' => e = .returned (.int .i64 (if ids.length ≤ 64 - (G.R.getD c []).length then 0 else 3)) ∧
      GraceAt w' g sp p rb cap n pp bb { G with R := G.R.set c (K.addR (G.R.getD c []) ids) } ∧ Chg (K.Foot p rb n pp bb) W w' := by
  have c1 := h.c1
  have hs := K.ladd_any h.calls c hc v ids hv hsep
  obtain ⟨q, vcap, rfl, -⟩ := hv.open
  generalize (if ids.length ≤ 64 - (G.R.getD c []).length then (0 : Int) else 3) = r at *
  replace hs := Lib.hid hs
  replace h := Lib.hid h
  go_enter Tryd.func11, Tryd.ntmps11
  go_wp2_with fail
  refine hs.out.mono ?_
  rintro e w' ⟨rfl, hS, hC⟩
  have hG := h.out.setR hS hC
  replace hG := Lib.hid hG
  replace hC := Lib.hid hC
  clear hS
  go_wp2_with fail
  go_ret
  exact ⟨rfl, hG.out, hC.out⟩
theorem gcall_no (h : GraceAt W g sp p rb cap n pp bb G) (c : Int) (hc : c < 0 ∨ (n : Int) ≤ c) (v : Value) : Calls Tryd.prog 11 #[.pointer (some ⟨g, 0, none⟩), .int .i64 c, v] W fun e w' => e = .returned (.int .i64 2) ∧ W = w' := by
  have c1 := h.c1
  have hs := K.ladd_no h.calls c hc v
  replace hs := Lib.hid hs
  clear h hc
  go_enter Tryd.func11, Tryd.ntmps11
  go_wp2_with fail
  refine hs.out.mono ?_
  rintro e w' ⟨rfl, rfl⟩
  go_wp2_with fail
  go_ret
  exact ⟨rfl, rfl⟩
theorem gticket_any (h : GraceAt W g sp p rb cap n pp bb G) (h0 : 0 ≤ G.began) (h1 : G.began < 1000000000) :
    Calls Tryd.prog 12 #[.pointer (some ⟨g, 0, none⟩)] W fun e w' => e = .returned (.int .i64 (G.began + 1)) ∧ GraceAt w' g sp p rb cap n pp bb { G with want := G.began + 1 } ∧ Chg (· = g) W w' := by
  have c3 := h.c3
  have c5 := h.c5
  have f5 := h.hdr.frozen 5
  have hG := h.cell 5 (.int .i64 (G.began + 1)) (G' := { G with want := G.began + 1 }) rfl rfl rfl rfl rfl
  have hC : Chg (· = g) W (W.setCell ⟨g, 5, none⟩ (.int .i64 (G.began + 1))) := Chg.setCell _ _ rfl
  have hwr : IntKind.i64.wrap (G.began + 1) = G.began + 1 := wrap_small _ (by omega) (by omega)
  clear h
  generalize G.began = z at *
  replace hG := Lib.hid hG
  replace hC := Lib.hid hC
  go_enter Tryd.func12, Tryd.ntmps12
  go_wp2_with fail
  go_ret
  exact ⟨rfl, hG.out, hC.out⟩
theorem gover_any (h : GraceAt W g sp p rb cap n pp bb G) (t : Int) : Calls Tryd.prog 16 #[.pointer (some ⟨g, 0, none⟩), .int .i64 t] W fun e w' => e = .returned (.bool (decide (t ≤ G.done))) ∧ W = w' := by
  have c4 := h.c4
  clear h
  generalize G.done = z at *
  go_enter Tryd.func16, Tryd.ntmps16
  go_wp2
  go_ret
  exact ⟨rfl, rfl⟩
def GSt.bar (G : GSt) : Int := if 0 < K.openC G.R.flatten then G.began + 1 else K.newC G.R.flatten
theorem gbarrier_any (h : GraceAt W g sp p rb cap n pp bb G) (h0 : 0 ≤ G.began) (h1 : G.began < 1000000000) :
    Calls Tryd.prog 22 #[.pointer (some ⟨g, 0, none⟩)] W fun e w' => e = .returned (.int .i64 G.bar) ∧ Keeps W w' := by
  have c1 := h.c1
  have c3 := h.c3
  have ho := K.lopen_any h.all
  have hn := fun (X : World) (hk : Keeps W X) => K.lnewest_any (h.keeps hk).all
  have hx := fun (X : World) (hk : Keeps W X) => (h.keeps hk).c1
  have hy := fun (X : World) (hk : Keeps W X) => (h.keeps hk).c3
  unfold GSt.bar
  have hwr : IntKind.i64.wrap (G.began + 1) = G.began + 1 := wrap_small _ (by omega) (by omega)
  clear h
  generalize G.began = z at *
  generalize K.newC G.R.flatten = y at *
  generalize K.openC G.R.flatten = o at *
  replace ho := Lib.hid ho
  replace hn := Lib.hid hn
  replace hx := Lib.hid hx
  replace hy := Lib.hid hy
  by_cases hp : 0 < o
  · have hpI : (0 : Int) < (o : Int) := by omega
    rw [if_pos hp]
    go_enter Tryd.func22, Tryd.ntmps22
    go_wp2_with fail
    refine ho.out.mono ?_
    rintro e w1 ⟨rfl, hK⟩
    have x3 := hy.out w1 hK
    replace hK := Lib.hid hK
    go_wp2_with fail
    go_ret
    exact ⟨rfl, hK.out⟩
  · obtain rfl : o = 0 := by omega
    rw [if_neg hp]
    go_enter Tryd.func22, Tryd.ntmps22
    go_wp2_with fail
    refine ho.out.mono ?_
    rintro e w1 ⟨rfl, hK⟩
    have x1 := hx.out w1 hK
    have hn1 := hn.out w1 hK
    replace hK := Lib.hid hK
    replace hn1 := Lib.hid hn1
    go_wp2_with fail
    refine hn1.out.mono ?_
    rintro e w2 ⟨rfl, hK2⟩
    replace hK2 := Lib.hid hK2
    go_wp2_with fail
    go_ret
    exact ⟨rfl, Keeps.trans hK.out hK2.out⟩
end
end Go.Proofs.YtefippjakkgjkaaDoor
