/- The walks of package grace: begin. -/
import Derived.Test.YtefippjakkgjkaaDoorGraceC
namespace Go.Proofs.YtefippjakkgjkaaDoor
open Go.RowKit

section
variable {w W W' : World} {g sp p rb cap n : Nat} {pp bb : Nat → Nat} {G : GSt}
theorem GraceAt.newC (h : GraceAt W g sp p rb cap n pp bb G) {x : Nat} {c : ScSt} (hx : ScanAt W x sp G.S c) (hg : x ≠ g) (hf : ¬ K.Foot p rb n pp bb x) : GraceAt (W.setCell ⟨g, 2, none⟩ (.pointer (some ⟨x, 0, none⟩))) g sp p rb cap n pp bb { G with sc := some (x, c) } := by
  have hC : Chg (· = g) W (W.setCell ⟨g, 2, none⟩ (.pointer (some ⟨x, 0, none⟩))) := Chg.setCell _ _ rfl
  refine ⟨h.hdr.set 2 _, h.sect.chg hC (Ne.symm h.gs), h.calls.chg hC fun _ hb e => h.nfg (e ▸ hb), fun y hy => ?_, h.gs, h.nfg, h.nfs⟩
  obtain rfl : (x, c) = y := Option.some.inj hy
  exact ⟨hx.hdr.chg hC hg, hx.ok, hg, hx.ne, hf⟩
set_option maxRecDepth 100000 in
theorem gbegin_some (h : GraceAt W g sp p rb cap n pp bb G) {y : Nat × ScSt} (hs : G.sc = some y) : Calls Tryd.prog 41 #[.pointer (some ⟨g, 0, none⟩)] W fun e w' => e = .returned (.slice none 0 0) ∧ Keeps W w' := by
  have c2 := h.c2
  rw [hs] at c2
  simp only [scV] at c2
  have x2 := After.cell c2
  clear h hs
  go_enter Tryd.func41, Tryd.ntmps41
  go_wp2_with fail
  refine region_after (by kernel_rfl) (by kernel_rfl) ?_
  repeat (go_big_quiet_step (fail))
  refine wpQuiet_nil ?_
  rintro W8 ⟨⟨X8, hK8⟩, hX8⟩
  replace hX8 := show W8 = X8 from hX8
  subst hX8
  replace hK8 := Lib.hid hK8
  go_wp2_with fail
  go_ret
  exact ⟨rfl, hK8.out⟩
set_option maxRecDepth 100000 in
theorem gbegin_idle (h : GraceAt W g sp p rb cap n pp bb G) (hs : G.sc = none) (ho : K.openC G.R.flatten = 0) (hw : G.want ≤ G.began) : Calls Tryd.prog 41 #[.pointer (some ⟨g, 0, none⟩)] W fun e w' => e = .returned (.slice none 0 0) ∧ Keeps W w' := by
  have c1 := h.c1
  have c2 := h.c2
  have c3 := h.c3
  have c5 := h.c5
  rw [hs] at c2
  simp only [scV] at c2
  have x1 := After.cell c1
  have x2 := After.cell c2
  have x3 := After.cell c3
  have x5 := After.cell c5
  have hop : ∀ x : After W, Calls Tryd.prog 46 #[.pointer (some ⟨p, 0, none⟩)] x.now fun e w' => e = .returned (.int .i64 0) ∧ ∃ y : After W, w' = y.now := fun x => After.call x (by have := K.lopen_any (h.keeps x.keeps).all; rw [ho] at this; exact this)
  clear h hs c1 c3 c5 ho
  generalize G.want = a at *
  generalize G.began = b at *
  replace hop := Lib.hid hop
  go_enter Tryd.func41, Tryd.ntmps41
  go_wp2_with fail
  refine region_after (by kernel_rfl) (by kernel_rfl) ?_
  repeat (go_big_quiet_step (first | (with_reducible exact hop.out _)))
  refine wpQuiet_nil ?_
  rintro W8 ⟨⟨X8, hK8⟩, hX8⟩
  replace hX8 := show W8 = X8 from hX8
  subst hX8
  replace hK8 := Lib.hid hK8
  go_wp2_with fail
  go_ret
  exact ⟨rfl, hK8.out⟩
/-- What begin leaves. -/
def GSt.beg (G : GSt) (x : Nat) : GSt := { G with began := G.began + 1, last := G.began + 1, R := K.closeL (G.began + 1) G.R, sc := some (x, ⟨G.S.m, G.S.st, 0⟩) }
set_option maxRecDepth 100000 in
theorem gbegin_tail (h : GraceAt W g sp p rb cap n pp bb G) (hs : G.sc = none) (h0 : 0 ≤ G.began) (h1 : G.began < 1000000000) (hl : G.last ≤ G.began) (hc : K.openC G.R.flatten ≠ 0 ∨ G.began < G.want) : Calls Tryd.prog 41 #[.pointer (some ⟨g, 0, none⟩)] W fun e w' => ∃ x, e = .returned (.slice none 0 0) ∧
    GraceAt w' g sp p rb cap n pp bb (G.beg x) ∧ W.heap.size ≤ x ∧ Chg (fun b => b = g ∨ K.Foot p rb n pp bb b) W w' := by
  have c1 := h.c1
  have c2 := h.c2
  have c3 := h.c3
  have c5 := h.c5
  rw [hs] at c2
  simp only [scV] at c2
  have x1 := After.cell c1
  have x2 := After.cell c2
  have x3 := After.cell c3
  have x5 := After.cell c5
  have hop : ∀ x : After W, Calls Tryd.prog 46 #[.pointer (some ⟨p, 0, none⟩)] x.now fun e w' => e = .returned (.int .i64 (K.openC G.R.flatten : Nat)) ∧ ∃ y : After W, w' = y.now := fun x => After.call x (K.lopen_any (h.keeps x.keeps).all)
  have hwr : IntKind.i64.wrap (G.began + 1) = G.began + 1 := wrap_small _ (by omega) (by omega)
  have hcase : ((((K.openC G.R.flatten : Nat) : Int) == 0) = false) ∨ (K.openC G.R.flatten = 0 ∧ ¬ G.want ≤ G.began) := by
    by_cases e : K.openC G.R.flatten = 0
    · exact .inr ⟨e, by omega⟩
    · exact .inl (beq_false_of_ne (by omega))
  clear c1 c3 c5 hc
  replace hop := Lib.hid hop
  replace h := Lib.hid h
  replace hs := Lib.hid hs
  replace hl := Lib.hid hl
  generalize ho : K.openC G.R.flatten = o at *
  clear ho
  go_enter Tryd.func41, Tryd.ntmps41
  go_wp2_with fail
  refine region_after (by kernel_rfl) (by kernel_rfl) ?_
  rcases hcase with ha | ⟨rfl, hb⟩
  all_goals
    (repeat (go_big_quiet_step (first | (with_reducible exact hop.out _))))
    refine wpQuiet_nil ?_
    rintro W8 ⟨⟨X8, hK8⟩, hX8⟩
    replace hX8 := show W8 = X8 from hX8
    subst hX8
    have h8 := h.out.keeps hK8
    have y3 := h8.c3
    have f3 := h8.hdr.frozen 3
    have hG9 := h8.cell 3 (.int .i64 (G.began + 1)) (G' := { G with began := G.began + 1 }) rfl rfl rfl rfl rfl
    have hC9 : Chg (fun b => b = g ∨ K.Foot p rb n pp bb b) W (W8.setCell ⟨g, 3, none⟩ (.int .i64 (G.began + 1))) := (Chg.of_keeps (S := fun b => b = g ∨ K.Foot p rb n pp bb b) hK8).trans (Chg.setCell (S := fun b => b = g ∨ K.Foot p rb n pp bb b) _ _ (.inl rfl))
    replace hG9 := Lib.hid hG9
    replace hC9 := Lib.hid hC9
    clear h8 hK8 hop x1 x2 x3 x5 c2
    go_upto_region 4 with (fail)
    refine wp_gen (fun X => GraceAt X g sp p rb cap n pp bb { G with began := G.began + 1 } ∧ Chg (fun b => b = g ∨ K.Foot p rb n pp bb b) W X) ⟨hG9.out, hC9.out⟩ ?_
    clear hG9 hC9 y3 f3
    rintro W2 ⟨hG, hC⟩
    have y1 := hG.c1
    have y3 := hG.c3
    have hcall := fun m => K.lclose_any (hG.keeps (Keeps.drewN W2 m)).calls (G.began + 1) (by omega) (by have := hl.out; show G.last ≤ _; omega)
    simp only at hcall y3
    have hsz : W.heap.size ≤ W2.heap.size := hC.size
    replace hG := Lib.hid hG
    replace hC := Lib.hid hC
    replace hcall := Lib.hid hcall
    refine region_quiet_tail 8 (by kernel_rfl) (by kernel_rfl) ?_
    simp only [List.take_succ_cons, List.take_zero, List.drop_succ_cons, List.drop_zero]
    (repeat (go_big_quiet_step (fail)))
    refine wpQuiet_nil ?_
    rintro _ ⟨nq, rfl⟩
    have hc2 := hcall.out nq
    have hG2 := hG.out.keeps (Keeps.drewN W2 nq)
    have hC2 := hC.out.trans (Chg.of_keeps (S := fun b => b = g ∨ K.Foot p rb n pp bb b) (Keeps.drewN W2 nq))
    replace hc2 := Lib.hid hc2
    replace hG2 := Lib.hid hG2
    replace hC2 := Lib.hid hC2
    clear hcall hG hC y1 y3
    go_wp2_with fail
    refine hc2.out.mono ?_
    rintro e W5 ⟨rfl, hL, hC5⟩
    have hG5 := hG2.out.setR hL hC5
    have hC6 := hC2.out.trans (hC5.mono (T := fun b => b = g ∨ K.Foot p rb n pp bb b) fun _ _ hb => .inr hb)
    have z0 := hG5.c0
    have hsn := scNew_any hG5.sect
    replace hG5 := Lib.hid hG5
    replace hC6 := Lib.hid hC6
    replace hsn := Lib.hid hsn
    clear hc2 hG2 hC2 hL hC5 hsz
    go_wp2_with fail
    refine hsn.out.mono ?_
    rintro e W6 ⟨rfl, hx, hK6⟩
    have hG6 := hG5.out.keeps hK6
    have z2 := hG6.c2
    have f2 := hG6.hdr.frozen 2
    have hlt := hG5.out.calls.foot_lt
    have hlg := hG5.out.hdr.lt
    have hG7 := hG6.newC hx (by omega) (fun hf => by have := hlt _ hf; omega)
    have hC7 := (hC6.out.trans (Chg.of_keeps (S := fun b => b = g ∨ K.Foot p rb n pp bb b) hK6)).trans (Chg.setCell (S := fun b => b = g ∨ K.Foot p rb n pp bb b) (b := g) 2 (.pointer (some ⟨W5.heap.size, 0, none⟩)) (.inl rfl))
    have hsx : W.heap.size ≤ W5.heap.size := hC6.out.size
    simp only [hs.out, scV] at z2
    replace hG7 := Lib.hid hG7
    replace hC7 := Lib.hid hC7
    replace hsx := Lib.hid hsx
    clear z0 hG5 hC6 hsn hx hK6 hG6 hlt hlg
    go_wp2_with fail
    go_ret
    exact ⟨_, rfl, hG7.out, hsx.out, hC7.out⟩
end
end Go.Proofs.YtefippjakkgjkaaDoor
