/- The walks of package grace: look. -/
import Derived.Test.YtefippjakkgjkaaDoorGraceB
import Derived.Test.YtefippjakkgjkaaDoorQuietRow
namespace Go.Proofs.YtefippjakkgjkaaDoor
open Go.RowKit

theorem ownsRow_low {W : World} {base base' sz : Nat} {e : TypeId} {v : Value} {n : Nat} {xs : List Value} (h : W.ownsRow base e sz v n xs) (hb : base' ≤ base) : W.ownsRow base' e sz v n xs := by
  obtain ⟨h1, h2⟩ := h
  refine ⟨h1, h2.elim .inl fun h3 => ?_⟩
  obtain ⟨g, cap, cur, hv, hg, h4⟩ := h3
  exact .inr ⟨g, cap, cur, hv, Nat.le_trans hb hg, h4⟩
/-- A look at the scan that goes: what is behind it, and whose callbacks may run. -/
def GSt.lookS (G : GSt) : GSt × List Int :=
  match G.sc with
  | none => (G, [])
  | some y => if lenN (poll G.S y.2 16).left = 0 then ({ G with sc := none, done := G.began, R := G.R.map (K.lfL G.began) }, K.tellL G.began G.R) else ({ G with sc := some (y.1, poll G.S y.2 16) }, [])
section
variable {w W W' : World} {g sp p rb cap n : Nat} {pp bb : Nat → Nat} {G : GSt}
theorem GraceAt.dropC (h : GraceAt W g sp p rb cap n pp bb G) : GraceAt (W.setCell ⟨g, 2, none⟩ (.pointer none)) g sp p rb cap n pp bb { G with sc := none } := by
  have hC : Chg (· = g) W (W.setCell ⟨g, 2, none⟩ (.pointer none)) := Chg.setCell _ _ rfl
  exact ⟨h.hdr.set 2 _, h.sect.chg hC (Ne.symm h.gs), h.calls.chg hC fun _ hb e => h.nfg (e ▸ hb), fun y hy => (nomatch hy), h.gs, h.nfg, h.nfs⟩
theorem glook_none (h : GraceAt W g sp p rb cap n pp bb G) (hs : G.sc = none) : Calls Tryd.prog 40 #[.pointer (some ⟨g, 0, none⟩)] W fun e w' => e = .returned (.slice none 0 0) ∧ W = w' := by
  have c2 := h.c2
  rw [hs] at c2
  simp only [scV] at c2
  clear h hs
  go_enter Tryd.func40, Tryd.ntmps40
  go_wp2_with fail
  go_ret
  exact ⟨rfl, rfl⟩
theorem glook_wait (h : GraceAt W g sp p rb cap n pp bb G) {x : Nat} {c : ScSt} (hs : G.sc = some (x, c)) (hT : TabAt W) (hl : lenN (poll G.S c 16).left ≠ 0) : Calls Tryd.prog 40 #[.pointer (some ⟨g, 0, none⟩)] W fun e w' => e = .returned (.slice none 0 0) ∧ GraceAt w' g sp p rb cap n pp bb { G with sc := some (x, poll G.S c 16) } ∧ Chg (· = x) W w' := by
  have c2 := h.c2
  have hp := poll_any (h.scanAt hs) hT 16
  have hset := fun (X : World) hx hc => h.setC (W' := X) (c' := poll G.S c 16) hs hx hc
  rw [hs] at c2
  simp only [scV] at c2
  have hm : (0 : Int) < (lenN (poll G.S c 16).left : Nat) := by omega
  generalize lenN (poll G.S c 16).left = m at *
  clear h hT hl hs
  replace hp := Lib.hid hp
  replace hset := Lib.hid hset
  go_enter Tryd.func40, Tryd.ntmps40
  go_wp2_with fail
  refine hp.out.mono ?_
  rintro e w1 ⟨rfl, hx, hC⟩
  have hG := hset.out w1 hx hC
  replace hG := Lib.hid hG
  replace hC := Lib.hid hC
  clear hx
  go_wp2_with fail
  go_ret
  exact ⟨rfl, hG.out, hC.out⟩
theorem glook_over (h : GraceAt W g sp p rb cap n pp bb G) {x : Nat} {c : ScSt} (hs : G.sc = some (x, c)) (hT : TabAt W) (hl : lenN (poll G.S c 16).left = 0) : Calls Tryd.prog 40 #[.pointer (some ⟨g, 0, none⟩)] W fun e w' => ∃ v, e = .returned v ∧
    w'.ownsRow W.heap.size 3 1 v (K.tellL G.began G.R).length ((K.tellL G.began G.R).map (Value.int .i64)) ∧ GraceAt w' g sp p rb cap n pp bb { G with sc := none, done := G.began, R := G.R.map (K.lfL G.began) } ∧ Chg (fun b => b = x ∨ b = g ∨ K.Foot p rb n pp bb b) W w' := by
  have c2 := h.c2
  have hp := poll_any (h.scanAt hs) hT 16
  have hset := fun (X : World) hx hc => h.setC (W' := X) (c' := poll G.S c 16) hs hx hc
  rw [hs] at c2
  simp only [scV] at c2
  rw [hl] at hp
  have hxg := (h.scan _ hs).2.2.1
  have hlt := h.hdr.lt
  replace hs := Lib.hid hs
  clear h hT hl
  replace hp := Lib.hid hp
  replace hset := Lib.hid hset
  go_enter Tryd.func40, Tryd.ntmps40
  go_wp2_with fail
  refine hp.out.mono ?_
  rintro e w1 ⟨rfl, hx, hC⟩
  have hG := hset.out w1 hx hC
  have y2 := hG.c2
  have y3 := hG.c3
  have y4 := hG.c4
  have f2 := hG.hdr.frozen 2
  have f4 := hG.hdr.frozen 4
  have hG2 := hG.dropC
  have hG4 := hG2.cell 4 (.int .i64 G.began) (G' := { G with sc := none, done := G.began }) rfl rfl rfl rfl rfl
  have hC4 : Chg (fun b => b = x ∨ b = g ∨ K.Foot p rb n pp bb b) W ((w1.setCell ⟨g, 2, none⟩ (.pointer none)).setCell ⟨g, 4, none⟩ (.int .i64 G.began)) := (hC.mono fun _ _ e => .inl e).trans ((Chg.setCell (S := fun b => b = x ∨ b = g ∨ K.Foot p rb n pp bb b) _ _ (.inr (.inl rfl))).trans (Chg.setCell (S := fun b => b = x ∨ b = g ∨ K.Foot p rb n pp bb b) _ _ (.inr (.inl rfl))))
  replace hG4 := Lib.hid hG4
  replace hC4 := Lib.hid hC4
  have hcall := fun (X : World) (hk : Keeps ((w1.setCell ⟨g, 2, none⟩ (.pointer none)).setCell ⟨g, 4, none⟩ (.int .i64 G.began)) X) => K.ldone_any (hG4.out.keeps hk).calls G.began
  replace hcall := Lib.hid hcall
  clear hx hC hG hG2 hset hp c2
  simp only [scV] at y2 y3 y4
  go_upto_region 4 with (fail)
  refine wp_gen (fun X => GraceAt X g sp p rb cap n pp bb { G with sc := none, done := G.began } ∧ Chg (fun b => b = x ∨ b = g ∨ K.Foot p rb n pp bb b) W X) ⟨hG4.out, hC4.out⟩ ?_
  clear hG4 hC4 hcall y2 y3 y4 f2 f4
  rintro W2 ⟨hG, hC⟩
  have y1 := hG.c1
  have y4 := hG.c4
  have hcall := fun m => K.ldone_any (hG.keeps (Keeps.drewN W2 m)).calls G.began
  simp only at hcall y4
  have hsz : W.heap.size ≤ W2.heap.size := hC.size
  replace hG := Lib.hid hG
  replace hC := Lib.hid hC
  replace hcall := Lib.hid hcall
  refine region_quiet_tail 8 (by kernel_rfl) (by kernel_rfl) ?_
  simp only [List.take_succ_cons, List.take_zero, List.drop_succ_cons, List.drop_zero]
  repeat (go_big_quiet_step (fail))
  refine wpQuiet_nil ?_
  rintro _ ⟨nq, rfl⟩
  have hc2 := hcall.out nq
  have hG2 := hG.out.keeps (Keeps.drewN W2 nq)
  have hC2 := hC.out.trans (Chg.of_keeps (S := fun b => b = x ∨ b = g ∨ K.Foot p rb n pp bb b) (Keeps.drewN W2 nq))
  replace hc2 := Lib.hid hc2
  replace hG2 := Lib.hid hG2
  replace hC2 := Lib.hid hC2
  clear hcall hG hC
  go_wp2_with fail
  refine hc2.out.mono ?_
  rintro e W5 ⟨v, rfl, hv, hL, hC5⟩
  have hG5 := hG2.out.setR hL hC5
  have hC6 := hC2.out.trans (hC5.mono (T := fun b => b = x ∨ b = g ∨ K.Foot p rb n pp bb b) fun _ _ hb => .inr (.inr hb))
  have hv := ownsRow_low hv (show W.heap.size ≤ (W2.drewN nq).heap.size from hsz)
  replace hv := Lib.hid hv
  replace hG5 := Lib.hid hG5
  replace hC6 := Lib.hid hC6
  clear hG2 hC2 hL hC5
  go_wp2_with fail
  go_ret
  exact ⟨v, rfl, hv.out, hG5.out, hC6.out⟩
theorem glook_any (h : GraceAt W g sp p rb cap n pp bb G) (hT : TabAt W) : Calls Tryd.prog 40 #[.pointer (some ⟨g, 0, none⟩)] W fun e w' => ∃ v, e = .returned v ∧
    w'.ownsRow W.heap.size 3 1 v G.lookS.2.length (G.lookS.2.map (Value.int .i64)) ∧ GraceAt w' g sp p rb cap n pp bb G.lookS.1 ∧ Chg (GF g sp p rb n pp bb G.sc) W w' := by
  unfold GSt.lookS
  cases hs : G.sc with
  | none =>
    refine (glook_none h hs).mono ?_
    rintro e w' ⟨rfl, rfl⟩
    exact ⟨_, rfl, World.ownsRow_nil _ _ _ _, h, Chg.refl _ _⟩
  | some y =>
    obtain ⟨x, c⟩ := y
    by_cases hl : lenN (poll G.S c 16).left = 0
    · simp only [if_pos hl]
      refine (glook_over h hs hT hl).mono ?_
      rintro e w' ⟨v, rfl, hv, hG, hC⟩
      exact ⟨v, rfl, hv, hG, hC.mono fun b _ hb => hb.elim (fun e => .inr (.inr (.inr ⟨_, rfl, e⟩))) fun hb => hb.elim .inl fun hf => .inr (.inr (.inl hf))⟩
    · simp only [if_neg hl]
      refine (glook_wait h hs hT hl).mono ?_
      rintro e w' ⟨rfl, hG, hC⟩
      exact ⟨_, rfl, World.ownsRow_nil _ _ _ _, hG, hC.mono fun b _ e => .inr (.inr (.inr ⟨_, rfl, e⟩))⟩
end
end Go.Proofs.YtefippjakkgjkaaDoor
