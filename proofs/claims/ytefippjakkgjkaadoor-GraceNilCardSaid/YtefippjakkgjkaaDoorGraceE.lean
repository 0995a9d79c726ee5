/- The walks of package grace: Poll. -/
import Derived.Test.YtefippjakkgjkaaDoorGraceD
namespace Go.Proofs.YtefippjakkgjkaaDoor
open Go.RowKit

section
variable {w W W' : World} {g sp p rb cap n : Nat} {pp bb : Nat → Nat} {G : GSt}
def GSt.begS (G : GSt) (x : Nat) : GSt := if G.sc.isSome = true ∨ (K.openC G.R.flatten = 0 ∧ G.want ≤ G.began) then G else G.beg x
theorem gbegin_any (h : GraceAt W g sp p rb cap n pp bb G) (h0 : 0 ≤ G.began) (h1 : G.began < 1000000000) (hl : G.last ≤ G.began) : Calls Tryd.prog 41 #[.pointer (some ⟨g, 0, none⟩)] W fun e w' => ∃ x, e = .returned (.slice none 0 0) ∧
    GraceAt w' g sp p rb cap n pp bb (G.begS x) ∧ W.heap.size ≤ x ∧ Chg (fun b => b = g ∨ K.Foot p rb n pp bb b) W w' := by
  cases hs : G.sc with
  | some y =>
    refine (gbegin_some h hs).mono ?_
    rintro e w' ⟨rfl, hK⟩
    refine ⟨W.heap.size, rfl, ?_, Nat.le_refl _, Chg.of_keeps hK⟩
    unfold GSt.begS
    rw [hs, if_pos (.inl rfl)]
    exact h.keeps hK
  | none =>
    by_cases hc : K.openC G.R.flatten = 0 ∧ G.want ≤ G.began
    · refine (gbegin_idle h hs hc.1 hc.2).mono ?_
      rintro e w' ⟨rfl, hK⟩
      refine ⟨W.heap.size, rfl, ?_, Nat.le_refl _, Chg.of_keeps hK⟩
      unfold GSt.begS
      rw [if_pos (.inr hc)]
      exact h.keeps hK
    · refine (gbegin_tail h hs h0 h1 hl (by omega)).mono ?_
      rintro e w' ⟨x, rfl, hG, hx, hC⟩
      refine ⟨x, rfl, ?_, hx, hC⟩
      unfold GSt.begS
      rw [hs, if_neg (fun hh => hh.elim (fun e => nomatch e) hc)]
      exact hG
theorem rowG_chg {S : Nat → Prop} {W W' : World} {base : Nat} {e : TypeId} {v : Value} {n : Nat} {xs : List Value} (h : W.ownsRow base e 1 v n xs) (hc : Chg S W W') (hs : ∀ b, S b → b < base) : W'.ownsRow base e 1 v n xs := by
  refine ⟨h.1, h.2.elim .inl fun h3 => ?_⟩
  obtain ⟨g, cap, cur, hv, hg, hb, h4⟩ := h3
  have hlt : g < W.heap.size := by
    obtain ⟨hlt, _⟩ := Array.getElem?_eq_some_iff.1 hb
    exact hlt
  exact .inr ⟨g, cap, cur, hv, hg, (hc.block g hlt (fun hS => by have := hs g hS; omega)).trans hb, h4⟩
theorem two0 (w : World) : (Instr.index 89 (.agg #[.func (.func 40) #[] #[], .func (.func 41) #[] #[]]) (.int .i64 0)).run Tryd.prog w = .ok (.func (.func 40) #[] #[]) w := by kernel_rfl
theorem two1 (w : World) : (Instr.index 89 (.agg #[.func (.func 40) #[] #[], .func (.func 41) #[] #[]]) (.int .i64 1)).run Tryd.prog w = .ok (.func (.func 41) #[] #[]) w := by kernel_rfl
theorem int_ones (L : List Int) : ∀ y ∈ L.map (Value.int .i64), y.oneCell' = true := by
  intro y hy
  obtain ⟨z, _, rfl⟩ := List.mem_map.1 hy
  rfl
set_option maxRecDepth 100000 in
theorem gpoll_any (h : GraceAt W g sp p rb cap n pp bb G) (hT : TabAt W) (h0 : 0 ≤ G.began) (h1 : G.began < 1000000000) (hl : G.last ≤ G.began) (hn : G.lookS.2.length ≤ 100000) : Calls Tryd.prog 14 #[.pointer (some ⟨g, 0, none⟩)] W fun e w' => ∃ v x, e = .returned v ∧
    w'.ownsRow W.heap.size 3 1 v G.lookS.2.length (G.lookS.2.map (Value.int .i64)) ∧ GraceAt w' g sp p rb cap n pp bb (G.lookS.1.begS x) ∧ W.heap.size ≤ x ∧ Chg (GF g sp p rb n pp bb G.sc) W w' := by
  have hlk := glook_any h hT
  have hbg := fun (X : World) (G2 : GSt) (hx : GraceAt X g sp p rb cap n pp bb G2) => gbegin_any hx
  have e1 : G.lookS.1.began = G.began ∧ G.lookS.1.last = G.last := by
    unfold GSt.lookS
    split
    · exact ⟨rfl, rfl⟩
    · split
      · exact ⟨rfl, rfl⟩
      · exact ⟨rfl, rfl⟩
  have hlt := h.lt
  generalize G.lookS = r at *
  obtain ⟨G1, L⟩ := r
  simp only at hlk e1 hn ⊢
  obtain ⟨e1, e2⟩ := e1
  generalize hF : GF g sp p rb n pp bb G.sc = F at *
  have hgF : F g := by rw [← hF]; exact .inl rfl
  have hfF : ∀ b, K.Foot p rb n pp bb b → F b := fun b hb => by rw [← hF]; exact .inr (.inr (.inl hb))
  replace hlk := Lib.hid hlk
  replace hbg := Lib.hid hbg
  replace hlt := Lib.hid hlt
  replace hgF := Lib.hid hgF
  replace hfF := Lib.hid hfF
  replace e1 := Lib.hid e1
  replace e2 := Lib.hid e2
  replace h0 := Lib.hid h0
  replace h1 := Lib.hid h1
  replace hl := Lib.hid hl
  replace hn := Lib.hid hn
  clear h hT hF
  go_enter Tryd.func14, Tryd.ntmps14
  go_wp2_with fail
  go_loopw [3, 9] (fun out i wr => (i = .int .i64 0 ∧ out = .slice none 0 0 ∧ W = wr) ∨ (i = .int .i64 1 ∧ wr.ownsRow W.heap.size 3 1 out L.length (L.map (Value.int .i64)) ∧ GraceAt wr g sp p rb cap n pp bb G1 ∧ Chg F W wr) ∨
    (i = .int .i64 2 ∧ ∃ x, wr.ownsRow W.heap.size 3 1 out L.length (L.map (Value.int .i64)) ∧ GraceAt wr g sp p rb cap n pp bb (G1.begS x) ∧ W.heap.size ≤ x ∧ Chg F W wr)) (fun _ i _ => 2 - (intOf i).toNat)
  case atStart => exact .inl ⟨rfl, rfl, rfl⟩
  case round =>
    rcases hrel with ⟨rfl, rfl, hw⟩ | ⟨rfl, hv, hG, hC⟩ | ⟨rfl, x, hv, hG, hx, hC⟩
    · subst hw
      have hix := two0
      go_wp2_with fail
      refine hlk.out.mono ?_
      rintro e W1 ⟨v, rfl, hv, hG, hC⟩
      have hsrc := slc_of_row hv
      have hnil := World.ownsRow_nil W1 W1.heap.size 3 1
      have hb1 : (0 : Nat) + (L.map (Value.int .i64)).length ≤ maxLen := by have := hn.out; simp [maxLen]; omega
      have hb2 : (0 + (L.map (Value.int .i64)).length) * 8 ≤ 140737488355328 := by have := hn.out; simp; omega
      have hsz : W.heap.size ≤ W1.heap.size := hC.size
      replace hv := Lib.hid hv
      replace hG := Lib.hid hG
      replace hC := Lib.hid hC
      replace hsrc := Lib.hid hsrc
      replace hnil := Lib.hid hnil
      replace hb1 := Lib.hid hb1
      replace hb2 := Lib.hid hb2
      replace hsz := Lib.hid hsz
      go_wp2_with (at_builtin; refine appS rfl _ _ 38 3 (.int .i64 0) 8 rfl Tryd.underlying38 infoInt rfl W1.heap.size _ _ _ rfl hnil.out _ _ rfl hsrc.out (int_ones L) hb1.out hb2.out (Nat.le_refl _) ?_; intro v2 W2 hv2 _ hk2)
      rw [Nat.zero_add, List.length_map, List.nil_append] at hv2
      exact ⟨.inr (.inl ⟨rfl, ownsRow_low hv2 hsz.out, hG.out.keeps hk2, hC.out.trans (Chg.of_keeps hk2)⟩), by simp [intOf]⟩
    · have hix := two1
      have hb := hbg.out wr G1 hG (by rw [e1.out]; exact h0.out) (by rw [e1.out]; exact h1.out) (by rw [e1.out, e2.out]; exact hl.out)
      replace hb := Lib.hid hb
      replace hv := Lib.hid hv
      replace hC := Lib.hid hC
      clear hG
      go_wp2_with fail
      refine hb.out.mono ?_
      rintro e W1 ⟨x, rfl, hG, hx, hC1⟩
      have hC2 := hC.out.trans (hC1.mono (T := F) fun b _ hb => hb.elim (fun e => e ▸ hgF.out) (hfF.out b))
      have hv2 := rowG_chg hv.out hC1 (fun b hb => hlt.out b (hb.elim (fun e => e ▸ hgF.out) (hfF.out b)))
      obtain ⟨i0, hi0, _, _, _⟩ := info_parts infoInt
      replace hG := Lib.hid hG
      replace hC2 := Lib.hid hC2
      replace hv2 := Lib.hid hv2
      replace hi0 := Lib.hid hi0
      have hx2 : W.heap.size ≤ x := Nat.le_trans hC.out.size hx
      replace hx2 := Lib.hid hx2
      clear hv hC hC1 hx
      go_wp2_with (at_builtin; refine wpList_append_own_none rfl _ _ 38 rfl W.heap.size 3 i0 1 Tryd.underlying38 hi0.out _ _ _ rfl hv2.out rfl ?_)
      exact ⟨.inr (.inr ⟨rfl, x, hv2.out, hG.out, hx2.out, hC2.out⟩), by simp [intOf]⟩
    · replace hx := Lib.hid hx
      replace hv := Lib.hid hv
      replace hG := Lib.hid hG
      replace hC := Lib.hid hC
      go_wp2_with fail
      go_ret
      exact ⟨_, x, rfl, hv.out, hG.out, hx.out, hC.out⟩
end
end Go.Proofs.YtefippjakkgjkaaDoor
