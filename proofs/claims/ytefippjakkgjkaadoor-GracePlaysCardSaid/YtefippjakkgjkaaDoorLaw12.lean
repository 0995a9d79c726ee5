/- The laws of layer 12: what holds while one goes; known, GraceNil. -/
import Derived.Test.YtefippjakkgjkaaDoorGraceW
import Derived.Test.YtefippjakkgjkaaDoorSame
namespace Go.Proofs.YtefippjakkgjkaaDoor
open Go.RowKit

/-- What holds while a law goes: a grace whose blocks are the law's own. -/
structure GI (w : World) (g sp p rb cap n : Nat) (pp bb : Nat → Nat) (G : GSt) (W : World) : Prop where
  at' : GraceAt W g sp p rb cap n pp bb G
  new : ∀ b, GF g sp p rb n pp bb G.sc b → w.heap.size ≤ b
  keeps : Keeps w W
section
variable {w W W' : World} {g sp p rb cap n : Nat} {pp bb : Nat → Nat} {G G' : GSt}
theorem GI.kept (h : GI w g sp p rb cap n pp bb G W) (hk : Keeps W W') : GI w g sp p rb cap n pp bb G W' := ⟨h.at'.keeps hk, h.new, Keeps.trans h.keeps hk⟩
theorem GI.chg {D : Nat → Prop} (h : GI w g sp p rb cap n pp bb G W) (ha : GraceAt W' g sp p rb cap n pp bb G') (hc : Chg D W W') (hD : ∀ b, D b → GF g sp p rb n pp bb G.sc b) (hn : ∀ b, GF g sp p rb n pp bb G'.sc b → GF g sp p rb n pp bb G.sc b ∨ W.heap.size ≤ b) : GI w g sp p rb cap n pp bb G' W' :=
  ⟨ha, fun b hb => (hn b hb).elim (h.new b) (fun hl => Nat.le_trans h.keeps.size hl), Chg.keeps hc h.keeps (fun k hk hs => by have := h.new k (hD k hs); omega)⟩
theorem GI.start {n : Nat} (h1 : 1 ≤ n) (h2 : n ≤ 64) (w : World) : Calls Tryd.prog 8 #[.int .i64 n] w fun e w' => ∃ g sp p rb cap pp bb, e = .returned (.tuple #[.pointer (some ⟨g, 0, none⟩), .int .i64 0]) ∧ GI w g sp p rb cap n pp bb (.new n) w' := by
  refine (gnew_yes n w h1 h2).mono ?_
  rintro e w' ⟨g, sp, p, rb, cap, pp, bb, rfl, hG, hN, hK⟩
  exact ⟨g, sp, p, rb, cap, pp, bb, rfl, hG, hN, hK⟩
theorem GI.enter1 (h : GI w g sp p rb cap n pp bb G W) (r : Int) (sb : Nat) (hsb : sb = W.heap.size) (hst : G.S.st + 1 < 1000000) :
    Calls Tryd.prog 25 #[.pointer (some ⟨g, 0, none⟩), .slice (some ⟨sb, 0, none⟩) 1 1] (W.alloc (.cells #[.int .i64 r] 3)) fun e w' => e = .returned (.int .i64 (G.S.ents [r]).2) ∧ GI w g sp p rb cap n pp bb { G with S := (G.S.ents [r]).1 } w' := by
  have hsl : sp < W.heap.size := h.at'.sect.hdr.lt
  have hk := h.kept (Keeps.alloc W (.cells #[.int .i64 r] 3))
  refine (genter_any hk.at' (.slice (some ⟨sb, 0, none⟩) 1 1) [r] (ints_at W 3 [r] sb hsb (by simp [maxLen])) (fun b hb _ => ?_) hst).mono ?_
  · simp only [Value.ownBlock, Option.some.injEq] at hb; omega
  · rintro e w' ⟨rfl, hG, hC⟩
    exact ⟨rfl, hk.chg hG hC (fun b e => .inr (.inl e)) (fun b hb => .inl hb)⟩
theorem GI.call1 (h : GI w g sp p rb cap n pp bb G W) (c : Nat) (hc : c < n) (id : Int) (sb : Nat) (hsb : sb = W.heap.size) :
    Calls Tryd.prog 11 #[.pointer (some ⟨g, 0, none⟩), .int .i64 c, .slice (some ⟨sb, 0, none⟩) 1 1] (W.alloc (.cells #[.int .i64 id] 3)) fun e w' => e = .returned (.int .i64 (if 1 ≤ 64 - (G.R.getD c []).length then 0 else 3)) ∧ GI w g sp p rb cap n pp bb { G with R := G.R.set c (K.addR (G.R.getD c []) [id]) } w' := by
  have hfl := h.at'.calls.foot_lt
  have hk := h.kept (Keeps.alloc W (.cells #[.int .i64 id] 3))
  refine (gcall_any hk.at' c hc (.slice (some ⟨sb, 0, none⟩) 1 1) [id] (ints_at W 3 [id] sb hsb (by simp [maxLen])) (fun b hb _ hf => ?_)).mono ?_
  · simp only [Value.ownBlock, Option.some.injEq] at hb; have := hfl b hf; omega
  · rintro e w' ⟨rfl, hG, hC⟩
    exact ⟨rfl, hk.chg hG hC (fun b e => .inr (.inr (.inl e))) (fun b hb => .inl hb)⟩
theorem GI.exit (h : GI w g sp p rb cap n pp bb G W) (r : Int) : Calls Tryd.prog 18 #[.pointer (some ⟨g, 0, none⟩), .int .i64 r] W fun e w' => e = .returned (.tuple #[.bool (G.S.exiB r), .int .i64 (G.S.exiE r)]) ∧ GI w g sp p rb cap n pp bb { G with S := G.S.exi r } w' := by
  refine (gexit_any h.at' r).mono ?_
  rintro e w' ⟨rfl, hG, hC⟩
  exact ⟨rfl, h.chg hG hC (fun b e => .inr (.inl e)) (fun b hb => .inl hb)⟩
theorem sc_poll (G : GSt) (x : Nat) {b : Nat} : (∃ y, (G.lookS.1.begS x).sc = some y ∧ b = y.1) → (∃ y, G.sc = some y ∧ b = y.1) ∨ b = x := by
  have h1 : ∀ G1 : GSt, (∃ y, (G1.begS x).sc = some y ∧ b = y.1) → (∃ y, G1.sc = some y ∧ b = y.1) ∨ b = x := fun G1 => by
    unfold GSt.begS
    split
    · exact .inl
    · rintro ⟨y, hy, rfl⟩
      obtain rfl : (x, (⟨G1.S.m, G1.S.st, 0⟩ : ScSt)) = y := Option.some.inj hy
      exact .inr rfl
  intro h
  refine (h1 _ h).imp_left ?_
  unfold GSt.lookS
  split
  · exact id
  · rename_i y hy
    split
    · rintro ⟨z, hz, _⟩; cases hz
    · rintro ⟨z, hz, rfl⟩
      obtain rfl := Option.some.inj hz
      exact ⟨y, hy, rfl⟩
theorem GI.poll (h : GI w g sp p rb cap n pp bb G W) (hT : TabAt w) (h0 : 0 ≤ G.began) (h1 : G.began < 1000000000) (hl : G.last ≤ G.began) (hn : G.lookS.2.length ≤ 100000) : Calls Tryd.prog 14 #[.pointer (some ⟨g, 0, none⟩)] W fun e w' => ∃ v x, e = .returned v ∧
    w'.ownsRow W.heap.size 3 1 v G.lookS.2.length (G.lookS.2.map (Value.int .i64)) ∧ GI w g sp p rb cap n pp bb (G.lookS.1.begS x) w' := by
  refine (gpoll_any h.at' (hT.keeps h.keeps) h0 h1 hl hn).mono ?_
  rintro e w' ⟨v, x, rfl, hv, hG, hx, hC⟩
  refine ⟨v, x, rfl, hv, h.chg hG hC (fun b hb => hb) fun b hb => ?_⟩
  rcases hb with hb | hb | hb | hb
  · exact .inl (.inl hb)
  · exact .inl (.inr (.inl hb))
  · exact .inl (.inr (.inr (.inl hb)))
  · rcases sc_poll G x hb with hb | rfl
    · exact .inl (.inr (.inr (.inr hb)))
    · exact .inr hx
end
end Go.Proofs.YtefippjakkgjkaaDoor
