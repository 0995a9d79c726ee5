/- GraceEnds, GraceBarrier: what their walks keep in memory. -/
import Derived.Test.YtefippjakkgjkaaDoorEndN
import Derived.Test.YtefippjakkgjkaaDoorInsC
namespace Go.Proofs.YtefippjakkgjkaaDoor
open Go.RowKit

/-- What holds while GraceEnds or GraceBarrier goes. -/
structure EI (w : World) (g sp p rb cap : Nat) (pp bb : Nat → Nat) (xb : Nat) (G : GSt) (f : Nat → Int) (W : World) : Prop where
  at' : GraceAt W g sp p rb cap 4 pp bb G
  hx : Blk W xb 29 (arr 129 f)
  nx : ¬ GF g sp p rb 4 pp bb G.sc xb
  new : ∀ b, GF g sp p rb 4 pp bb G.sc b → w.heap.size ≤ b
  st : w.heap.size ≤ xb
  keeps : Keeps w W
section
variable {w W W' : World} {g sp p rb cap : Nat} {pp bb : Nat → Nat} {xb : Nat} {G G' : GSt} {f : Nat → Int}
theorem EI.kept (h : EI w g sp p rb cap pp bb xb G f W) (hk : Keeps W W') : EI w g sp p rb cap pp bb xb G f W' :=
  ⟨h.at'.keeps hk, h.hx.keeps hk, h.nx, h.new, h.st, Keeps.trans h.keeps hk⟩
theorem EI.ins (h : EI w g sp p rb cap pp bb xb G (xf G.S) W) : InsAt W g sp p rb cap 4 pp bb xb G := ⟨h.at', h.hx, h.nx⟩
theorem EI.chg {D : Nat → Prop} {f' : Nat → Int} (h : EI w g sp p rb cap pp bb xb G f W) (ha : GraceAt W' g sp p rb cap 4 pp bb G') (hx : Blk W' xb 29 (arr 129 f')) (hc : Chg D W W') (hD : ∀ b, D b → b = xb ∨ GF g sp p rb 4 pp bb G.sc b) (hn : ∀ b, GF g sp p rb 4 pp bb G'.sc b → GF g sp p rb 4 pp bb G.sc b ∨ W.heap.size ≤ b) : EI w g sp p rb cap pp bb xb G' f' W' := by
  have hxl := h.hx.lt
  refine ⟨ha, hx, fun hb => (hn xb hb).elim h.nx (fun hl => by omega), fun b hb => (hn b hb).elim (h.new b) (fun hl => Nat.le_trans h.keeps.size hl), h.st, Chg.keeps hc h.keeps fun b hb hd => ?_⟩
  rcases hD b hd with e | e
  · have := h.st; omega
  · have := h.new b e; omega
theorem EI.chg0 {D : Nat → Prop} (h : EI w g sp p rb cap pp bb xb G f W) (ha : GraceAt W' g sp p rb cap 4 pp bb G') (hc : Chg D W W') (hD : ∀ b, D b → GF g sp p rb 4 pp bb G.sc b) (hn : ∀ b, GF g sp p rb 4 pp bb G'.sc b → GF g sp p rb 4 pp bb G.sc b ∨ W.heap.size ≤ b) : EI w g sp p rb cap pp bb xb G' f W' :=
  h.chg ha (h.hx.chg hc fun hb => h.nx (hD xb hb)) hc (fun b hb => .inr (hD b hb)) hn
theorem EI.setX (h : EI w g sp p rb cap pp bb xb G f W) (k : Nat) (v : Int) : EI w g sp p rb cap pp bb xb G (upd f k v) (W.setCell ⟨xb, k, none⟩ (.int .i64 v)) := by
  have hc : Chg (· = xb) W (W.setCell ⟨xb, k, none⟩ (.int .i64 v)) := Chg.setCell _ _ rfl
  exact h.chg (h.at'.chg hc fun b hb e => h.nx (e ▸ hb)) (arr_upd h.hx k v) hc (fun b e => .inl e) fun b hb => .inl hb
theorem EI.enter (h : EI w g sp p rb cap pp bb xb G (xf G.S) W) (hst : G.S.st + 1 < 1000000) (r : Int) : ∃ k : Nat, k < 64 ∧
    Calls Tryd.prog 9 #[.pointer (some ⟨xb, 0, none⟩), .pointer (some ⟨g, 0, none⟩), .int .i64 r] W fun e w' => ∃ v, e = .returned v ∧ EI w g sp p rb cap pp bb xb { G with S := G.S.ent (k : Int) } (xf (G.S.ent (k : Int))) w' := by
  obtain ⟨k, hk, hr⟩ := rdr_nat r
  refine ⟨k, hk, (xenter_any h.ins hst r k hk hr).mono ?_⟩
  rintro e w' ⟨v, rfl, hi, hc⟩
  exact ⟨v, rfl, h.chg hi.at' hi.hx hc (fun b hb => hb.elim (fun e => .inr (.inr (.inl e))) .inl) (fun b hb => .inl hb)⟩
theorem EI.exit (h : EI w g sp p rb cap pp bb xb G (xf G.S) W) (r : Int) : ∃ k : Nat, k < 64 ∧
    Calls Tryd.prog 10 #[.pointer (some ⟨xb, 0, none⟩), .pointer (some ⟨g, 0, none⟩), .int .i64 r] W fun e w' => ∃ v, e = .returned v ∧ EI w g sp p rb cap pp bb xb { G with S := G.S.exi (k : Int) } (xf (G.S.exi (k : Int))) w' := by
  obtain ⟨k, hk, hr⟩ := rdr_nat r
  refine ⟨k, hk, (xexit_any h.ins r k hk hr).mono ?_⟩
  rintro e w' ⟨v, rfl, hi, hc⟩
  exact ⟨v, rfl, h.chg hi.at' hi.hx hc (fun b hb => hb.elim (fun e => .inr (.inr (.inl e))) .inl) (fun b hb => .inl hb)⟩
/-- Exit of the grace alone. -/
theorem EI.gexit (h : EI w g sp p rb cap pp bb xb G f W) (r : Int) : Calls Tryd.prog 18 #[.pointer (some ⟨g, 0, none⟩), .int .i64 r] W fun e w' => e = .returned (.tuple #[.bool (G.S.exiB r), .int .i64 (G.S.exiE r)]) ∧ EI w g sp p rb cap pp bb xb { G with S := G.S.exi r } f w' := by
  refine (gexit_any h.at' r).mono ?_
  rintro e w' ⟨rfl, hG, hC⟩
  exact ⟨rfl, h.chg0 hG hC (fun b e => .inr (.inl e)) (fun b hb => .inl hb)⟩
theorem EI.call (h : EI w g sp p rb cap pp bb xb G f W) (c : Nat) (hc : c < 4) (id : Int) (sb : Nat) (hsb : sb = W.heap.size) :
    Calls Tryd.prog 11 #[.pointer (some ⟨g, 0, none⟩), .int .i64 c, .slice (some ⟨sb, 0, none⟩) 1 1] (W.alloc (.cells #[.int .i64 id] 3)) fun e w' => e = .returned (.int .i64 (if 1 ≤ 64 - (G.R.getD c []).length then 0 else 3)) ∧ EI w g sp p rb cap pp bb xb { G with R := G.R.set c (K.addR (G.R.getD c []) [id]) } f w' := by
  have hfl := h.at'.calls.foot_lt
  have hk := h.kept (Keeps.alloc W (.cells #[.int .i64 id] 3))
  refine (gcall_any hk.at' c hc (.slice (some ⟨sb, 0, none⟩) 1 1) [id] (ints_at W 3 [id] sb hsb (by simp [maxLen])) (fun b hb _ hf => ?_)).mono ?_
  · simp only [Value.ownBlock, Option.some.injEq] at hb; have := hfl b hf; omega
  · rintro e w' ⟨rfl, hG, hC⟩
    exact ⟨rfl, hk.chg0 hG hC (fun b e => .inr (.inr (.inl e))) (fun b hb => .inl hb)⟩
theorem EI.ticket (h : EI w g sp p rb cap pp bb xb G f W) (h0 : 0 ≤ G.began) (h1 : G.began < 1000000000) :
    Calls Tryd.prog 12 #[.pointer (some ⟨g, 0, none⟩)] W fun e w' => e = .returned (.int .i64 (G.began + 1)) ∧ EI w g sp p rb cap pp bb xb { G with want := G.began + 1 } f w' := by
  refine (gticket_any h.at' h0 h1).mono ?_
  rintro e w' ⟨rfl, hG, hC⟩
  exact ⟨rfl, h.chg0 hG hC (fun b e => .inl e) (fun b hb => .inl hb)⟩
theorem EI.poll (h : EI w g sp p rb cap pp bb xb G f W) (hT : TabAt w) (h0 : 0 ≤ G.began) (h1 : G.began < 1000000000) (hl : G.last ≤ G.began) (hn : G.lookS.2.length ≤ 100000) : Calls Tryd.prog 14 #[.pointer (some ⟨g, 0, none⟩)] W fun e w' => ∃ q cap2 x, e = .returned (.slice q G.lookS.2.length cap2) ∧
    Ints w' (.slice q G.lookS.2.length cap2) G.lookS.2 ∧ EI w g sp p rb cap pp bb xb (G.lookS.1.begS x) f w' := by
  refine (gpoll_any h.at' (hT.keeps h.keeps) h0 h1 hl hn).mono ?_
  rintro e w' ⟨v, x, rfl, hv, hG, hx, hC⟩
  have hn : ∀ b, GF g sp p rb 4 pp bb (G.lookS.1.begS x).sc b → GF g sp p rb 4 pp bb G.sc b ∨ W.heap.size ≤ b := fun b hb => by
    rcases hb with hb | hb | hb | hb
    · exact .inl (.inl hb)
    · exact .inl (.inr (.inl hb))
    · exact .inl (.inr (.inr (.inl hb)))
    · rcases sc_poll G x hb with hb | rfl
      · exact .inl (.inr (.inr (.inr hb)))
      · exact .inr hx
  have hI : Ints w' v G.lookS.2 := slc_of_row hv
  obtain ⟨q, cap2, rfl, _, _, _⟩ := hI.open
  exact ⟨q, cap2, x, rfl, hI, h.chg0 hG hC (fun b hb => hb) hn⟩
end
theorem EI.start {w W : World} {g sp p rb cap : Nat} {pp bb : Nat → Nat} (h : GI w g sp p rb cap 4 pp bb (.new 4) W) (b1 : Nat) (e1 : b1 = W.heap.size) :
    EI w g sp p rb cap pp bb b1 (.new 4) (xf (GSt.new 4).S) (W.alloc (.cells (arr 129 fun _ => 0).toArray 29)) := by
  subst e1
  have hs := h.keeps.size
  have hf := h.at'.lt
  have k1 := Keeps.alloc W (.cells (arr 129 fun _ => 0).toArray 29)
  have bA := Blk.new W 29 (arr 129 fun _ => 0)
  have hx : arr 129 (fun _ => 0) = arr 129 (xf (GSt.new 4).S) := by
    refine xf_ext (fun k _ => ?_) (fun k _ => ?_) rfl
    · show (0 : Int) = (SSt.init.dep k : Int); rw [SSt.init_dep]; rfl
    · show (0 : Int) = (SSt.init.sin k : Int); rw [SSt.init_sin]; rfl
  rw [hx] at bA
  rw [← hx] at bA
  exact ⟨h.at'.keeps k1, hx ▸ bA, fun hh => by have := hf _ hh; omega, h.new, hs, Keeps.trans h.keeps k1⟩
end Go.Proofs.YtefippjakkgjkaaDoor
