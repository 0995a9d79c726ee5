/- CallsPlays: what holds while the law goes. -/
import Derived.Test.YtllnncojafcdoaaLaw11c
import Derived.Test.YtllnncojafcdoaaPlay11M
import Derived.Test.YtllnncojafcdoaaRowG
import Derived.Deep.DeepCutAuto
namespace Go.Proofs.Ytllnncojafcdoaa
open Go.RowKit RgC

/-- The lists, and the document's in the block M. -/
structure PI (w : World) (p rb cap n : Nat) (pp bb : Nat → Nat) (M : Nat) (last : Int) (L : List C3) (v : Value) (W : World) : Prop where
  li : LI w p rb cap n pp bb last (ringsL n L) W
  bm : Blk W M 41 (lsC n last v)
  cs : Cs3 W v L
  fit : Fit n last L
  new : w.heap.size ≤ M
  nf : ¬ Foot p rb n pp bb M
  sep : ∀ b, v.ownBlock = some b → b ≠ M ∧ ¬ Foot p rb n pp bb b
section
variable {w W W2 W3 W4 : World} {p rb cap n : Nat} {pp bb : Nat → Nat} {M : Nat} {last last2 : Int} {L L2 : List C3} {v v2 : Value}
theorem PI.kept (h : PI w p rb cap n pp bb M last L v W) (hk : Keeps W W2) : PI w p rb cap n pp bb M last L v W2 :=
  ⟨h.li.kept hk, h.bm.keeps hk, h.cs.keeps hk, h.fit, h.new, h.nf, h.sep⟩
theorem Cs3.one (h : Cs3 W v L) : v.oneCell' = true := by obtain ⟨_, _, rfl, _⟩ := h; rfl
theorem PI.next (h : PI w p rb cap n pp bb M last L v W) (hk : Keeps W W2) (hc : Cs3 W2 v2 L2) (hf : FreshV W v2 ∨ v2 = v) (hli : LI w p rb cap n pp bb last2 (ringsL n L2) W3) (hC : Chg (Foot p rb n pp bb) W2 W3) (hk3 : Keeps W3 W4) (fit : Fit n last2 L2) :
    PI w p rb cap n pp bb M last2 L2 v2 (W4.setRow M (lsC n last2 v2).toArray) := by
  have hsep : ∀ b, v2.ownBlock = some b → b ≠ M ∧ ¬ Foot p rb n pp bb b := by
    rcases hf with hf | rfl
    · intro b hb
      have h1 := hf b hb
      have h2 := h.bm.lt
      exact ⟨by omega, fun hF => by have := h.li.at'.foot_lt b hF; omega⟩
    · exact h.sep
  have hM : Chg (fun x => x = M) W4 (W4.setRow M (lsC n last2 v2).toArray) := Chg.setRow _ rfl
  have hl4 := hli.kept hk3
  have hc3 : Cs3 W3 v2 L2 := SlcS.chg hc hC (fun b hb => (hsep b hb).2)
  refine ⟨⟨hl4.at'.chg hM (fun x hx e => h.nf (e ▸ hx)), hl4.new, Chg.keeps hM hl4.keeps (fun x hx e => by have := h.new; omega)⟩, ?_, ?_, fit, h.new, h.nf, hsep⟩
  · exact (((h.bm.keeps hk).chg hC h.nf).keeps hk3).setRow _
  · exact SlcS.chg (hc3.keeps hk3) hM (fun b hb => (hsep b hb).1)
end
end Go.Proofs.Ytllnncojafcdoaa
