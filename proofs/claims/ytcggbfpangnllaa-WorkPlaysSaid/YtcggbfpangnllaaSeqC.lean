/- Regions that draw, over a class of worlds given by its facts. -/
import Derived.Test.YtcggbfpangnllaaSeq
namespace Go.Proofs.Ytcggbfpangnllaa
open Go.RowKit

/-- A world of which C holds. -/
structure WorldIn (C : World → Prop) where
  now : World
  ok : C now
section
variable {P : Program}
/-- The law of calls in a region, the class being the worlds of which C0 holds. -/
theorem region_seqC {id : Nat} {Q : Exit → Act → World → Prop} {a : Act} {w : World} {l : List Oper} (S : List Nat) (C0 : World → Prop) (hm : P.follows .mixedOrders = true) (hB : (Region.lexB .any l.toArray && chainS .any l.toArray S) = true) (hC : C0 w.drew)
    (h : wpSeq P l.toArray (fun w' => ∃ x : WorldIn C0, w' = x.now) S (Q .normal) 0 l a w.drew) : (Code.region id l.toArray true).wp P Q a w :=
  region_seq S _ hm hB ⟨⟨_, hC⟩, rfl⟩ h
theorem seq_onC {C0 : World → Prop} {K : Act → World → Prop} {a : Act} {w : World} (h : C0 w) (k : K a w) : onNormal (fun a' w' => (∃ x : WorldIn C0, w' = x.now) ∧ K a' w') .normal a w := ⟨⟨⟨w, h⟩, rfl⟩, k⟩
end
end Go.Proofs.Ytcggbfpangnllaa
