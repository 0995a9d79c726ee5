/- Regions that draw their order: a head of operations that only read (callees may draw), then a forced tail, walked as it stands; plain, and at the wide fence (in a round too). -/
import Derived.Test.YtkfeofhifmebkaaGreatDoorBase
import Derived.StillTail
import Derived.Deep.QuietTactic
import Derived.BigQuiet
import Derived.Deep.RegionWith
import Derived.OrdersIn
import Derived.OwnWalkIn
import Derived.TacticsInMore
import Derived.WalkSmall
import Derived.RangeFuncCalls
namespace Go.Proofs.YtkfeofhifmebkaaGreatDoor
open Go.RowKit

section
variable {P : Program} {ops : Array Oper} {md : Region.Mode} {C : World → Prop} {n : Nat}

/-! ### At the wide fence -/
end
/-! ### Regions whose operations read, and whose callees may make memory but leave what lay: worlds behind w -/
/-- A world in which all that lay in w lies as it lay. -/
structure After (w : World) where
  now : World
  keeps : Keeps w now
instance (w : World) : Nonempty (After w) := ⟨⟨w, Keeps.refl w⟩⟩
/-- .. at the draw of the region. -/
def After.drew (w : World) : After w := ⟨{ w with drawn := w.drawn + 1 }, Keeps.drew w⟩
section
variable {P : Program}
/-- A callee in such a region. -/
theorem After.call {f : FuncId} {args : Array Value} {w : World} {v : Value} (x : After w) (h : Calls P f args x.now fun e w' => e = .returned v ∧ Keeps x.now w') : Calls P f args x.now fun e w' => e = .returned v ∧ ∃ y : After w, w' = y.now :=
  h.mono fun _ w' ⟨he, hk⟩ => ⟨he, ⟨w', Keeps.trans x.keeps hk⟩, rfl⟩
theorem After.same {f : FuncId} {args : Array Value} {w : World} {v : Value} (x : After w) (h : Calls P f args x.now fun e w' => e = .returned v ∧ x.now = w') : Calls P f args x.now fun e w' => e = .returned v ∧ ∃ y : After w, w' = y.now :=
  h.mono fun _ _ ⟨he, hk⟩ => ⟨he, x, hk.symm⟩
/-- A cell, in each world behind. -/
theorem After.cell {w : World} {b o : Nat} {v : Value} (h : w.cell? ⟨b, o, none⟩ = some v) : ∀ x : After w, x.now.cell? ⟨b, o, none⟩ = some v := fun x => (x.keeps.cell (p := ⟨b, o, none⟩) (cell_lt h)).trans h
end
end Go.Proofs.YtkfeofhifmebkaaGreatDoor
