/- More on rows of structs: made, and set. -/
import Derived.Test.YtkfeofhifmebkaaGreatDoorStr
namespace Go.Proofs.YtkfeofhifmebkaaGreatDoor
open Go.RowKit

theorem Blk.cellK {W : World} {b : Nat} {t : TypeId} {cs : List Value} (h : Blk W b t cs) {k : Nat} {v : Value} (hk : cs[k]? = some v) : W.cell? ⟨b, k, none⟩ = some v := by
  obtain ⟨h1, h2⟩ := List.getElem?_eq_some_iff.1 hk
  rw [h.cell k h1, h2]
end Go.Proofs.YtkfeofhifmebkaaGreatDoor
