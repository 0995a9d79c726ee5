/- Plain words for rings: what a row of places holds. -/
import Derived.Test.YtefippjakkgjkaaDoorMut
namespace Go.Proofs.YtefippjakkgjkaaDoor
open Go.RowKit
/-- The places from hd on, and around, hold xs. -/
def Holds (cs : List Value) (room hd : Nat) (xs : List Value) : Prop := ∀ i, i < xs.length → cs.getD ((hd + i) % room) undef = xs.getD i undef
/-- A sum below twice the room, around. -/
theorem mod_two (a room : Nat) (h : a < 2 * room) : a % room = a ∧ a < room ∨ a % room + room = a := by
  by_cases hlt : a < room
  · exact .inl ⟨Nat.mod_eq_of_lt hlt, hlt⟩
  · right
    rw [Nat.mod_eq_sub_mod (by omega), Nat.mod_eq_of_lt (by omega)]; omega
end Go.Proofs.YtefippjakkgjkaaDoor
