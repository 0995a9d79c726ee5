/- A number, as a law takes it into a range. -/
import Derived.Test.YtefippjakkgjkaaDoorBase
namespace Go.Proofs.YtefippjakkgjkaaDoor
theorem wrap_mod (x m : Int) (hm : 0 < m) : ∃ k : Nat, (k : Int) < m ∧ (IntKind.u64.wrap x).tmod m = (k : Int) := by
  rw [IntKind.wrap_u64, Int.tmod_eq_emod_of_nonneg (by omega)]
  have h1 := Int.emod_nonneg (x % 18446744073709551616) (Int.ne_of_gt hm)
  have h2 := Int.emod_lt_of_pos (x % 18446744073709551616) hm
  exact ⟨((x % 18446744073709551616) % m).toNat, by omega, by omega⟩
end Go.Proofs.YtefippjakkgjkaaDoor
