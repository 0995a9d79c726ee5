/- detentref01.Same: are two lists the same? -/
import Derived.Test.YtcggbfpangnllaaQuiet
namespace Go.Proofs.Ytcggbfpangnllaa
open Go.RowKit

def sameL (a b : List Int) : Bool := decide (a = b)
theorem sameL_self (a : List Int) : sameL a a = true := by simp [sameL]
end Go.Proofs.Ytcggbfpangnllaa
