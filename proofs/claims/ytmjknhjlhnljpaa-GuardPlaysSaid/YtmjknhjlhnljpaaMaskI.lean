/- The walks of package mask's iterator, and of what goes over it. -/
import Derived.Test.YtmjknhjlhnljpaaMaskA
import Derived.Test.YtmjknhjlhnljpaaIter
namespace Go.Proofs.Ytmjknhjlhnljpaa
open Go.RowKit Go.Shelf

attribute [local go_sem] Oper.semAt_some

def geB (i : Int) (k : Nat) : Bool := decide (i ≤ (k : Int))

theorem infoInt : (Try.prog.info? 3).map (fun i => (i.zero, i.size, i.bytes)) = some (some (.int .i64 0), 1, 8) := by kernel_rfl
/-- A list of small numbers as integers. -/
def natInts (l : List Nat) : List Value := l.map fun (k : Nat) => Value.int .i64 (k : Int)
theorem natInts_len (l : List Nat) : (natInts l).length = l.length := by simp [natInts]

end Go.Proofs.Ytmjknhjlhnljpaa
