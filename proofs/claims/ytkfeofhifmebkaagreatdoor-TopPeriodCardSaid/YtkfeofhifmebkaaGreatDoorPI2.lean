/- The tops: a verified evaluator of the program (PI2). -/
import Derived.Test.YtkfeofhifmebkaaGreatDoorPI1
import Derived.Test.YtkfeofhifmebkaaGreatDoorPC
set_option maxRecDepth 100000
namespace Go.Ev
open Go Go.Proofs
noncomputable section
/-! check.Helper at each number -/
def tup3 (v : SV) : Bool := match v with
  | .tup [a, b, c] => match one1 a with
    | true => match one1 b with
      | true => one1 c
      | false => false
    | false => false
  | _ => false
def endB (b : Bool) (st : St) : R := match b with
  | true => .ok (.bool true, st)
  | false => .err "shape"
def hlOk (n : Nat) : Bool := isOkB (sf2.call 294 [.int .i64 (.lit (.ofNat n))] ⟨.leaf, 0⟩ fun v st => endB (tup3 v) st)
def envHi : Env := ⟨tyT, fnT, glob0f, intr2, rSym [] [⟨10, 17, 62⟩], fun _ _ _ => Option.none, simpleF, fun _ _ => Option.none⟩
def hlHi : Bool := isOkB ((selfN envHi 100000).call 294 [.int .i64 (.atom 10)] ⟨.leaf, 0⟩ fun v st => endB (tup3 v) st)
end
theorem hl_all : allP 17 (fun n => match n with
  | 0 => true
  | n => hlOk n) = true := by kernel_rfl
theorem hl_hi : hlHi = true := by kernel_rfl
end Go.Ev
