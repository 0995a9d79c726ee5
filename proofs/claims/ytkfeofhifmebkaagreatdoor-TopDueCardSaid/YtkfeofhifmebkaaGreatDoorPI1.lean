/- The tops: a verified evaluator of the program (PI1). -/
import Derived.Test.YtkfeofhifmebkaaGreatDoorKA
set_option maxRecDepth 100000
namespace Go.Ev
open Go Go.Proofs
noncomputable section
/-! mask.Around of one number, at each of them -/
def arSym (s : Nat) (b : Bool) (op : BinOp) (kk : IntKind) (x : SInt) (jj : IntKind) (y : SInt) : Option SV := match op with
  | .geq => match eqK2 kk jj with
   | false => none
   | true => match y with
    | .atom i => match Nat.beq i 1 with
      | true => match x with
        | .lit n => match eqI n (.ofNat s) with
          | true => some (.bool b)
          | false => none
        | .atom _ => none
      | false => none
    | .lit _ => none
  | _ => none
def envAr (s : Nat) (b : Bool) : Env := ⟨tyT, fnT, glob0f, fun _ => Option.none, arSym s b, fun _ _ _ => Option.none, simpleF, fun _ _ => Option.none⟩
def arOk (s : Nat) (b : Bool) : Bool := isOkB ((selfN (envAr s b) 100000).call 399 [.int .u64 (.lit (.ofNat (2 ^ s))), .int .i64 (.atom 1)] ⟨.leaf, 0⟩ fun v st => match beqSV v (.tup [.int .i64 (.lit (.ofNat s)), .bool true]) with
  | true => .ok (.bool true, st)
  | false => .err "around")
def arZ : Bool := isOkB (sf2.call 399 [.int .u64 (.lit 0), .int .i64 (.atom 1)] ⟨.leaf, 0⟩ fun v st => match beqSV v (.tup [.int .i64 (.lit 0), .bool false]) with
  | true => .ok (.bool true, st)
  | false => .err "around")
def allP : Nat → (Nat → Bool) → Bool
  | 0, _ => true
  | n + 1, f => match f n with
    | true => allP n f
    | false => false
end
theorem ar_z : arZ = true := by kernel_rfl
theorem ar_all : allP 64 (fun s => match arOk s true with
  | true => arOk s false
  | false => false) = true := by kernel_rfl
end Go.Ev
