/- The tops: a verified evaluator of the program (DKa). -/
import Derived.Test.YtkfeofhifmebkaaGreatDoorDD
namespace Go.Ev
open Go Go.Proofs
theorem run_midF : isOkB (runCs (sfD 9 false) 5 [ddAt 0, ddAt 1, ddAt 2, ddAt 3, ddAt 4] dd0A ⟨.leaf, 0⟩ (finD dMR [] 0 [] dMA dMS)) = true := by kernel_rfl
end Go.Ev
namespace Go.Ev
open Go Go.Proofs
theorem run_midT : isOkB (runCs (sfD 9 true) 5 [ddAt 0, ddAt 1, ddAt 2, ddAt 3, ddAt 4] dd0A ⟨.leaf, 0⟩ (finD dMR [] 0 [] dMA dMS)) = true := by kernel_rfl
end Go.Ev
namespace Go.Ev
open Go Go.Proofs
theorem run_d0F : isOkB ((sfD 9 false).call 18 dG0 dA0S (finC dV0 dB0S)) = true := by kernel_rfl
end Go.Ev
namespace Go.Ev
open Go Go.Proofs
theorem run_d0T : isOkB ((sfD 9 true).call 18 dG0 dA0S (finC dV0 dB0S)) = true := by kernel_rfl
end Go.Ev
set_option maxRecDepth 100000
namespace Go.Ev
open Go Go.Proofs
noncomputable section
/-! TopDue: the loop's test, and the end -/
def awakeI : IX := ⟨fun args st k fb => match args with
  | [] => k (.bool true) st
  | _ => fb ()⟩
def rulesL (b1 b2 : Bool) : List Rl := match b1 with
  | true => [rl .lss .i64 (.atom 30) (.atom 35) (.b true), rl .lss .i64 (.atom 30) (.lit 40) (.b b2)]
  | false => [rl .lss .i64 (.atom 30) (.atom 35) (.b false)]
def intrX (f : FuncId) : Option IX := match f with
  | 12 => some awakeI
  | f => intr2 f
def envL (b1 b2 : Bool) : Env := ⟨tyT, fnT, glob0f, intrX, rSym (rulesL b1 b2) rngsD, rConv convsD rngsD, simpleF, rLog⟩
def sfL (b1 b2 : Bool) : Self := selfN (envL b1 b2) 1000000
def idR : Nat → List (Nat × Nat)
  | 0 => []
  | n + 1 => (n, n) :: idR n
def finL (aL : A) (sL : St) (a : A) (st : St) : R := mkT' (idR 100) .leaf fun r => finM ⟨r, r, [], fun _ => true, [(5000, [], 5000)]⟩ szP aL sL a st
def goOk (hA : A) (hS : St) : Bool := isOkB (runCs (sfL true true) 5 [dd18] hA hS (finL hA hS))
/-- the function's answer is true -/
def finV5 (nt : Nat) (ph : Env) (e : Ex) (a : A) (st : St) : R := match e with
  | .ret => closeK a.marks st fun st => (resultsC ph nt Tryz.f5.results.toList).run a st fun vs => match vs with
    | [v] => match v with
      | .bool b => match b with
        | true => .ok (.bool true, st)
        | false => .err "false"
      | _ => .err "answer"
    | _ => .err "answers"
  | _ => .err "no return"
def ddEnd : Code := ddTl 14
def exFin (b1 b2 : Bool) (e : Ex) (a : A) (st : St) : R := match e with
  | .exit j => match Nat.beq j 0 with
    | true => (sfL b1 b2).code 5 ddEnd Option.none a st (finV5 Tryz.f5.ntmps (envL b1 b2))
    | false => .err "exit"
  | _ => .err "no exit"
def exOk (b1 b2 : Bool) (hA : A) (hS : St) : Bool := isOkB ((sfL b1 b2).code 5 ddLoop Option.none hA hS (exFin b1 b2))
end
theorem go_nv : goOk hNvA hNvS = true := by kernel_rfl
theorem go_r0 : goOk hR0A hR0S = true := by kernel_rfl
theorem go_r1 : goOk hR1A hR1S = true := by kernel_rfl
theorem go_d0 : goOk hD0A hD0S = true := by kernel_rfl
theorem go_d1 : goOk hD1A hD1S = true := by kernel_rfl
theorem ex1_nv : exOk false true hNvA hNvS = true := by kernel_rfl
theorem ex1_r0 : exOk false true hR0A hR0S = true := by kernel_rfl
theorem ex1_r1 : exOk false true hR1A hR1S = true := by kernel_rfl
theorem ex1_d0 : exOk false true hD0A hD0S = true := by kernel_rfl
theorem ex1_d1 : exOk false true hD1A hD1S = true := by kernel_rfl
theorem ex2_nv : exOk true false hNvA hNvS = true := by kernel_rfl
theorem ex2_r0 : exOk true false hR0A hR0S = true := by kernel_rfl
theorem ex2_r1 : exOk true false hR1A hR1S = true := by kernel_rfl
theorem ex2_d0 : exOk true false hD0A hD0S = true := by kernel_rfl
theorem ex2_d1 : exOk true false hD1A hD1S = true := by kernel_rfl
end Go.Ev
