/- The tops: a verified evaluator of the program (KR3). -/
import Derived.Test.YtkfeofhifmebkaaGreatDoorKR0
set_option maxRecDepth 100000
namespace Go.Ev
open Go Go.Proofs
noncomputable section
/-! what comes ahead of the loop, and behind it (Run11 prints the names) -/
def zer : Nat → Nat → List (SInt × SInt)
  | _, 0 => []
  | s, n + 1 => (.lit 0, .atom s) :: zer (Nat.succ s) n
def proC : List Code := [hdC (cpAt 0), hdC (cpAt 1), hdC (cpAt 2), hdC (cpAt 3), hdC (cpAt 4), hdC (cpAt 5), hdC (cpAt 6), hdC (cpAt 7), hdC (cpAt 8), hdC (cpAt 9), hdC (hdC (cpAt 10))]
def a00 (sl : Bool) : A := ⟨.mk (.bool sl) (.int .i64 (.atom 1)) (.top (.atom 35)) undefS undefS undefS undefS undefS :: List.replicate 33 u8, []⟩
def proR : List (Nat × Nat) := [(0, 52), (1, 51), (2, 50), (3, 23), (4, 1630), (5, 49), (6, 47), (7, 2833), (8, 2811), (9, 21), (10, 29), (11, 36), (12, 43), (13, 45), (14, 22), (15, 1629), (16, 48), (17, 46), (18, 2810), (19, 0), (20, 5), (21, 24), (22, 35), (23, 30), (24, 42), (25, 37), (26, 44), (27, 2807), (28, 2809), (29, 4), (30, 20), (31, 28), (32, 34), (33, 41), (34, 2), (35, 19), (36, 26), (37, 32), (38, 39), (39, 1), (40, 18), (41, 25), (42, 31), (43, 38)]
def csN : Cs := csCh Option.none Option.none Option.none Option.none Option.none
def okPro (sl : Bool) (k : Nat) : Bool := isOkB (runCs (sfC csN 0 9 99) 6 proC (a00 sl) ⟨.leaf, 0⟩ (finR proR ((.lit 0, .atom 3) :: (.lit 2, .atom 5000) :: (zer 10 4 ++ zer 100 64)) true true [(0, 2, 5000)] (stA k) (stS k)))
def okFin (k : Nat) : Bool :=
  isOkB ((sfC csN 0 9 99).code 6 cpEnd Option.none (stA k) (stS k) fun e a st => match e with
    | .ret => closeK a.marks st fun st => (resultsC (envC csN 0 9 99) 268 Tryz.f6.results.toList).run a st fun vs => match vs with
      | [v] => finT v st
      | _ => .err "results"
    | _ => .err "exit")
end
end Go.Ev
