/-
  NARROWER THAN 'FOR EVERY INPUT', by the rows' own cells (each row's printed sentence says how): GraceHolds: laid · GraceEnds: laid · GraceBarrier: laid · GracePlays: laid · GraceNil: laid.
  DERIVED. THE GIVEN ROWS OF THIS SEAT. 5 by the template 'for every input the law returns true; each argument reads behind the call as it read before'; 0 by the template 'total and deterministic' (their statements: YtefippjakkgjkaaDoorTotals.lean).
  GIVEN WITH THE SEED: the statements are not yours to turn. If you find one false, say at which input.
  Laid BY PROGRAM, IN A SANDBOX (cutbox-rows.mjs): the forced cells as the released guide's own fill.sh prints them over the translation 1700ab8cb33b8410… (all of the seat's roots in one cut). By AI agents, Wed Nov 11 2026. No macro, syntax, notation, axiom, sorry.
-/
import Derived.Test.YtefippjakkgjkaaDoorChecked
import GoSem.Claim
import GoSem.ClaimJoined
import GoSem.ClaimMapViews
import Derived.JoinedTies
import Derived.KernelRfl
namespace Go.Proofs.YtefippjakkgjkaaDoor
/- THE CELL 'sum', in the pinned program and in every row, IS THE sha256 OF THE DUMP (.gsa) THAT YtefippjakkgjkaaDoorProg.lean LOADS. Nothing in Lean hashes anything: it is a label: what it is worth is what the hold of that sum in a sandbox is worth. -/
noncomputable def Tryd.pinned : Pinned := { name := "ytefippjakkgjkaadoor", sum := "1700ab8cb33b8410d72c3d6956b27deb20571ec7fe6db5155e95cac61871b261", checked := Tryd.checked }
namespace Rows
def none {H : Type} : Left H := { results := [], args := [] }

/- WHAT THE LISTED PACKAGE-LEVEL VARIABLES READ AS WHEN THE CALL BEGINS. Each datum BY PROGRAM (the guide's laid-datum.mjs) off the statement by which the dump's own 'gosem.cut.vars' lays the variable. In a bare row this is a premise. The card (YtefippjakkgjkaaDoorCards.lean) ties it to the program's text. -/
def laid_math_bits_deBruijn64tab {H : Type} : DataW H := .agg [.lit (.int .u8 0), .lit (.int .u8 1), .lit (.int .u8 56), .lit (.int .u8 2), .lit (.int .u8 57), .lit (.int .u8 49), .lit (.int .u8 28), .lit (.int .u8 3), .lit (.int .u8 61), .lit (.int .u8 58), .lit (.int .u8 42), .lit (.int .u8 50), .lit (.int .u8 38), .lit (.int .u8 29), .lit (.int .u8 17), .lit (.int .u8 4), .lit (.int .u8 62), .lit (.int .u8 47), .lit (.int .u8 59), .lit (.int .u8 36), .lit (.int .u8 45), .lit (.int .u8 43), .lit (.int .u8 51), .lit (.int .u8 22), .lit (.int .u8 53), .lit (.int .u8 39), .lit (.int .u8 33), .lit (.int .u8 30), .lit (.int .u8 24), .lit (.int .u8 18), .lit (.int .u8 12), .lit (.int .u8 5), .lit (.int .u8 63), .lit (.int .u8 55), .lit (.int .u8 48), .lit (.int .u8 27), .lit (.int .u8 60), .lit (.int .u8 41), .lit (.int .u8 37), .lit (.int .u8 16), .lit (.int .u8 46), .lit (.int .u8 35), .lit (.int .u8 44), .lit (.int .u8 21), .lit (.int .u8 52), .lit (.int .u8 32), .lit (.int .u8 23), .lit (.int .u8 11), .lit (.int .u8 54), .lit (.int .u8 26), .lit (.int .u8 40), .lit (.int .u8 15), .lit (.int .u8 34), .lit (.int .u8 20), .lit (.int .u8 31), .lit (.int .u8 10), .lit (.int .u8 25), .lit (.int .u8 14), .lit (.int .u8 19), .lit (.int .u8 9), .lit (.int .u8 13), .lit (.int .u8 8), .lit (.int .u8 7), .lit (.int .u8 6)]

/-- 'detentlaw12.GraceHolds': WHATEVER THE INPUT: true; the input reads as it did. -/
def graceHoldsSpec : ChangeSpec := { name := "graceHolds", fn := fun _ => fun
  | [d] => { results := [.lit (.bool true)], args := [d] }
  | _ => none }
def graceHoldsRow : OpenClaim := { program := "ytefippjakkgjkaadoor", sum := "1700ab8cb33b8410d72c3d6956b27deb20571ec7fe6db5155e95cac61871b261", func := "detent/detentlaw12.GraceHolds", spec := "graceHolds", unfollowed := true, recurses := true, named := ["math/bits.deBruijn64tab"], apart := false, laid := [("math/bits.deBruijn64tab", laid_math_bits_deBruijn64tab)] }
def GraceHoldsSaid : Prop := graceHoldsRow.holds Tryd.pinned (OpenSpec.ofChange graceHoldsSpec)

/-- ITS FALSE NEIGHBOUR: 'it returns false'. Refute it at one input. -/
def graceHoldsWrong : ChangeSpec := { name := "graceHolds", fn := fun _ => fun
  | [d] => { results := [.lit (.bool false)], args := [d] }
  | _ => none }
def GraceHoldsWrongFalsely : Prop := graceHoldsRow.holds Tryd.pinned (OpenSpec.ofChange graceHoldsWrong)

/-- 'detentlaw12.GraceEnds': WHATEVER THE INPUT: true; the input reads as it did. -/
def graceEndsSpec : ChangeSpec := { name := "graceEnds", fn := fun _ => fun
  | [d] => { results := [.lit (.bool true)], args := [d] }
  | _ => none }
def graceEndsRow : OpenClaim := { program := "ytefippjakkgjkaadoor", sum := "1700ab8cb33b8410d72c3d6956b27deb20571ec7fe6db5155e95cac61871b261", func := "detent/detentlaw12.GraceEnds", spec := "graceEnds", unfollowed := true, recurses := true, named := ["math/bits.deBruijn64tab"], apart := false, laid := [("math/bits.deBruijn64tab", laid_math_bits_deBruijn64tab)] }
def GraceEndsSaid : Prop := graceEndsRow.holds Tryd.pinned (OpenSpec.ofChange graceEndsSpec)

/-- ITS FALSE NEIGHBOUR: 'it returns false'. Refute it at one input. -/
def graceEndsWrong : ChangeSpec := { name := "graceEnds", fn := fun _ => fun
  | [d] => { results := [.lit (.bool false)], args := [d] }
  | _ => none }
def GraceEndsWrongFalsely : Prop := graceEndsRow.holds Tryd.pinned (OpenSpec.ofChange graceEndsWrong)

/-- 'detentlaw12.GraceBarrier': WHATEVER THE INPUT: true; the input reads as it did. -/
def graceBarrierSpec : ChangeSpec := { name := "graceBarrier", fn := fun _ => fun
  | [d1, d2] => { results := [.lit (.bool true)], args := [d1, d2] }
  | _ => none }
def graceBarrierRow : OpenClaim := { program := "ytefippjakkgjkaadoor", sum := "1700ab8cb33b8410d72c3d6956b27deb20571ec7fe6db5155e95cac61871b261", func := "detent/detentlaw12.GraceBarrier", spec := "graceBarrier", unfollowed := true, recurses := true, named := ["math/bits.deBruijn64tab"], apart := false, laid := [("math/bits.deBruijn64tab", laid_math_bits_deBruijn64tab)] }
def GraceBarrierSaid : Prop := graceBarrierRow.holds Tryd.pinned (OpenSpec.ofChange graceBarrierSpec)

/-- ITS FALSE NEIGHBOUR: 'it returns false'. Refute it at one input. -/
def graceBarrierWrong : ChangeSpec := { name := "graceBarrier", fn := fun _ => fun
  | [d1, d2] => { results := [.lit (.bool false)], args := [d1, d2] }
  | _ => none }
def GraceBarrierWrongFalsely : Prop := graceBarrierRow.holds Tryd.pinned (OpenSpec.ofChange graceBarrierWrong)

/-- 'detentlaw12.GracePlays': WHATEVER THE INPUT: true; the input reads as it did. -/
def gracePlaysSpec : ChangeSpec := { name := "gracePlays", fn := fun _ => fun
  | [d1, d2, d3] => { results := [.lit (.bool true)], args := [d1, d2, d3] }
  | _ => none }
def gracePlaysRow : OpenClaim := { program := "ytefippjakkgjkaadoor", sum := "1700ab8cb33b8410d72c3d6956b27deb20571ec7fe6db5155e95cac61871b261", func := "detent/detentlaw12.GracePlays", spec := "gracePlays", unfollowed := true, recurses := true, named := ["math/bits.deBruijn64tab"], apart := false, laid := [("math/bits.deBruijn64tab", laid_math_bits_deBruijn64tab)] }
def GracePlaysSaid : Prop := gracePlaysRow.holds Tryd.pinned (OpenSpec.ofChange gracePlaysSpec)

/-- ITS FALSE NEIGHBOUR: 'it returns false'. Refute it at one input. -/
def gracePlaysWrong : ChangeSpec := { name := "gracePlays", fn := fun _ => fun
  | [d1, d2, d3] => { results := [.lit (.bool false)], args := [d1, d2, d3] }
  | _ => none }
def GracePlaysWrongFalsely : Prop := gracePlaysRow.holds Tryd.pinned (OpenSpec.ofChange gracePlaysWrong)

/-- 'detentlaw12.GraceNil': WHATEVER THE INPUT: true; the input reads as it did. -/
def graceNilSpec : ChangeSpec := { name := "graceNil", fn := fun _ => fun
  | [d1, d2] => { results := [.lit (.bool true)], args := [d1, d2] }
  | _ => none }
def graceNilRow : OpenClaim := { program := "ytefippjakkgjkaadoor", sum := "1700ab8cb33b8410d72c3d6956b27deb20571ec7fe6db5155e95cac61871b261", func := "detent/detentlaw12.GraceNil", spec := "graceNil", unfollowed := true, recurses := true, named := ["math/bits.deBruijn64tab"], apart := false, laid := [("math/bits.deBruijn64tab", laid_math_bits_deBruijn64tab)] }
def GraceNilSaid : Prop := graceNilRow.holds Tryd.pinned (OpenSpec.ofChange graceNilSpec)

/-- ITS FALSE NEIGHBOUR: 'it returns false'. Refute it at one input. -/
def graceNilWrong : ChangeSpec := { name := "graceNil", fn := fun _ => fun
  | [d1, d2] => { results := [.lit (.bool false)], args := [d1, d2] }
  | _ => none }
def GraceNilWrongFalsely : Prop := graceNilRow.holds Tryd.pinned (OpenSpec.ofChange graceNilWrong)

/- THE SECOND FORM. 'bulk': how many values and letters a reading holds, each counted each time it is reached (what is shared counts as often as it is met; a slice's spare places count too). A statement '..UptoSaid' is the law's where the arguments, and the package variables that the reading takes, are together of bulk at most 1048576: NARROWER than '..Said'. Prove '..Said' where nothing that the law and all that it calls make is longer than what came in: it says more and counts as full. Else prove '..UptoSaid'. A law counts once. -/
mutual
def uptoBulk {H : Type} : DataW H → Nat
  | .lit (.string bytes) => bytes.length + 1
  | .lit _ => 1
  | .nil => 1
  | .ptr d => uptoBulk d + 1
  | .slice elems spare => uptoBulkAll elems + uptoBulkAll spare + 1
  | .agg parts => uptoBulkAll parts + 1
  | .iface _ d => uptoBulk d + 1
  | .map entries => uptoBulkEntries entries + 1
  | .held _ => 1
def uptoBulkAll {H : Type} : List (DataW H) → Nat
  | [] => 0
  | d :: r => uptoBulk d + uptoBulkAll r
def uptoBulkEntries {H : Type} : List (Lit × DataW H) → Nat
  | [] => 0
  | x :: r => uptoBulkEntry x + uptoBulkEntries r
def uptoBulkEntry {H : Type} : Lit × DataW H → Nat
  | (.string bytes, d) => bytes.length + uptoBulk d + 1
  | (_, d) => uptoBulk d + 1
 end
def uptoSmall : (H : Type) → List (DataW H) → Bool := fun _ ds => decide (uptoBulkAll ds ≤ 1048576)
def OpenSpec.upto (s : _root_.Go.ChangeSpec) : _root_.Go.OpenSpec := { _root_.Go.OpenSpec.ofChange s with cond := some uptoSmall }

/-- 'detentlaw12.GraceHolds', WHERE WHAT IT READS IS OF BULK AT MOST 1048576: true; the input reads as it did. -/
def graceHoldsUptoRow : OpenClaim := { program := "ytefippjakkgjkaadoor", sum := "1700ab8cb33b8410d72c3d6956b27deb20571ec7fe6db5155e95cac61871b261", func := "detent/detentlaw12.GraceHolds", spec := "graceHolds", unfollowed := true, recurses := true, named := ["math/bits.deBruijn64tab"], apart := false, laid := [("math/bits.deBruijn64tab", laid_math_bits_deBruijn64tab)], narrowed := true }
def GraceHoldsUptoSaid : Prop := graceHoldsUptoRow.holds Tryd.pinned (OpenSpec.upto graceHoldsSpec)

/-- 'detentlaw12.GraceEnds', WHERE WHAT IT READS IS OF BULK AT MOST 1048576: true; the input reads as it did. -/
def graceEndsUptoRow : OpenClaim := { program := "ytefippjakkgjkaadoor", sum := "1700ab8cb33b8410d72c3d6956b27deb20571ec7fe6db5155e95cac61871b261", func := "detent/detentlaw12.GraceEnds", spec := "graceEnds", unfollowed := true, recurses := true, named := ["math/bits.deBruijn64tab"], apart := false, laid := [("math/bits.deBruijn64tab", laid_math_bits_deBruijn64tab)], narrowed := true }
def GraceEndsUptoSaid : Prop := graceEndsUptoRow.holds Tryd.pinned (OpenSpec.upto graceEndsSpec)

/-- 'detentlaw12.GraceBarrier', WHERE WHAT IT READS IS OF BULK AT MOST 1048576: true; the input reads as it did. -/
def graceBarrierUptoRow : OpenClaim := { program := "ytefippjakkgjkaadoor", sum := "1700ab8cb33b8410d72c3d6956b27deb20571ec7fe6db5155e95cac61871b261", func := "detent/detentlaw12.GraceBarrier", spec := "graceBarrier", unfollowed := true, recurses := true, named := ["math/bits.deBruijn64tab"], apart := false, laid := [("math/bits.deBruijn64tab", laid_math_bits_deBruijn64tab)], narrowed := true }
def GraceBarrierUptoSaid : Prop := graceBarrierUptoRow.holds Tryd.pinned (OpenSpec.upto graceBarrierSpec)

/-- 'detentlaw12.GracePlays', WHERE WHAT IT READS IS OF BULK AT MOST 1048576: true; the input reads as it did. -/
def gracePlaysUptoRow : OpenClaim := { program := "ytefippjakkgjkaadoor", sum := "1700ab8cb33b8410d72c3d6956b27deb20571ec7fe6db5155e95cac61871b261", func := "detent/detentlaw12.GracePlays", spec := "gracePlays", unfollowed := true, recurses := true, named := ["math/bits.deBruijn64tab"], apart := false, laid := [("math/bits.deBruijn64tab", laid_math_bits_deBruijn64tab)], narrowed := true }
def GracePlaysUptoSaid : Prop := gracePlaysUptoRow.holds Tryd.pinned (OpenSpec.upto gracePlaysSpec)

/-- 'detentlaw12.GraceNil', WHERE WHAT IT READS IS OF BULK AT MOST 1048576: true; the input reads as it did. -/
def graceNilUptoRow : OpenClaim := { program := "ytefippjakkgjkaadoor", sum := "1700ab8cb33b8410d72c3d6956b27deb20571ec7fe6db5155e95cac61871b261", func := "detent/detentlaw12.GraceNil", spec := "graceNil", unfollowed := true, recurses := true, named := ["math/bits.deBruijn64tab"], apart := false, laid := [("math/bits.deBruijn64tab", laid_math_bits_deBruijn64tab)], narrowed := true }
def GraceNilUptoSaid : Prop := graceNilUptoRow.holds Tryd.pinned (OpenSpec.upto graceNilSpec)

end Rows
end Go.Proofs.YtefippjakkgjkaaDoor
