/-
  No cell of these rows narrows 'for every input' (looked for: loops, veiled, ifaces, maps, wideKeys, modest, calm, conditions, laid).
  DERIVED. THE GIVEN ROWS OF THIS SEAT. 5 by the template 'for every input the law returns true; each argument reads behind the call as it read before'; 0 by the template 'total and deterministic' (their statements: YtcggbfpangnllaaTotals.lean).
  GIVEN WITH THE SEED: the statements are not yours to turn. If you find one false, say at which input.
  Laid BY PROGRAM, IN A SANDBOX (cutbox-rows.mjs): the forced cells as the released guide's own fill.sh prints them over the translation 33e764b52a65de58… (all of the seat's roots in one cut). By AI agents, Wed Nov 11 2026. No macro, syntax, notation, axiom, sorry.
-/
import Derived.Test.YtcggbfpangnllaaChecked
import GoSem.Claim
import GoSem.ClaimJoined
import GoSem.ClaimMapViews
import Derived.JoinedTies
import Derived.KernelRfl
namespace Go.Proofs.Ytcggbfpangnllaa
/- THE CELL 'sum', in the pinned program and in every row, IS THE sha256 OF THE DUMP (.gsa) THAT YtcggbfpangnllaaProg.lean LOADS. Nothing in Lean hashes anything: it is a label: what it is worth is what the hold of that sum in a sandbox is worth. -/
noncomputable def Try.pinned : Pinned := { name := "ytcggbfpangnllaa", sum := "33e764b52a65de584357c0d98a970a38a323ee32ed14cb35d8ee4051663d8b53", checked := Try.checked }
namespace Rows
def none {H : Type} : Left H := { results := [], args := [] }

/-- 'detentlaw27.WorkOrder': WHATEVER THE INPUT: true; the input reads as it did. -/
def workOrderSpec : ChangeSpec := { name := "workOrder", fn := fun _ => fun
  | [d1, d2] => { results := [.lit (.bool true)], args := [d1, d2] }
  | _ => none }
def workOrderRow : OpenClaim := { program := "ytcggbfpangnllaa", sum := "33e764b52a65de584357c0d98a970a38a323ee32ed14cb35d8ee4051663d8b53", func := "detent/detentlaw27.WorkOrder", spec := "workOrder", unfollowed := true, recurses := true, apart := false }
def WorkOrderSaid : Prop := workOrderRow.holds Try.pinned (OpenSpec.ofChange workOrderSpec)

/-- ITS FALSE NEIGHBOUR: 'it returns false'. Refute it at one input. -/
def workOrderWrong : ChangeSpec := { name := "workOrder", fn := fun _ => fun
  | [d1, d2] => { results := [.lit (.bool false)], args := [d1, d2] }
  | _ => none }
def WorkOrderWrongFalsely : Prop := workOrderRow.holds Try.pinned (OpenSpec.ofChange workOrderWrong)

/-- 'detentlaw27.WorkOnce': WHATEVER THE INPUT: true; the input reads as it did. -/
def workOnceSpec : ChangeSpec := { name := "workOnce", fn := fun _ => fun
  | [d] => { results := [.lit (.bool true)], args := [d] }
  | _ => none }
def workOnceRow : OpenClaim := { program := "ytcggbfpangnllaa", sum := "33e764b52a65de584357c0d98a970a38a323ee32ed14cb35d8ee4051663d8b53", func := "detent/detentlaw27.WorkOnce", spec := "workOnce", unfollowed := true, recurses := true, apart := false }
def WorkOnceSaid : Prop := workOnceRow.holds Try.pinned (OpenSpec.ofChange workOnceSpec)

/-- ITS FALSE NEIGHBOUR: 'it returns false'. Refute it at one input. -/
def workOnceWrong : ChangeSpec := { name := "workOnce", fn := fun _ => fun
  | [d] => { results := [.lit (.bool false)], args := [d] }
  | _ => none }
def WorkOnceWrongFalsely : Prop := workOnceRow.holds Try.pinned (OpenSpec.ofChange workOnceWrong)

/-- 'detentlaw27.WorkCloses': WHATEVER THE INPUT: true; the input reads as it did. -/
def workClosesSpec : ChangeSpec := { name := "workCloses", fn := fun _ => fun
  | [d1, d2] => { results := [.lit (.bool true)], args := [d1, d2] }
  | _ => none }
def workClosesRow : OpenClaim := { program := "ytcggbfpangnllaa", sum := "33e764b52a65de584357c0d98a970a38a323ee32ed14cb35d8ee4051663d8b53", func := "detent/detentlaw27.WorkCloses", spec := "workCloses", unfollowed := true, recurses := true, apart := false }
def WorkClosesSaid : Prop := workClosesRow.holds Try.pinned (OpenSpec.ofChange workClosesSpec)

/-- ITS FALSE NEIGHBOUR: 'it returns false'. Refute it at one input. -/
def workClosesWrong : ChangeSpec := { name := "workCloses", fn := fun _ => fun
  | [d1, d2] => { results := [.lit (.bool false)], args := [d1, d2] }
  | _ => none }
def WorkClosesWrongFalsely : Prop := workClosesRow.holds Try.pinned (OpenSpec.ofChange workClosesWrong)

/-- 'detentlaw27.WorkPlays': WHATEVER THE INPUT: true; the input reads as it did. -/
def workPlaysSpec : ChangeSpec := { name := "workPlays", fn := fun _ => fun
  | [d1, d2] => { results := [.lit (.bool true)], args := [d1, d2] }
  | _ => none }
def workPlaysRow : OpenClaim := { program := "ytcggbfpangnllaa", sum := "33e764b52a65de584357c0d98a970a38a323ee32ed14cb35d8ee4051663d8b53", func := "detent/detentlaw27.WorkPlays", spec := "workPlays", unfollowed := true, recurses := true, apart := false }
def WorkPlaysSaid : Prop := workPlaysRow.holds Try.pinned (OpenSpec.ofChange workPlaysSpec)

/-- ITS FALSE NEIGHBOUR: 'it returns false'. Refute it at one input. -/
def workPlaysWrong : ChangeSpec := { name := "workPlays", fn := fun _ => fun
  | [d1, d2] => { results := [.lit (.bool false)], args := [d1, d2] }
  | _ => none }
def WorkPlaysWrongFalsely : Prop := workPlaysRow.holds Try.pinned (OpenSpec.ofChange workPlaysWrong)

/-- 'detentlaw27.WorkNil': WHATEVER THE INPUT: true; the input reads as it did. -/
def workNilSpec : ChangeSpec := { name := "workNil", fn := fun _ => fun
  | [d1, d2] => { results := [.lit (.bool true)], args := [d1, d2] }
  | _ => none }
def workNilRow : OpenClaim := { program := "ytcggbfpangnllaa", sum := "33e764b52a65de584357c0d98a970a38a323ee32ed14cb35d8ee4051663d8b53", func := "detent/detentlaw27.WorkNil", spec := "workNil", unfollowed := true, recurses := true, apart := false }
def WorkNilSaid : Prop := workNilRow.holds Try.pinned (OpenSpec.ofChange workNilSpec)

/-- ITS FALSE NEIGHBOUR: 'it returns false'. Refute it at one input. -/
def workNilWrong : ChangeSpec := { name := "workNil", fn := fun _ => fun
  | [d1, d2] => { results := [.lit (.bool false)], args := [d1, d2] }
  | _ => none }
def WorkNilWrongFalsely : Prop := workNilRow.holds Try.pinned (OpenSpec.ofChange workNilWrong)

/- THE SECOND FORM. 'bulk': how many values and letters a reading holds, each counted each time it is reached (what is shared counts as often as it is met; a slice's spare places count too). A statement '..UptoSaid' is the law's where the arguments, and the package variables that the reading takes, are together of bulk at most 1048576: NARROWER than '..Said'. Prove '..Said' where nothing that the law and all that it calls make is longer than what came in: it says more and counts as full. Else prove '..UptoSaid'. A law counts once. -/
mutual
def uptoBulk {H : Type} : DataW H → Nat
  | .lit (.string bytes) => bytes.length + 1
  | .lit _ => 1
  | .nil => 1
  | .ptr d => uptoBulk d + 1
  | .slice elems spare => uptoBulkAll elems + uptoBulkAll spare + 1
  | .agg parts => uptoBulkAll parts + 1
  | .iface _ d => uptoBulk d + 1
  | .map entries => uptoBulkEntries entries + 1
  | .held _ => 1
def uptoBulkAll {H : Type} : List (DataW H) → Nat
  | [] => 0
  | d :: r => uptoBulk d + uptoBulkAll r
def uptoBulkEntries {H : Type} : List (Lit × DataW H) → Nat
  | [] => 0
  | x :: r => uptoBulkEntry x + uptoBulkEntries r
def uptoBulkEntry {H : Type} : Lit × DataW H → Nat
  | (.string bytes, d) => bytes.length + uptoBulk d + 1
  | (_, d) => uptoBulk d + 1
 end
def uptoSmall : (H : Type) → List (DataW H) → Bool := fun _ ds => decide (uptoBulkAll ds ≤ 1048576)
def OpenSpec.upto (s : _root_.Go.ChangeSpec) : _root_.Go.OpenSpec := { _root_.Go.OpenSpec.ofChange s with cond := some uptoSmall }

/-- 'detentlaw27.WorkOrder', WHERE WHAT IT READS IS OF BULK AT MOST 1048576: true; the input reads as it did. -/
def workOrderUptoRow : OpenClaim := { program := "ytcggbfpangnllaa", sum := "33e764b52a65de584357c0d98a970a38a323ee32ed14cb35d8ee4051663d8b53", func := "detent/detentlaw27.WorkOrder", spec := "workOrder", unfollowed := true, recurses := true, apart := false, narrowed := true }
def WorkOrderUptoSaid : Prop := workOrderUptoRow.holds Try.pinned (OpenSpec.upto workOrderSpec)

/-- 'detentlaw27.WorkOnce', WHERE WHAT IT READS IS OF BULK AT MOST 1048576: true; the input reads as it did. -/
def workOnceUptoRow : OpenClaim := { program := "ytcggbfpangnllaa", sum := "33e764b52a65de584357c0d98a970a38a323ee32ed14cb35d8ee4051663d8b53", func := "detent/detentlaw27.WorkOnce", spec := "workOnce", unfollowed := true, recurses := true, apart := false, narrowed := true }
def WorkOnceUptoSaid : Prop := workOnceUptoRow.holds Try.pinned (OpenSpec.upto workOnceSpec)

/-- 'detentlaw27.WorkCloses', WHERE WHAT IT READS IS OF BULK AT MOST 1048576: true; the input reads as it did. -/
def workClosesUptoRow : OpenClaim := { program := "ytcggbfpangnllaa", sum := "33e764b52a65de584357c0d98a970a38a323ee32ed14cb35d8ee4051663d8b53", func := "detent/detentlaw27.WorkCloses", spec := "workCloses", unfollowed := true, recurses := true, apart := false, narrowed := true }
def WorkClosesUptoSaid : Prop := workClosesUptoRow.holds Try.pinned (OpenSpec.upto workClosesSpec)

/-- 'detentlaw27.WorkPlays', WHERE WHAT IT READS IS OF BULK AT MOST 1048576: true; the input reads as it did. -/
def workPlaysUptoRow : OpenClaim := { program := "ytcggbfpangnllaa", sum := "33e764b52a65de584357c0d98a970a38a323ee32ed14cb35d8ee4051663d8b53", func := "detent/detentlaw27.WorkPlays", spec := "workPlays", unfollowed := true, recurses := true, apart := false, narrowed := true }
def WorkPlaysUptoSaid : Prop := workPlaysUptoRow.holds Try.pinned (OpenSpec.upto workPlaysSpec)

/-- 'detentlaw27.WorkNil', WHERE WHAT IT READS IS OF BULK AT MOST 1048576: true; the input reads as it did. -/
def workNilUptoRow : OpenClaim := { program := "ytcggbfpangnllaa", sum := "33e764b52a65de584357c0d98a970a38a323ee32ed14cb35d8ee4051663d8b53", func := "detent/detentlaw27.WorkNil", spec := "workNil", unfollowed := true, recurses := true, apart := false, narrowed := true }
def WorkNilUptoSaid : Prop := workNilUptoRow.holds Try.pinned (OpenSpec.upto workNilSpec)

end Rows
end Go.Proofs.Ytcggbfpangnllaa
