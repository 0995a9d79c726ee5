/-
  No cell of these rows narrows 'for every input' (looked for: loops, veiled, ifaces, maps, wideKeys, modest, calm, conditions, laid).
  DERIVED. THE GIVEN ROWS OF THIS SEAT. 4 by the template 'for every input the law returns true; each argument reads behind the call as it read before'; 0 by the template 'total and deterministic' (their statements: YtlihpmfponkmjaaTotals.lean).
  GIVEN WITH THE SEED: the statements are not yours to turn. If you find one false, say at which input.
  Laid BY PROGRAM, IN A SANDBOX (cutbox-rows.mjs): the forced cells as the released guide's own fill.sh prints them over the translation f25aa12133a07587… (all of the seat's roots in one cut). By AI agents, Wed Nov 11 2026. No macro, syntax, notation, axiom, sorry.
-/
import Derived.Test.YtlihpmfponkmjaaChecked
import GoSem.Claim
import GoSem.ClaimJoined
import GoSem.ClaimMapViews
import Derived.JoinedTies
import Derived.KernelRfl
namespace Go.Proofs.Ytlihpmfponkmjaa
/- THE CELL 'sum', in the pinned program and in every row, IS THE sha256 OF THE DUMP (.gsa) THAT YtlihpmfponkmjaaProg.lean LOADS. Nothing in Lean hashes anything: it is a label: what it is worth is what the hold of that sum in a sandbox is worth. -/
noncomputable def Try.pinned : Pinned := { name := "ytlihpmfponkmjaa", sum := "f25aa12133a07587d1e99472eb14538c84da736260f1ffd235dfb5054b27be86", checked := Try.checked }
namespace Rows
def none {H : Type} : Left H := { results := [], args := [] }

/-- 'detentlaw25.PendOnce': WHATEVER THE INPUT: true; the input reads as it did. -/
def pendOnceSpec : ChangeSpec := { name := "pendOnce", fn := fun _ => fun
  | [d] => { results := [.lit (.bool true)], args := [d] }
  | _ => none }
def pendOnceRow : OpenClaim := { program := "ytlihpmfponkmjaa", sum := "f25aa12133a07587d1e99472eb14538c84da736260f1ffd235dfb5054b27be86", func := "detent/detentlaw25.PendOnce", spec := "pendOnce", unfollowed := true, recurses := true, apart := false }
def PendOnceSaid : Prop := pendOnceRow.holds Try.pinned (OpenSpec.ofChange pendOnceSpec)

/-- ITS FALSE NEIGHBOUR: 'it returns false'. Refute it at one input. -/
def pendOnceWrong : ChangeSpec := { name := "pendOnce", fn := fun _ => fun
  | [d] => { results := [.lit (.bool false)], args := [d] }
  | _ => none }
def PendOnceWrongFalsely : Prop := pendOnceRow.holds Try.pinned (OpenSpec.ofChange pendOnceWrong)

/-- 'detentlaw25.PendOrder': WHATEVER THE INPUT: true; the input reads as it did. -/
def pendOrderSpec : ChangeSpec := { name := "pendOrder", fn := fun _ => fun
  | [d1, d2, d3, d4] => { results := [.lit (.bool true)], args := [d1, d2, d3, d4] }
  | _ => none }
def pendOrderRow : OpenClaim := { program := "ytlihpmfponkmjaa", sum := "f25aa12133a07587d1e99472eb14538c84da736260f1ffd235dfb5054b27be86", func := "detent/detentlaw25.PendOrder", spec := "pendOrder", unfollowed := true, recurses := true, apart := false }
def PendOrderSaid : Prop := pendOrderRow.holds Try.pinned (OpenSpec.ofChange pendOrderSpec)

/-- ITS FALSE NEIGHBOUR: 'it returns false'. Refute it at one input. -/
def pendOrderWrong : ChangeSpec := { name := "pendOrder", fn := fun _ => fun
  | [d1, d2, d3, d4] => { results := [.lit (.bool false)], args := [d1, d2, d3, d4] }
  | _ => none }
def PendOrderWrongFalsely : Prop := pendOrderRow.holds Try.pinned (OpenSpec.ofChange pendOrderWrong)

/-- 'detentlaw25.PendPlays': WHATEVER THE INPUT: true; the input reads as it did. -/
def pendPlaysSpec : ChangeSpec := { name := "pendPlays", fn := fun _ => fun
  | [d1, d2] => { results := [.lit (.bool true)], args := [d1, d2] }
  | _ => none }
def pendPlaysRow : OpenClaim := { program := "ytlihpmfponkmjaa", sum := "f25aa12133a07587d1e99472eb14538c84da736260f1ffd235dfb5054b27be86", func := "detent/detentlaw25.PendPlays", spec := "pendPlays", unfollowed := true, recurses := true, apart := false }
def PendPlaysSaid : Prop := pendPlaysRow.holds Try.pinned (OpenSpec.ofChange pendPlaysSpec)

/-- ITS FALSE NEIGHBOUR: 'it returns false'. Refute it at one input. -/
def pendPlaysWrong : ChangeSpec := { name := "pendPlays", fn := fun _ => fun
  | [d1, d2] => { results := [.lit (.bool false)], args := [d1, d2] }
  | _ => none }
def PendPlaysWrongFalsely : Prop := pendPlaysRow.holds Try.pinned (OpenSpec.ofChange pendPlaysWrong)

/-- 'detentlaw25.PendNil': WHATEVER THE INPUT: true; the input reads as it did. -/
def pendNilSpec : ChangeSpec := { name := "pendNil", fn := fun _ => fun
  | [d1, d2] => { results := [.lit (.bool true)], args := [d1, d2] }
  | _ => none }
def pendNilRow : OpenClaim := { program := "ytlihpmfponkmjaa", sum := "f25aa12133a07587d1e99472eb14538c84da736260f1ffd235dfb5054b27be86", func := "detent/detentlaw25.PendNil", spec := "pendNil", unfollowed := true, recurses := true, apart := false }
def PendNilSaid : Prop := pendNilRow.holds Try.pinned (OpenSpec.ofChange pendNilSpec)

/-- ITS FALSE NEIGHBOUR: 'it returns false'. Refute it at one input. -/
def pendNilWrong : ChangeSpec := { name := "pendNil", fn := fun _ => fun
  | [d1, d2] => { results := [.lit (.bool false)], args := [d1, d2] }
  | _ => none }
def PendNilWrongFalsely : Prop := pendNilRow.holds Try.pinned (OpenSpec.ofChange pendNilWrong)

/- THE SECOND FORM. 'bulk': how many values and letters a reading holds, each counted each time it is reached (what is shared counts as often as it is met; a slice's spare places count too). A statement '..UptoSaid' is the law's where the arguments, and the package variables that the reading takes, are together of bulk at most 1048576: NARROWER than '..Said'. Prove '..Said' where nothing that the law and all that it calls make is longer than what came in: it says more and counts as full. Else prove '..UptoSaid'. A law counts once. -/
mutual
def uptoBulk {H : Type} : DataW H → Nat
  | .lit (.string bytes) => bytes.length + 1
  | .lit _ => 1
  | .nil => 1
  | .ptr d => uptoBulk d + 1
  | .slice elems spare => uptoBulkAll elems + uptoBulkAll spare + 1
  | .agg parts => uptoBulkAll parts + 1
  | .iface _ d => uptoBulk d + 1
  | .map entries => uptoBulkEntries entries + 1
  | .held _ => 1
def uptoBulkAll {H : Type} : List (DataW H) → Nat
  | [] => 0
  | d :: r => uptoBulk d + uptoBulkAll r
def uptoBulkEntries {H : Type} : List (Lit × DataW H) → Nat
  | [] => 0
  | x :: r => uptoBulkEntry x + uptoBulkEntries r
def uptoBulkEntry {H : Type} : Lit × DataW H → Nat
  | (.string bytes, d) => bytes.length + uptoBulk d + 1
  | (_, d) => uptoBulk d + 1
 end
def uptoSmall : (H : Type) → List (DataW H) → Bool := fun _ ds => decide (uptoBulkAll ds ≤ 1048576)
def OpenSpec.upto (s : _root_.Go.ChangeSpec) : _root_.Go.OpenSpec := { _root_.Go.OpenSpec.ofChange s with cond := some uptoSmall }

/-- 'detentlaw25.PendOnce', WHERE WHAT IT READS IS OF BULK AT MOST 1048576: true; the input reads as it did. -/
def pendOnceUptoRow : OpenClaim := { program := "ytlihpmfponkmjaa", sum := "f25aa12133a07587d1e99472eb14538c84da736260f1ffd235dfb5054b27be86", func := "detent/detentlaw25.PendOnce", spec := "pendOnce", unfollowed := true, recurses := true, apart := false, narrowed := true }
def PendOnceUptoSaid : Prop := pendOnceUptoRow.holds Try.pinned (OpenSpec.upto pendOnceSpec)

/-- 'detentlaw25.PendOrder', WHERE WHAT IT READS IS OF BULK AT MOST 1048576: true; the input reads as it did. -/
def pendOrderUptoRow : OpenClaim := { program := "ytlihpmfponkmjaa", sum := "f25aa12133a07587d1e99472eb14538c84da736260f1ffd235dfb5054b27be86", func := "detent/detentlaw25.PendOrder", spec := "pendOrder", unfollowed := true, recurses := true, apart := false, narrowed := true }
def PendOrderUptoSaid : Prop := pendOrderUptoRow.holds Try.pinned (OpenSpec.upto pendOrderSpec)

/-- 'detentlaw25.PendPlays', WHERE WHAT IT READS IS OF BULK AT MOST 1048576: true; the input reads as it did. -/
def pendPlaysUptoRow : OpenClaim := { program := "ytlihpmfponkmjaa", sum := "f25aa12133a07587d1e99472eb14538c84da736260f1ffd235dfb5054b27be86", func := "detent/detentlaw25.PendPlays", spec := "pendPlays", unfollowed := true, recurses := true, apart := false, narrowed := true }
def PendPlaysUptoSaid : Prop := pendPlaysUptoRow.holds Try.pinned (OpenSpec.upto pendPlaysSpec)

/-- 'detentlaw25.PendNil', WHERE WHAT IT READS IS OF BULK AT MOST 1048576: true; the input reads as it did. -/
def pendNilUptoRow : OpenClaim := { program := "ytlihpmfponkmjaa", sum := "f25aa12133a07587d1e99472eb14538c84da736260f1ffd235dfb5054b27be86", func := "detent/detentlaw25.PendNil", spec := "pendNil", unfollowed := true, recurses := true, apart := false, narrowed := true }
def PendNilUptoSaid : Prop := pendNilUptoRow.holds Try.pinned (OpenSpec.upto pendNilSpec)

end Rows
end Go.Proofs.Ytlihpmfponkmjaa
