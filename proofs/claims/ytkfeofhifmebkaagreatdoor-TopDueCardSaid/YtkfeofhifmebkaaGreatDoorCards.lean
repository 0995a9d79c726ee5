/-
  DERIVED. GIVEN WITH THE SEED: THE CARDS: each row of YtkfeofhifmebkaaGreatDoorRows.lean that lists a variable, with what it lists TIED to the program's text (the seventh form; the later family's looks); each row that meets fmt, with fmt's text TOLD by the authors' own Lean function (tested against real Go, not proved from fmt's source: count such statements apart). THE CARD IS WHAT COUNTS. Prove the row's statement (the work); the ties are given (YtkfeofhifmebkaaGreatDoorTie.lean); close each card by the builder's one call (the guide's Derived/Test/ToyasCard.lean, 'card_holds'). Laid BY PROGRAM, IN A SANDBOX (cutbox-door.mjs). By AI agents, Wed Nov 11 2026. No macro, syntax, notation, axiom, sorry.
-/
import Derived.Test.YtkfeofhifmebkaaGreatDoorRows
import GoSem.ClaimSeven
namespace Go.Proofs.YtkfeofhifmebkaaGreatDoor
namespace Rows

/-- THE TIED CARD OF 'detenttop.TopOnce'. -/
def topOnceCard : Claim7 := { stood := { row := topOnceRow, standIns := [], harness := (true, "a2ec47c819b6da53cc1b81f0fe894fed2767ed52d09fd3ba60ecbc2059d2dfda"), looks := false }, kinds := [], alts := [], laidByText := true, laidKinds := [.data, .data, .listed, .data, .data], laidTests := true, laidLooks := .later }
def TopOnceCardSaid : Prop := Claim7.holds Tryz.pinned (.plain (OpenSpec.ofChange topOnceSpec)) topOnceCard

/-- THE TIED CARD OF 'detenttop.TopPeriod'. -/
def topPeriodCard : Claim7 := { stood := { row := topPeriodRow, standIns := [], harness := (true, "a2ec47c819b6da53cc1b81f0fe894fed2767ed52d09fd3ba60ecbc2059d2dfda"), looks := false }, kinds := [], alts := [], laidByText := true, laidKinds := [.data, .data, .listed, .data, .data], laidTests := true, laidLooks := .later }
def TopPeriodCardSaid : Prop := Claim7.holds Tryz.pinned (.plain (OpenSpec.ofChange topPeriodSpec)) topPeriodCard

/-- THE TIED CARD OF 'detenttop.TopDue'. -/
def topDueCard : Claim7 := { stood := { row := topDueRow, standIns := [], harness := (true, "a2ec47c819b6da53cc1b81f0fe894fed2767ed52d09fd3ba60ecbc2059d2dfda"), looks := false }, kinds := [], alts := [], laidByText := true, laidKinds := [.data, .data, .listed, .data, .data], laidTests := true, laidLooks := .later }
def TopDueCardSaid : Prop := Claim7.holds Tryz.pinned (.plain (OpenSpec.ofChange topDueSpec)) topDueCard

/-- THE TIED CARD OF 'detenttop.TopCopies'. -/
def topCopiesCard : Claim7 := { stood := { row := topCopiesRow, standIns := [], harness := (true, "a2ec47c819b6da53cc1b81f0fe894fed2767ed52d09fd3ba60ecbc2059d2dfda"), looks := false }, kinds := [], alts := [], laidByText := true, laidKinds := [.data, .data, .listed, .data, .data], laidTests := true, laidLooks := .later }
def TopCopiesCardSaid : Prop := Claim7.holds Tryz.pinned (.plain (OpenSpec.ofChange topCopiesSpec)) topCopiesCard

/-- THE SECOND FORM's CARD OF 'detenttop.TopOnce'. -/
def topOnceUptoCard : Claim7 := { stood := { row := topOnceUptoRow, standIns := [], harness := (true, "a2ec47c819b6da53cc1b81f0fe894fed2767ed52d09fd3ba60ecbc2059d2dfda"), looks := false }, kinds := [], alts := [], laidByText := true, laidKinds := [.data, .data, .listed, .data, .data], laidTests := true, laidLooks := .later }
def TopOnceUptoCardSaid : Prop := Claim7.holds Tryz.pinned (.plain (OpenSpec.upto topOnceSpec)) topOnceUptoCard

/-- THE SECOND FORM's CARD OF 'detenttop.TopPeriod'. -/
def topPeriodUptoCard : Claim7 := { stood := { row := topPeriodUptoRow, standIns := [], harness := (true, "a2ec47c819b6da53cc1b81f0fe894fed2767ed52d09fd3ba60ecbc2059d2dfda"), looks := false }, kinds := [], alts := [], laidByText := true, laidKinds := [.data, .data, .listed, .data, .data], laidTests := true, laidLooks := .later }
def TopPeriodUptoCardSaid : Prop := Claim7.holds Tryz.pinned (.plain (OpenSpec.upto topPeriodSpec)) topPeriodUptoCard

/-- THE SECOND FORM's CARD OF 'detenttop.TopDue'. -/
def topDueUptoCard : Claim7 := { stood := { row := topDueUptoRow, standIns := [], harness := (true, "a2ec47c819b6da53cc1b81f0fe894fed2767ed52d09fd3ba60ecbc2059d2dfda"), looks := false }, kinds := [], alts := [], laidByText := true, laidKinds := [.data, .data, .listed, .data, .data], laidTests := true, laidLooks := .later }
def TopDueUptoCardSaid : Prop := Claim7.holds Tryz.pinned (.plain (OpenSpec.upto topDueSpec)) topDueUptoCard

/-- THE SECOND FORM's CARD OF 'detenttop.TopCopies'. -/
def topCopiesUptoCard : Claim7 := { stood := { row := topCopiesUptoRow, standIns := [], harness := (true, "a2ec47c819b6da53cc1b81f0fe894fed2767ed52d09fd3ba60ecbc2059d2dfda"), looks := false }, kinds := [], alts := [], laidByText := true, laidKinds := [.data, .data, .listed, .data, .data], laidTests := true, laidLooks := .later }
def TopCopiesUptoCardSaid : Prop := Claim7.holds Tryz.pinned (.plain (OpenSpec.upto topCopiesSpec)) topCopiesUptoCard
end Rows
end Go.Proofs.YtkfeofhifmebkaaGreatDoor
