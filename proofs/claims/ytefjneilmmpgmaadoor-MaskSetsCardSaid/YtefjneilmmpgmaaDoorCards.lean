/-
  DERIVED. GIVEN WITH THE SEED: THE CARDS: each row of YtefjneilmmpgmaaDoorRows.lean that lists a variable, with what it lists TIED to the program's text (the seventh form; the later family's looks); each row that meets fmt, with fmt's text TOLD by the authors' own Lean function (tested against real Go, not proved from fmt's source: count such statements apart). THE CARD IS WHAT COUNTS. Prove the row's statement (the work); the ties are given (YtefjneilmmpgmaaDoorTie.lean); close each card by the builder's one call (the guide's Derived/Test/ToyasCard.lean, 'card_holds'). Laid BY PROGRAM, IN A SANDBOX (cutbox-door.mjs). By AI agents, Wed Nov 11 2026. No macro, syntax, notation, axiom, sorry.
-/
import Derived.Test.YtefjneilmmpgmaaDoorRows
import GoSem.ClaimSeven
namespace Go.Proofs.YtefjneilmmpgmaaDoor
namespace Rows

/-- THE TIED CARD OF 'detentlaw01.MaskNext'. -/
def maskNextCard : Claim7 := { stood := { row := maskNextRow, standIns := [], harness := (true, "193ee794c0c056bf092dd10ccb00d7364bbfcc60b9e12de52458be6118056127"), looks := false }, kinds := [], alts := [], laidByText := true, laidKinds := [.data], laidTests := true, laidLooks := .later }
def MaskNextCardSaid : Prop := Claim7.holds Tryd.pinned (.plain (OpenSpec.ofChange maskNextSpec)) maskNextCard

/-- THE TIED CARD OF 'detentlaw01.MaskMakes'. -/
def maskMakesCard : Claim7 := { stood := { row := maskMakesRow, standIns := [], harness := (true, "193ee794c0c056bf092dd10ccb00d7364bbfcc60b9e12de52458be6118056127"), looks := false }, kinds := [], alts := [], laidByText := true, laidKinds := [.data], laidTests := true, laidLooks := .later }
def MaskMakesCardSaid : Prop := Claim7.holds Tryd.pinned (.plain (OpenSpec.ofChange maskMakesSpec)) maskMakesCard

/-- THE TIED CARD OF 'detentlaw01.MaskTurns'. -/
def maskTurnsCard : Claim7 := { stood := { row := maskTurnsRow, standIns := [], harness := (true, "193ee794c0c056bf092dd10ccb00d7364bbfcc60b9e12de52458be6118056127"), looks := false }, kinds := [], alts := [], laidByText := true, laidKinds := [.data], laidTests := true, laidLooks := .later }
def MaskTurnsCardSaid : Prop := Claim7.holds Tryd.pinned (.plain (OpenSpec.ofChange maskTurnsSpec)) maskTurnsCard

/-- THE TIED CARD OF 'detentlaw01.MaskWalks'. -/
def maskWalksCard : Claim7 := { stood := { row := maskWalksRow, standIns := [], harness := (true, "193ee794c0c056bf092dd10ccb00d7364bbfcc60b9e12de52458be6118056127"), looks := false }, kinds := [], alts := [], laidByText := true, laidKinds := [.data], laidTests := true, laidLooks := .later }
def MaskWalksCardSaid : Prop := Claim7.holds Tryd.pinned (.plain (OpenSpec.ofChange maskWalksSpec)) maskWalksCard

/-- THE TIED CARD OF 'detentlaw01.MaskFair'. -/
def maskFairCard : Claim7 := { stood := { row := maskFairRow, standIns := [], harness := (true, "193ee794c0c056bf092dd10ccb00d7364bbfcc60b9e12de52458be6118056127"), looks := false }, kinds := [], alts := [], laidByText := true, laidKinds := [.data], laidTests := true, laidLooks := .later }
def MaskFairCardSaid : Prop := Claim7.holds Tryd.pinned (.plain (OpenSpec.ofChange maskFairSpec)) maskFairCard

/-- THE TIED CARD OF 'detentlaw01.MaskSets'. -/
def maskSetsCard : Claim7 := { stood := { row := maskSetsRow, standIns := [], harness := (true, "193ee794c0c056bf092dd10ccb00d7364bbfcc60b9e12de52458be6118056127"), looks := false }, kinds := [], alts := [], laidByText := true, laidKinds := [.data], laidTests := true, laidLooks := .later }
def MaskSetsCardSaid : Prop := Claim7.holds Tryd.pinned (.plain (OpenSpec.ofChange maskSetsSpec)) maskSetsCard

/-- THE SECOND FORM's CARD OF 'detentlaw01.MaskNext'. -/
def maskNextUptoCard : Claim7 := { stood := { row := maskNextUptoRow, standIns := [], harness := (true, "193ee794c0c056bf092dd10ccb00d7364bbfcc60b9e12de52458be6118056127"), looks := false }, kinds := [], alts := [], laidByText := true, laidKinds := [.data], laidTests := true, laidLooks := .later }
def MaskNextUptoCardSaid : Prop := Claim7.holds Tryd.pinned (.plain (OpenSpec.upto maskNextSpec)) maskNextUptoCard

/-- THE SECOND FORM's CARD OF 'detentlaw01.MaskMakes'. -/
def maskMakesUptoCard : Claim7 := { stood := { row := maskMakesUptoRow, standIns := [], harness := (true, "193ee794c0c056bf092dd10ccb00d7364bbfcc60b9e12de52458be6118056127"), looks := false }, kinds := [], alts := [], laidByText := true, laidKinds := [.data], laidTests := true, laidLooks := .later }
def MaskMakesUptoCardSaid : Prop := Claim7.holds Tryd.pinned (.plain (OpenSpec.upto maskMakesSpec)) maskMakesUptoCard

/-- THE SECOND FORM's CARD OF 'detentlaw01.MaskTurns'. -/
def maskTurnsUptoCard : Claim7 := { stood := { row := maskTurnsUptoRow, standIns := [], harness := (true, "193ee794c0c056bf092dd10ccb00d7364bbfcc60b9e12de52458be6118056127"), looks := false }, kinds := [], alts := [], laidByText := true, laidKinds := [.data], laidTests := true, laidLooks := .later }
def MaskTurnsUptoCardSaid : Prop := Claim7.holds Tryd.pinned (.plain (OpenSpec.upto maskTurnsSpec)) maskTurnsUptoCard

/-- THE SECOND FORM's CARD OF 'detentlaw01.MaskWalks'. -/
def maskWalksUptoCard : Claim7 := { stood := { row := maskWalksUptoRow, standIns := [], harness := (true, "193ee794c0c056bf092dd10ccb00d7364bbfcc60b9e12de52458be6118056127"), looks := false }, kinds := [], alts := [], laidByText := true, laidKinds := [.data], laidTests := true, laidLooks := .later }
def MaskWalksUptoCardSaid : Prop := Claim7.holds Tryd.pinned (.plain (OpenSpec.upto maskWalksSpec)) maskWalksUptoCard

/-- THE SECOND FORM's CARD OF 'detentlaw01.MaskFair'. -/
def maskFairUptoCard : Claim7 := { stood := { row := maskFairUptoRow, standIns := [], harness := (true, "193ee794c0c056bf092dd10ccb00d7364bbfcc60b9e12de52458be6118056127"), looks := false }, kinds := [], alts := [], laidByText := true, laidKinds := [.data], laidTests := true, laidLooks := .later }
def MaskFairUptoCardSaid : Prop := Claim7.holds Tryd.pinned (.plain (OpenSpec.upto maskFairSpec)) maskFairUptoCard

/-- THE SECOND FORM's CARD OF 'detentlaw01.MaskSets'. -/
def maskSetsUptoCard : Claim7 := { stood := { row := maskSetsUptoRow, standIns := [], harness := (true, "193ee794c0c056bf092dd10ccb00d7364bbfcc60b9e12de52458be6118056127"), looks := false }, kinds := [], alts := [], laidByText := true, laidKinds := [.data], laidTests := true, laidLooks := .later }
def MaskSetsUptoCardSaid : Prop := Claim7.holds Tryd.pinned (.plain (OpenSpec.upto maskSetsSpec)) maskSetsUptoCard
end Rows
end Go.Proofs.YtefjneilmmpgmaaDoor
