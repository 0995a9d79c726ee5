/-
  DERIVED. GIVEN WITH THE SEED: THE CARDS: each row of YtefippjakkgjkaaDoorRows.lean that lists a variable, with what it lists TIED to the program's text (the seventh form; the later family's looks); each row that meets fmt, with fmt's text TOLD by the authors' own Lean function (tested against real Go, not proved from fmt's source: count such statements apart). THE CARD IS WHAT COUNTS. Prove the row's statement (the work); the ties are given (YtefippjakkgjkaaDoorTie.lean); close each card by the builder's one call (the guide's Derived/Test/ToyasCard.lean, 'card_holds'). Laid BY PROGRAM, IN A SANDBOX (cutbox-door.mjs). By AI agents, Wed Nov 11 2026. No macro, syntax, notation, axiom, sorry.
-/
import Derived.Test.YtefippjakkgjkaaDoorRows
import GoSem.ClaimSeven
namespace Go.Proofs.YtefippjakkgjkaaDoor
namespace Rows

/-- THE TIED CARD OF 'detentlaw12.GraceHolds'. -/
def graceHoldsCard : Claim7 := { stood := { row := graceHoldsRow, standIns := [], harness := (true, "0d2533f4ee6b959a890f5e35c90de5f356de4857e1309deb29a82a59a511a371"), looks := false }, kinds := [], alts := [], laidByText := true, laidKinds := [.data], laidTests := true, laidLooks := .later }
def GraceHoldsCardSaid : Prop := Claim7.holds Tryd.pinned (.plain (OpenSpec.ofChange graceHoldsSpec)) graceHoldsCard

/-- THE TIED CARD OF 'detentlaw12.GraceEnds'. -/
def graceEndsCard : Claim7 := { stood := { row := graceEndsRow, standIns := [], harness := (true, "0d2533f4ee6b959a890f5e35c90de5f356de4857e1309deb29a82a59a511a371"), looks := false }, kinds := [], alts := [], laidByText := true, laidKinds := [.data], laidTests := true, laidLooks := .later }
def GraceEndsCardSaid : Prop := Claim7.holds Tryd.pinned (.plain (OpenSpec.ofChange graceEndsSpec)) graceEndsCard

/-- THE TIED CARD OF 'detentlaw12.GraceBarrier'. -/
def graceBarrierCard : Claim7 := { stood := { row := graceBarrierRow, standIns := [], harness := (true, "0d2533f4ee6b959a890f5e35c90de5f356de4857e1309deb29a82a59a511a371"), looks := false }, kinds := [], alts := [], laidByText := true, laidKinds := [.data], laidTests := true, laidLooks := .later }
def GraceBarrierCardSaid : Prop := Claim7.holds Tryd.pinned (.plain (OpenSpec.ofChange graceBarrierSpec)) graceBarrierCard

/-- THE TIED CARD OF 'detentlaw12.GracePlays'. -/
def gracePlaysCard : Claim7 := { stood := { row := gracePlaysRow, standIns := [], harness := (true, "0d2533f4ee6b959a890f5e35c90de5f356de4857e1309deb29a82a59a511a371"), looks := false }, kinds := [], alts := [], laidByText := true, laidKinds := [.data], laidTests := true, laidLooks := .later }
def GracePlaysCardSaid : Prop := Claim7.holds Tryd.pinned (.plain (OpenSpec.ofChange gracePlaysSpec)) gracePlaysCard

/-- THE TIED CARD OF 'detentlaw12.GraceNil'. -/
def graceNilCard : Claim7 := { stood := { row := graceNilRow, standIns := [], harness := (true, "0d2533f4ee6b959a890f5e35c90de5f356de4857e1309deb29a82a59a511a371"), looks := false }, kinds := [], alts := [], laidByText := true, laidKinds := [.data], laidTests := true, laidLooks := .later }
def GraceNilCardSaid : Prop := Claim7.holds Tryd.pinned (.plain (OpenSpec.ofChange graceNilSpec)) graceNilCard

/-- THE SECOND FORM's CARD OF 'detentlaw12.GraceHolds'. -/
def graceHoldsUptoCard : Claim7 := { stood := { row := graceHoldsUptoRow, standIns := [], harness := (true, "0d2533f4ee6b959a890f5e35c90de5f356de4857e1309deb29a82a59a511a371"), looks := false }, kinds := [], alts := [], laidByText := true, laidKinds := [.data], laidTests := true, laidLooks := .later }
def GraceHoldsUptoCardSaid : Prop := Claim7.holds Tryd.pinned (.plain (OpenSpec.upto graceHoldsSpec)) graceHoldsUptoCard

/-- THE SECOND FORM's CARD OF 'detentlaw12.GraceEnds'. -/
def graceEndsUptoCard : Claim7 := { stood := { row := graceEndsUptoRow, standIns := [], harness := (true, "0d2533f4ee6b959a890f5e35c90de5f356de4857e1309deb29a82a59a511a371"), looks := false }, kinds := [], alts := [], laidByText := true, laidKinds := [.data], laidTests := true, laidLooks := .later }
def GraceEndsUptoCardSaid : Prop := Claim7.holds Tryd.pinned (.plain (OpenSpec.upto graceEndsSpec)) graceEndsUptoCard

/-- THE SECOND FORM's CARD OF 'detentlaw12.GraceBarrier'. -/
def graceBarrierUptoCard : Claim7 := { stood := { row := graceBarrierUptoRow, standIns := [], harness := (true, "0d2533f4ee6b959a890f5e35c90de5f356de4857e1309deb29a82a59a511a371"), looks := false }, kinds := [], alts := [], laidByText := true, laidKinds := [.data], laidTests := true, laidLooks := .later }
def GraceBarrierUptoCardSaid : Prop := Claim7.holds Tryd.pinned (.plain (OpenSpec.upto graceBarrierSpec)) graceBarrierUptoCard

/-- THE SECOND FORM's CARD OF 'detentlaw12.GracePlays'. -/
def gracePlaysUptoCard : Claim7 := { stood := { row := gracePlaysUptoRow, standIns := [], harness := (true, "0d2533f4ee6b959a890f5e35c90de5f356de4857e1309deb29a82a59a511a371"), looks := false }, kinds := [], alts := [], laidByText := true, laidKinds := [.data], laidTests := true, laidLooks := .later }
def GracePlaysUptoCardSaid : Prop := Claim7.holds Tryd.pinned (.plain (OpenSpec.upto gracePlaysSpec)) gracePlaysUptoCard

/-- THE SECOND FORM's CARD OF 'detentlaw12.GraceNil'. -/
def graceNilUptoCard : Claim7 := { stood := { row := graceNilUptoRow, standIns := [], harness := (true, "0d2533f4ee6b959a890f5e35c90de5f356de4857e1309deb29a82a59a511a371"), looks := false }, kinds := [], alts := [], laidByText := true, laidKinds := [.data], laidTests := true, laidLooks := .later }
def GraceNilUptoCardSaid : Prop := Claim7.holds Tryd.pinned (.plain (OpenSpec.upto graceNilSpec)) graceNilUptoCard
end Rows
end Go.Proofs.YtefippjakkgjkaaDoor
