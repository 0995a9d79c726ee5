/-
  DERIVED. GIVEN WITH THE SEED: THE CARDS: each row of YtedfkonpkmckbaaDoorRows.lean that lists a variable, with what it lists TIED to the program's text (the seventh form; the later family's looks); each row that meets fmt, with fmt's text TOLD by the authors' own Lean function (tested against real Go, not proved from fmt's source: count such statements apart). THE CARD IS WHAT COUNTS. Prove the row's statement (the work); the ties are given (YtedfkonpkmckbaaDoorTie.lean); close each card by the builder's one call (the guide's Derived/Test/ToyasCard.lean, 'card_holds'). Laid BY PROGRAM, IN A SANDBOX (cutbox-door.mjs). By AI agents, Wed Nov 11 2026. No macro, syntax, notation, axiom, sorry.
-/
import Derived.Test.YtedfkonpkmckbaaDoorRows
import GoSem.ClaimSeven
namespace Go.Proofs.YtedfkonpkmckbaaDoor
namespace Rows

/-- THE TIED CARD OF 'detentlaw28.EventTexts'. -/
def eventTextsCard : Claim7 := { stood := { row := eventTextsRow, standIns := [], harness := (true, "0789e5f5914a5b60ae0a528c98d74e03ac912fa12d5955fa1877a14f932eac97"), looks := false }, kinds := [], alts := [], laidByText := true, laidKinds := [.data, .data, .data, .listed, .data], laidTests := true, laidLooks := .later }
def EventTextsCardSaid : Prop := Claim7.holds Tryd.pinned (.plain (OpenSpec.ofChange eventTextsSpec)) eventTextsCard

/-- THE TIED CARD OF 'detentlaw28.EventApart'. -/
def eventApartCard : Claim7 := { stood := { row := eventApartRow, standIns := [], harness := (true, "0789e5f5914a5b60ae0a528c98d74e03ac912fa12d5955fa1877a14f932eac97"), looks := false }, kinds := [], alts := [], laidByText := true, laidKinds := [.data, .data, .data, .listed, .data], laidTests := true, laidLooks := .later }
def EventApartCardSaid : Prop := Claim7.holds Tryd.pinned (.plain (OpenSpec.ofChange eventApartSpec)) eventApartCard

/-- THE TIED CARD OF 'detentlaw28.EventFull'. -/
def eventFullCard : Claim7 := { stood := { row := eventFullRow, standIns := [], harness := (true, "0789e5f5914a5b60ae0a528c98d74e03ac912fa12d5955fa1877a14f932eac97"), looks := false }, kinds := [], alts := [], laidByText := true, laidKinds := [.data, .data, .data, .listed, .data], laidTests := true, laidLooks := .later }
def EventFullCardSaid : Prop := Claim7.holds Tryd.pinned (.plain (OpenSpec.ofChange eventFullSpec)) eventFullCard

/-- THE TIED CARD OF 'detentlaw28.EventLogs'. -/
def eventLogsCard : Claim7 := { stood := { row := eventLogsRow, standIns := [], harness := (true, "0789e5f5914a5b60ae0a528c98d74e03ac912fa12d5955fa1877a14f932eac97"), looks := false }, kinds := [], alts := [], laidByText := true, laidKinds := [.data, .data, .data, .listed, .data], laidTests := true, laidLooks := .later }
def EventLogsCardSaid : Prop := Claim7.holds Tryd.pinned (.plain (OpenSpec.ofChange eventLogsSpec)) eventLogsCard

/-- THE TIED CARD OF 'detentlaw28.EventNil'. -/
def eventNilCard : Claim7 := { stood := { row := eventNilRow, standIns := [], harness := (true, "0789e5f5914a5b60ae0a528c98d74e03ac912fa12d5955fa1877a14f932eac97"), looks := false }, kinds := [], alts := [], laidByText := true, laidKinds := [.data, .data, .data, .listed, .data], laidTests := true, laidLooks := .later }
def EventNilCardSaid : Prop := Claim7.holds Tryd.pinned (.plain (OpenSpec.ofChange eventNilSpec)) eventNilCard

/-- THE SECOND FORM's CARD OF 'detentlaw28.EventTexts'. -/
def eventTextsUptoCard : Claim7 := { stood := { row := eventTextsUptoRow, standIns := [], harness := (true, "0789e5f5914a5b60ae0a528c98d74e03ac912fa12d5955fa1877a14f932eac97"), looks := false }, kinds := [], alts := [], laidByText := true, laidKinds := [.data, .data, .data, .listed, .data], laidTests := true, laidLooks := .later }
def EventTextsUptoCardSaid : Prop := Claim7.holds Tryd.pinned (.plain (OpenSpec.upto eventTextsSpec)) eventTextsUptoCard

/-- THE SECOND FORM's CARD OF 'detentlaw28.EventApart'. -/
def eventApartUptoCard : Claim7 := { stood := { row := eventApartUptoRow, standIns := [], harness := (true, "0789e5f5914a5b60ae0a528c98d74e03ac912fa12d5955fa1877a14f932eac97"), looks := false }, kinds := [], alts := [], laidByText := true, laidKinds := [.data, .data, .data, .listed, .data], laidTests := true, laidLooks := .later }
def EventApartUptoCardSaid : Prop := Claim7.holds Tryd.pinned (.plain (OpenSpec.upto eventApartSpec)) eventApartUptoCard

/-- THE SECOND FORM's CARD OF 'detentlaw28.EventFull'. -/
def eventFullUptoCard : Claim7 := { stood := { row := eventFullUptoRow, standIns := [], harness := (true, "0789e5f5914a5b60ae0a528c98d74e03ac912fa12d5955fa1877a14f932eac97"), looks := false }, kinds := [], alts := [], laidByText := true, laidKinds := [.data, .data, .data, .listed, .data], laidTests := true, laidLooks := .later }
def EventFullUptoCardSaid : Prop := Claim7.holds Tryd.pinned (.plain (OpenSpec.upto eventFullSpec)) eventFullUptoCard

/-- THE SECOND FORM's CARD OF 'detentlaw28.EventLogs'. -/
def eventLogsUptoCard : Claim7 := { stood := { row := eventLogsUptoRow, standIns := [], harness := (true, "0789e5f5914a5b60ae0a528c98d74e03ac912fa12d5955fa1877a14f932eac97"), looks := false }, kinds := [], alts := [], laidByText := true, laidKinds := [.data, .data, .data, .listed, .data], laidTests := true, laidLooks := .later }
def EventLogsUptoCardSaid : Prop := Claim7.holds Tryd.pinned (.plain (OpenSpec.upto eventLogsSpec)) eventLogsUptoCard

/-- THE SECOND FORM's CARD OF 'detentlaw28.EventNil'. -/
def eventNilUptoCard : Claim7 := { stood := { row := eventNilUptoRow, standIns := [], harness := (true, "0789e5f5914a5b60ae0a528c98d74e03ac912fa12d5955fa1877a14f932eac97"), looks := false }, kinds := [], alts := [], laidByText := true, laidKinds := [.data, .data, .data, .listed, .data], laidTests := true, laidLooks := .later }
def EventNilUptoCardSaid : Prop := Claim7.holds Tryd.pinned (.plain (OpenSpec.upto eventNilSpec)) eventNilUptoCard
end Rows
end Go.Proofs.YtedfkonpkmckbaaDoor
