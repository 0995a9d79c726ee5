/-
  DERIVED. GIVEN WITH THE SEED: THE CARDS: each row of YtjinekckpgincaaDoorRows.lean that lists a variable, with what it lists TIED to the program's text (the seventh form; the later family's looks); each row that meets fmt, with fmt's text TOLD by the authors' own Lean function (tested against real Go, not proved from fmt's source: count such statements apart). THE CARD IS WHAT COUNTS. Prove the row's statement (the work); the ties are given (YtjinekckpgincaaDoorTie.lean); close each card by the builder's one call (the guide's Derived/Test/ToyasCard.lean, 'card_holds'). Laid BY PROGRAM, IN A SANDBOX (cutbox-door.mjs). By AI agents, Wed Nov 11 2026. No macro, syntax, notation, axiom, sorry.
-/
import Derived.Test.YtjinekckpgincaaDoorRows
import GoSem.ClaimSeven
namespace Go.Proofs.YtjinekckpgincaaDoor
namespace Rows

/-- THE TIED CARD OF 'detentlaw09.SectMany'. -/
def sectManyCard : Claim7 := { stood := { row := sectManyRow, standIns := [], harness := (true, "46b3f82c49616e3b2db681309831e0bd3c3dd91a31a4939972bb7a3cfc4c731a"), looks := false }, kinds := [], alts := [], laidByText := true, laidKinds := [.data], laidTests := true, laidLooks := .later }
def SectManyCardSaid : Prop := Claim7.holds Tryd.pinned (.plain (OpenSpec.ofChange sectManySpec)) sectManyCard

/-- THE TIED CARD OF 'detentlaw09.SectPlays'. -/
def sectPlaysCard : Claim7 := { stood := { row := sectPlaysRow, standIns := [], harness := (true, "46b3f82c49616e3b2db681309831e0bd3c3dd91a31a4939972bb7a3cfc4c731a"), looks := false }, kinds := [], alts := [], laidByText := true, laidKinds := [.data], laidTests := true, laidLooks := .later }
def SectPlaysCardSaid : Prop := Claim7.holds Tryd.pinned (.plain (OpenSpec.ofChange sectPlaysSpec)) sectPlaysCard

/-- THE TIED CARD OF 'detentlaw09.SectStays'. -/
def sectStaysCard : Claim7 := { stood := { row := sectStaysRow, standIns := [], harness := (true, "46b3f82c49616e3b2db681309831e0bd3c3dd91a31a4939972bb7a3cfc4c731a"), looks := false }, kinds := [], alts := [], laidByText := true, laidKinds := [.data], laidTests := true, laidLooks := .later }
def SectStaysCardSaid : Prop := Claim7.holds Tryd.pinned (.plain (OpenSpec.ofChange sectStaysSpec)) sectStaysCard

/-- THE TIED CARD OF 'detentlaw09.SectNil'. -/
def sectNilCard : Claim7 := { stood := { row := sectNilRow, standIns := [], harness := (true, "46b3f82c49616e3b2db681309831e0bd3c3dd91a31a4939972bb7a3cfc4c731a"), looks := false }, kinds := [], alts := [], laidByText := true, laidKinds := [.data], laidTests := true, laidLooks := .later }
def SectNilCardSaid : Prop := Claim7.holds Tryd.pinned (.plain (OpenSpec.ofChange sectNilSpec)) sectNilCard

/-- THE TIED CARD OF 'detentlaw09.SectNests'. -/
def sectNestsCard : Claim7 := { stood := { row := sectNestsRow, standIns := [], harness := (true, "46b3f82c49616e3b2db681309831e0bd3c3dd91a31a4939972bb7a3cfc4c731a"), looks := false }, kinds := [], alts := [], laidByText := true, laidKinds := [.data], laidTests := true, laidLooks := .later }
def SectNestsCardSaid : Prop := Claim7.holds Tryd.pinned (.plain (OpenSpec.ofChange sectNestsSpec)) sectNestsCard

/-- THE SECOND FORM's CARD OF 'detentlaw09.SectMany'. -/
def sectManyUptoCard : Claim7 := { stood := { row := sectManyUptoRow, standIns := [], harness := (true, "46b3f82c49616e3b2db681309831e0bd3c3dd91a31a4939972bb7a3cfc4c731a"), looks := false }, kinds := [], alts := [], laidByText := true, laidKinds := [.data], laidTests := true, laidLooks := .later }
def SectManyUptoCardSaid : Prop := Claim7.holds Tryd.pinned (.plain (OpenSpec.upto sectManySpec)) sectManyUptoCard

/-- THE SECOND FORM's CARD OF 'detentlaw09.SectPlays'. -/
def sectPlaysUptoCard : Claim7 := { stood := { row := sectPlaysUptoRow, standIns := [], harness := (true, "46b3f82c49616e3b2db681309831e0bd3c3dd91a31a4939972bb7a3cfc4c731a"), looks := false }, kinds := [], alts := [], laidByText := true, laidKinds := [.data], laidTests := true, laidLooks := .later }
def SectPlaysUptoCardSaid : Prop := Claim7.holds Tryd.pinned (.plain (OpenSpec.upto sectPlaysSpec)) sectPlaysUptoCard

/-- THE SECOND FORM's CARD OF 'detentlaw09.SectStays'. -/
def sectStaysUptoCard : Claim7 := { stood := { row := sectStaysUptoRow, standIns := [], harness := (true, "46b3f82c49616e3b2db681309831e0bd3c3dd91a31a4939972bb7a3cfc4c731a"), looks := false }, kinds := [], alts := [], laidByText := true, laidKinds := [.data], laidTests := true, laidLooks := .later }
def SectStaysUptoCardSaid : Prop := Claim7.holds Tryd.pinned (.plain (OpenSpec.upto sectStaysSpec)) sectStaysUptoCard

/-- THE SECOND FORM's CARD OF 'detentlaw09.SectNil'. -/
def sectNilUptoCard : Claim7 := { stood := { row := sectNilUptoRow, standIns := [], harness := (true, "46b3f82c49616e3b2db681309831e0bd3c3dd91a31a4939972bb7a3cfc4c731a"), looks := false }, kinds := [], alts := [], laidByText := true, laidKinds := [.data], laidTests := true, laidLooks := .later }
def SectNilUptoCardSaid : Prop := Claim7.holds Tryd.pinned (.plain (OpenSpec.upto sectNilSpec)) sectNilUptoCard

/-- THE SECOND FORM's CARD OF 'detentlaw09.SectNests'. -/
def sectNestsUptoCard : Claim7 := { stood := { row := sectNestsUptoRow, standIns := [], harness := (true, "46b3f82c49616e3b2db681309831e0bd3c3dd91a31a4939972bb7a3cfc4c731a"), looks := false }, kinds := [], alts := [], laidByText := true, laidKinds := [.data], laidTests := true, laidLooks := .later }
def SectNestsUptoCardSaid : Prop := Claim7.holds Tryd.pinned (.plain (OpenSpec.upto sectNestsSpec)) sectNestsUptoCard
end Rows
end Go.Proofs.YtjinekckpgincaaDoor
