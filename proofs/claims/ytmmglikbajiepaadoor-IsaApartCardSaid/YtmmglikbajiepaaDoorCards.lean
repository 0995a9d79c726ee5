/-
  DERIVED. GIVEN WITH THE SEED: THE CARDS: each row of YtmmglikbajiepaaDoorRows.lean that lists a variable, with what it lists TIED to the program's text (the seventh form; the later family's looks); each row that meets fmt, with fmt's text TOLD by the authors' own Lean function (tested against real Go, not proved from fmt's source: count such statements apart). THE CARD IS WHAT COUNTS. Prove the row's statement (the work); the ties are given (YtmmglikbajiepaaDoorTie.lean); close each card by the builder's one call (the guide's Derived/Test/ToyasCard.lean, 'card_holds'). Laid BY PROGRAM, IN A SANDBOX (cutbox-door.mjs). By AI agents, Wed Nov 11 2026. No macro, syntax, notation, axiom, sorry.
-/
import Derived.Test.YtmmglikbajiepaaDoorRows
import GoSem.ClaimSeven
namespace Go.Proofs.YtmmglikbajiepaaDoor
namespace Rows

/-- THE TIED CARD OF 'detentlaw15.IsaKinds'. -/
def isaKindsCard : Claim7 := { stood := { row := isaKindsRow, standIns := [], harness := (true, "18a5c289fb7c1d6f2ef4d6b8e70aad34f08881139750d335d5661b929cd94c44"), looks := false }, kinds := [], alts := [], laidByText := true, laidKinds := [.data, .data, .data, .listed, .data], laidTests := true, laidLooks := .later }
def IsaKindsCardSaid : Prop := Claim7.holds Tryd.pinned (.plain (OpenSpec.ofChange isaKindsSpec)) isaKindsCard

/-- THE TIED CARD OF 'detentlaw15.IsaChecks'. -/
def isaChecksCard : Claim7 := { stood := { row := isaChecksRow, standIns := [], harness := (true, "18a5c289fb7c1d6f2ef4d6b8e70aad34f08881139750d335d5661b929cd94c44"), looks := false }, kinds := [], alts := [], laidByText := true, laidKinds := [.data, .data, .data, .listed, .data], laidTests := true, laidLooks := .later }
def IsaChecksCardSaid : Prop := Claim7.holds Tryd.pinned (.plain (OpenSpec.ofChange isaChecksSpec)) isaChecksCard

/-- THE TIED CARD OF 'detentlaw15.IsaApart'. -/
def isaApartCard : Claim7 := { stood := { row := isaApartRow, standIns := [], harness := (true, "18a5c289fb7c1d6f2ef4d6b8e70aad34f08881139750d335d5661b929cd94c44"), looks := false }, kinds := [], alts := [], laidByText := true, laidKinds := [.data, .data, .data, .listed, .data], laidTests := true, laidLooks := .later }
def IsaApartCardSaid : Prop := Claim7.holds Tryd.pinned (.plain (OpenSpec.ofChange isaApartSpec)) isaApartCard

/-- THE TIED CARD OF 'detentlaw15.IsaBytes'. -/
def isaBytesCard : Claim7 := { stood := { row := isaBytesRow, standIns := [], harness := (true, "18a5c289fb7c1d6f2ef4d6b8e70aad34f08881139750d335d5661b929cd94c44"), looks := false }, kinds := [], alts := [], laidByText := true, laidKinds := [.data, .data, .data, .listed, .data], laidTests := true, laidLooks := .later }
def IsaBytesCardSaid : Prop := Claim7.holds Tryd.pinned (.plain (OpenSpec.ofChange isaBytesSpec)) isaBytesCard

/-- THE TIED CARD OF 'detentlaw15.IsaParses'. -/
def isaParsesCard : Claim7 := { stood := { row := isaParsesRow, standIns := [], harness := (true, "18a5c289fb7c1d6f2ef4d6b8e70aad34f08881139750d335d5661b929cd94c44"), looks := false }, kinds := [], alts := [], laidByText := true, laidKinds := [.data, .data, .data, .listed, .data], laidTests := true, laidLooks := .later }
def IsaParsesCardSaid : Prop := Claim7.holds Tryd.pinned (.plain (OpenSpec.ofChange isaParsesSpec)) isaParsesCard

/-- THE SECOND FORM's CARD OF 'detentlaw15.IsaKinds'. -/
def isaKindsUptoCard : Claim7 := { stood := { row := isaKindsUptoRow, standIns := [], harness := (true, "18a5c289fb7c1d6f2ef4d6b8e70aad34f08881139750d335d5661b929cd94c44"), looks := false }, kinds := [], alts := [], laidByText := true, laidKinds := [.data, .data, .data, .listed, .data], laidTests := true, laidLooks := .later }
def IsaKindsUptoCardSaid : Prop := Claim7.holds Tryd.pinned (.plain (OpenSpec.upto isaKindsSpec)) isaKindsUptoCard

/-- THE SECOND FORM's CARD OF 'detentlaw15.IsaChecks'. -/
def isaChecksUptoCard : Claim7 := { stood := { row := isaChecksUptoRow, standIns := [], harness := (true, "18a5c289fb7c1d6f2ef4d6b8e70aad34f08881139750d335d5661b929cd94c44"), looks := false }, kinds := [], alts := [], laidByText := true, laidKinds := [.data, .data, .data, .listed, .data], laidTests := true, laidLooks := .later }
def IsaChecksUptoCardSaid : Prop := Claim7.holds Tryd.pinned (.plain (OpenSpec.upto isaChecksSpec)) isaChecksUptoCard

/-- THE SECOND FORM's CARD OF 'detentlaw15.IsaApart'. -/
def isaApartUptoCard : Claim7 := { stood := { row := isaApartUptoRow, standIns := [], harness := (true, "18a5c289fb7c1d6f2ef4d6b8e70aad34f08881139750d335d5661b929cd94c44"), looks := false }, kinds := [], alts := [], laidByText := true, laidKinds := [.data, .data, .data, .listed, .data], laidTests := true, laidLooks := .later }
def IsaApartUptoCardSaid : Prop := Claim7.holds Tryd.pinned (.plain (OpenSpec.upto isaApartSpec)) isaApartUptoCard

/-- THE SECOND FORM's CARD OF 'detentlaw15.IsaBytes'. -/
def isaBytesUptoCard : Claim7 := { stood := { row := isaBytesUptoRow, standIns := [], harness := (true, "18a5c289fb7c1d6f2ef4d6b8e70aad34f08881139750d335d5661b929cd94c44"), looks := false }, kinds := [], alts := [], laidByText := true, laidKinds := [.data, .data, .data, .listed, .data], laidTests := true, laidLooks := .later }
def IsaBytesUptoCardSaid : Prop := Claim7.holds Tryd.pinned (.plain (OpenSpec.upto isaBytesSpec)) isaBytesUptoCard

/-- THE SECOND FORM's CARD OF 'detentlaw15.IsaParses'. -/
def isaParsesUptoCard : Claim7 := { stood := { row := isaParsesUptoRow, standIns := [], harness := (true, "18a5c289fb7c1d6f2ef4d6b8e70aad34f08881139750d335d5661b929cd94c44"), looks := false }, kinds := [], alts := [], laidByText := true, laidKinds := [.data, .data, .data, .listed, .data], laidTests := true, laidLooks := .later }
def IsaParsesUptoCardSaid : Prop := Claim7.holds Tryd.pinned (.plain (OpenSpec.upto isaParsesSpec)) isaParsesUptoCard
end Rows
end Go.Proofs.YtmmglikbajiepaaDoor
