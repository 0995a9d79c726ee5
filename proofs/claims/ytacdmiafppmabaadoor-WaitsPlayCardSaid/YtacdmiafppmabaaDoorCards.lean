/-
  DERIVED. GIVEN WITH THE SEED: THE CARDS: each row of YtacdmiafppmabaaDoorRows.lean that lists a variable, with what it lists TIED to the program's text (the seventh form; the later family's looks); each row that meets fmt, with fmt's text TOLD by the authors' own Lean function (tested against real Go, not proved from fmt's source: count such statements apart). THE CARD IS WHAT COUNTS. Prove the row's statement (the work); the ties are given (YtacdmiafppmabaaDoorTie.lean); close each card by the builder's one call (the guide's Derived/Test/ToyasCard.lean, 'card_holds'). Laid BY PROGRAM, IN A SANDBOX (cutbox-door.mjs). By AI agents, Wed Nov 11 2026. No macro, syntax, notation, axiom, sorry.
-/
import Derived.Test.YtacdmiafppmabaaDoorRows
import GoSem.ClaimSeven
namespace Go.Proofs.YtacdmiafppmabaaDoor
namespace Rows

/-- THE TIED CARD OF 'detentlaw24.WaitsEnd'. -/
def waitsEndCard : Claim7 := { stood := { row := waitsEndRow, standIns := [], harness := (true, "463a7ba12b4b70c8ea5868c5307b96f2e880c9aab37ba19fd971d3fa93311896"), looks := false }, kinds := [], alts := [], laidByText := true, laidKinds := [.data], laidTests := true, laidLooks := .later }
def WaitsEndCardSaid : Prop := Claim7.holds Tryd.pinned (.plain (OpenSpec.ofChange waitsEndSpec)) waitsEndCard

/-- THE TIED CARD OF 'detentlaw24.WaitsPlay'. -/
def waitsPlayCard : Claim7 := { stood := { row := waitsPlayRow, standIns := [], harness := (true, "463a7ba12b4b70c8ea5868c5307b96f2e880c9aab37ba19fd971d3fa93311896"), looks := false }, kinds := [], alts := [], laidByText := true, laidKinds := [.data], laidTests := true, laidLooks := .later }
def WaitsPlayCardSaid : Prop := Claim7.holds Tryd.pinned (.plain (OpenSpec.ofChange waitsPlaySpec)) waitsPlayCard

/-- THE TIED CARD OF 'detentlaw24.WaitsNil'. -/
def waitsNilCard : Claim7 := { stood := { row := waitsNilRow, standIns := [], harness := (true, "463a7ba12b4b70c8ea5868c5307b96f2e880c9aab37ba19fd971d3fa93311896"), looks := false }, kinds := [], alts := [], laidByText := true, laidKinds := [.data], laidTests := true, laidLooks := .later }
def WaitsNilCardSaid : Prop := Claim7.holds Tryd.pinned (.plain (OpenSpec.ofChange waitsNilSpec)) waitsNilCard

/-- THE TIED CARD OF 'detentlaw24.WaitsWake'. -/
def waitsWakeCard : Claim7 := { stood := { row := waitsWakeRow, standIns := [], harness := (true, "463a7ba12b4b70c8ea5868c5307b96f2e880c9aab37ba19fd971d3fa93311896"), looks := false }, kinds := [], alts := [], laidByText := true, laidKinds := [.data], laidTests := true, laidLooks := .later }
def WaitsWakeCardSaid : Prop := Claim7.holds Tryd.pinned (.plain (OpenSpec.ofChange waitsWakeSpec)) waitsWakeCard

/-- THE SECOND FORM's CARD OF 'detentlaw24.WaitsEnd'. -/
def waitsEndUptoCard : Claim7 := { stood := { row := waitsEndUptoRow, standIns := [], harness := (true, "463a7ba12b4b70c8ea5868c5307b96f2e880c9aab37ba19fd971d3fa93311896"), looks := false }, kinds := [], alts := [], laidByText := true, laidKinds := [.data], laidTests := true, laidLooks := .later }
def WaitsEndUptoCardSaid : Prop := Claim7.holds Tryd.pinned (.plain (OpenSpec.upto waitsEndSpec)) waitsEndUptoCard

/-- THE SECOND FORM's CARD OF 'detentlaw24.WaitsPlay'. -/
def waitsPlayUptoCard : Claim7 := { stood := { row := waitsPlayUptoRow, standIns := [], harness := (true, "463a7ba12b4b70c8ea5868c5307b96f2e880c9aab37ba19fd971d3fa93311896"), looks := false }, kinds := [], alts := [], laidByText := true, laidKinds := [.data], laidTests := true, laidLooks := .later }
def WaitsPlayUptoCardSaid : Prop := Claim7.holds Tryd.pinned (.plain (OpenSpec.upto waitsPlaySpec)) waitsPlayUptoCard

/-- THE SECOND FORM's CARD OF 'detentlaw24.WaitsNil'. -/
def waitsNilUptoCard : Claim7 := { stood := { row := waitsNilUptoRow, standIns := [], harness := (true, "463a7ba12b4b70c8ea5868c5307b96f2e880c9aab37ba19fd971d3fa93311896"), looks := false }, kinds := [], alts := [], laidByText := true, laidKinds := [.data], laidTests := true, laidLooks := .later }
def WaitsNilUptoCardSaid : Prop := Claim7.holds Tryd.pinned (.plain (OpenSpec.upto waitsNilSpec)) waitsNilUptoCard

/-- THE SECOND FORM's CARD OF 'detentlaw24.WaitsWake'. -/
def waitsWakeUptoCard : Claim7 := { stood := { row := waitsWakeUptoRow, standIns := [], harness := (true, "463a7ba12b4b70c8ea5868c5307b96f2e880c9aab37ba19fd971d3fa93311896"), looks := false }, kinds := [], alts := [], laidByText := true, laidKinds := [.data], laidTests := true, laidLooks := .later }
def WaitsWakeUptoCardSaid : Prop := Claim7.holds Tryd.pinned (.plain (OpenSpec.upto waitsWakeSpec)) waitsWakeUptoCard
end Rows
end Go.Proofs.YtacdmiafppmabaaDoor
