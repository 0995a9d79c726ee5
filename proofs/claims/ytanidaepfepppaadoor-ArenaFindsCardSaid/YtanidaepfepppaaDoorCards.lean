/-
  DERIVED. GIVEN WITH THE SEED: THE CARDS: each row of YtanidaepfepppaaDoorRows.lean that lists a variable, with what it lists TIED to the program's text (the seventh form; the later family's looks); each row that meets fmt, with fmt's text TOLD by the authors' own Lean function (tested against real Go, not proved from fmt's source: count such statements apart). THE CARD IS WHAT COUNTS. Prove the row's statement (the work); the ties are given (YtanidaepfepppaaDoorTie.lean); close each card by the builder's one call (the guide's Derived/Test/ToyasCard.lean, 'card_holds'). Laid BY PROGRAM, IN A SANDBOX (cutbox-door.mjs). By AI agents, Wed Nov 11 2026. No macro, syntax, notation, axiom, sorry.
-/
import Derived.Test.YtanidaepfepppaaDoorRows
import GoSem.ClaimSeven
namespace Go.Proofs.YtanidaepfepppaaDoor
namespace Rows

/-- THE TIED CARD OF 'detentlaw03.ArenaFinds'. -/
def arenaFindsCard : Claim7 := { stood := { row := arenaFindsRow, standIns := [], harness := (true, "6ce39aca259f1b9cb3993aec3df7d73c7f80d4ae3f3d2f6dc8b0bc4ab858a482"), looks := false }, kinds := [], alts := [], laidByText := true, laidKinds := [.data], laidTests := true, laidLooks := .later }
def ArenaFindsCardSaid : Prop := Claim7.holds Tryd.pinned (.plain (OpenSpec.ofChange arenaFindsSpec)) arenaFindsCard

/-- THE TIED CARD OF 'detentlaw03.ArenaWears'. -/
def arenaWearsCard : Claim7 := { stood := { row := arenaWearsRow, standIns := [], harness := (true, "6ce39aca259f1b9cb3993aec3df7d73c7f80d4ae3f3d2f6dc8b0bc4ab858a482"), looks := false }, kinds := [], alts := [], laidByText := true, laidKinds := [.data], laidTests := true, laidLooks := .later }
def ArenaWearsCardSaid : Prop := Claim7.holds Tryd.pinned (.plain (OpenSpec.ofChange arenaWearsSpec)) arenaWearsCard

/-- THE TIED CARD OF 'detentlaw03.ArenaMany'. -/
def arenaManyCard : Claim7 := { stood := { row := arenaManyRow, standIns := [], harness := (true, "6ce39aca259f1b9cb3993aec3df7d73c7f80d4ae3f3d2f6dc8b0bc4ab858a482"), looks := false }, kinds := [], alts := [], laidByText := true, laidKinds := [.data], laidTests := true, laidLooks := .later }
def ArenaManyCardSaid : Prop := Claim7.holds Tryd.pinned (.plain (OpenSpec.ofChange arenaManySpec)) arenaManyCard

/-- THE TIED CARD OF 'detentlaw03.ArenaPlays'. -/
def arenaPlaysCard : Claim7 := { stood := { row := arenaPlaysRow, standIns := [], harness := (true, "6ce39aca259f1b9cb3993aec3df7d73c7f80d4ae3f3d2f6dc8b0bc4ab858a482"), looks := false }, kinds := [], alts := [], laidByText := true, laidKinds := [.data], laidTests := true, laidLooks := .later }
def ArenaPlaysCardSaid : Prop := Claim7.holds Tryd.pinned (.plain (OpenSpec.ofChange arenaPlaysSpec)) arenaPlaysCard

/-- THE TIED CARD OF 'detentlaw03.ArenaNil'. -/
def arenaNilCard : Claim7 := { stood := { row := arenaNilRow, standIns := [], harness := (true, "6ce39aca259f1b9cb3993aec3df7d73c7f80d4ae3f3d2f6dc8b0bc4ab858a482"), looks := false }, kinds := [], alts := [], laidByText := true, laidKinds := [.data], laidTests := true, laidLooks := .later }
def ArenaNilCardSaid : Prop := Claim7.holds Tryd.pinned (.plain (OpenSpec.ofChange arenaNilSpec)) arenaNilCard

/-- THE SECOND FORM's CARD OF 'detentlaw03.ArenaFinds'. -/
def arenaFindsUptoCard : Claim7 := { stood := { row := arenaFindsUptoRow, standIns := [], harness := (true, "6ce39aca259f1b9cb3993aec3df7d73c7f80d4ae3f3d2f6dc8b0bc4ab858a482"), looks := false }, kinds := [], alts := [], laidByText := true, laidKinds := [.data], laidTests := true, laidLooks := .later }
def ArenaFindsUptoCardSaid : Prop := Claim7.holds Tryd.pinned (.plain (OpenSpec.upto arenaFindsSpec)) arenaFindsUptoCard

/-- THE SECOND FORM's CARD OF 'detentlaw03.ArenaWears'. -/
def arenaWearsUptoCard : Claim7 := { stood := { row := arenaWearsUptoRow, standIns := [], harness := (true, "6ce39aca259f1b9cb3993aec3df7d73c7f80d4ae3f3d2f6dc8b0bc4ab858a482"), looks := false }, kinds := [], alts := [], laidByText := true, laidKinds := [.data], laidTests := true, laidLooks := .later }
def ArenaWearsUptoCardSaid : Prop := Claim7.holds Tryd.pinned (.plain (OpenSpec.upto arenaWearsSpec)) arenaWearsUptoCard

/-- THE SECOND FORM's CARD OF 'detentlaw03.ArenaMany'. -/
def arenaManyUptoCard : Claim7 := { stood := { row := arenaManyUptoRow, standIns := [], harness := (true, "6ce39aca259f1b9cb3993aec3df7d73c7f80d4ae3f3d2f6dc8b0bc4ab858a482"), looks := false }, kinds := [], alts := [], laidByText := true, laidKinds := [.data], laidTests := true, laidLooks := .later }
def ArenaManyUptoCardSaid : Prop := Claim7.holds Tryd.pinned (.plain (OpenSpec.upto arenaManySpec)) arenaManyUptoCard

/-- THE SECOND FORM's CARD OF 'detentlaw03.ArenaPlays'. -/
def arenaPlaysUptoCard : Claim7 := { stood := { row := arenaPlaysUptoRow, standIns := [], harness := (true, "6ce39aca259f1b9cb3993aec3df7d73c7f80d4ae3f3d2f6dc8b0bc4ab858a482"), looks := false }, kinds := [], alts := [], laidByText := true, laidKinds := [.data], laidTests := true, laidLooks := .later }
def ArenaPlaysUptoCardSaid : Prop := Claim7.holds Tryd.pinned (.plain (OpenSpec.upto arenaPlaysSpec)) arenaPlaysUptoCard

/-- THE SECOND FORM's CARD OF 'detentlaw03.ArenaNil'. -/
def arenaNilUptoCard : Claim7 := { stood := { row := arenaNilUptoRow, standIns := [], harness := (true, "6ce39aca259f1b9cb3993aec3df7d73c7f80d4ae3f3d2f6dc8b0bc4ab858a482"), looks := false }, kinds := [], alts := [], laidByText := true, laidKinds := [.data], laidTests := true, laidLooks := .later }
def ArenaNilUptoCardSaid : Prop := Claim7.holds Tryd.pinned (.plain (OpenSpec.upto arenaNilSpec)) arenaNilUptoCard
end Rows
end Go.Proofs.YtanidaepfepppaaDoor
