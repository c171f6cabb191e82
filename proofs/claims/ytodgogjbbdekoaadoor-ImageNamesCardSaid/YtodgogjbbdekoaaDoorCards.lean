/-
  DERIVED. GIVEN WITH THE SEED: THE CARDS: each row of YtodgogjbbdekoaaDoorRows.lean that lists a variable, with what it lists TIED to the program's text (the seventh form; the later family's looks); each row that meets fmt, with fmt's text TOLD by the authors' own Lean function (tested against real Go, not proved from fmt's source: count such statements apart). THE CARD IS WHAT COUNTS. Prove the row's statement (the work); the ties are given (YtodgogjbbdekoaaDoorTie.lean); close each card by the builder's one call (the guide's Derived/Test/ToyasCard.lean, 'card_holds'). Laid BY PROGRAM, IN A SANDBOX (cutbox-door.mjs). By AI agents, Wed Nov 11 2026. No macro, syntax, notation, axiom, sorry.
-/
import Derived.Test.YtodgogjbbdekoaaDoorRows
import GoSem.ClaimSeven
namespace Go.Proofs.YtodgogjbbdekoaaDoor
namespace Rows

/-- THE TIED CARD OF 'boltholekeep.ImageNames'. -/
def imageNamesCard : Claim7 := { stood := { row := imageNamesRow, standIns := [], harness := (true, "6bdd55f1a876662b41ada47b605d3301f3e4211db23fee731f9b3337123ad846"), looks := false }, kinds := [], alts := [], laidByText := true, laidKinds := [.data, .data, .data, .data, .data], laidTests := true, laidLooks := .later }
def ImageNamesCardSaid : Prop := Claim7.holds Tryd.pinned (.plain (OpenSpec.ofChange imageNamesSpec)) imageNamesCard

/-- THE TIED CARD OF 'boltholekeep.LinesAt'. -/
def linesAtCard : Claim7 := { stood := { row := linesAtRow, standIns := [], harness := (true, "6bdd55f1a876662b41ada47b605d3301f3e4211db23fee731f9b3337123ad846"), looks := false }, kinds := [], alts := [], laidByText := true, laidKinds := [.data, .data, .data, .data, .data], laidTests := true, laidLooks := .later }
def LinesAtCardSaid : Prop := Claim7.holds Tryd.pinned (.plain (OpenSpec.ofChange linesAtSpec)) linesAtCard

/-- THE TIED CARD OF 'boltholekeep.ImageApart'. -/
def imageApartCard : Claim7 := { stood := { row := imageApartRow, standIns := [], harness := (true, "6bdd55f1a876662b41ada47b605d3301f3e4211db23fee731f9b3337123ad846"), looks := false }, kinds := [], alts := [], laidByText := true, laidKinds := [.data, .data, .data, .data, .data], laidTests := true, laidLooks := .later }
def ImageApartCardSaid : Prop := Claim7.holds Tryd.pinned (.plain (OpenSpec.ofChange imageApartSpec)) imageApartCard

/-- THE TIED CARD OF 'boltholekeep.ImageBack'. -/
def imageBackCard : Claim7 := { stood := { row := imageBackRow, standIns := [], harness := (true, "6bdd55f1a876662b41ada47b605d3301f3e4211db23fee731f9b3337123ad846"), looks := false }, kinds := [], alts := [], laidByText := true, laidKinds := [.data, .data, .data, .data, .data], laidTests := true, laidLooks := .later }
def ImageBackCardSaid : Prop := Claim7.holds Tryd.pinned (.plain (OpenSpec.ofChange imageBackSpec)) imageBackCard

/-- THE TIED CARD OF 'boltholekeep.Lost'. -/
def lostCard : Claim7 := { stood := { row := lostRow, standIns := [], harness := (true, "6bdd55f1a876662b41ada47b605d3301f3e4211db23fee731f9b3337123ad846"), looks := false }, kinds := [], alts := [], laidByText := true, laidKinds := [.data, .data], laidTests := true, laidLooks := .later }
def LostCardSaid : Prop := Claim7.holds Tryd.pinned (.plain (OpenSpec.ofChange lostSpec)) lostCard

/-- THE TIED CARD OF 'boltholekeep.RecoverGood'. -/
def recoverGoodCard : Claim7 := { stood := { row := recoverGoodRow, standIns := [], harness := (true, "6bdd55f1a876662b41ada47b605d3301f3e4211db23fee731f9b3337123ad846"), looks := false }, kinds := [], alts := [], laidByText := true, laidKinds := [.data, .data, .data, .data, .data], laidTests := true, laidLooks := .later }
def RecoverGoodCardSaid : Prop := Claim7.holds Tryd.pinned (.plain (OpenSpec.ofChange recoverGoodSpec)) recoverGoodCard

/-- THE TIED CARD OF 'boltholekeep.RecoverLines'. -/
def recoverLinesCard : Claim7 := { stood := { row := recoverLinesRow, standIns := [], harness := (true, "6bdd55f1a876662b41ada47b605d3301f3e4211db23fee731f9b3337123ad846"), looks := false }, kinds := [], alts := [], laidByText := true, laidKinds := [.data, .data, .data, .data, .data], laidTests := true, laidLooks := .later }
def RecoverLinesCardSaid : Prop := Claim7.holds Tryd.pinned (.plain (OpenSpec.ofChange recoverLinesSpec)) recoverLinesCard

/-- THE TIED CARD OF 'boltholekeep.BlocksEnd'. -/
def blocksEndCard : Claim7 := { stood := { row := blocksEndRow, standIns := [], harness := (true, "6bdd55f1a876662b41ada47b605d3301f3e4211db23fee731f9b3337123ad846"), looks := false }, kinds := [], alts := [], laidByText := true, laidKinds := [.data, .data, .data, .data, .data], laidTests := true, laidLooks := .later }
def BlocksEndCardSaid : Prop := Claim7.holds Tryd.pinned (.plain (OpenSpec.ofChange blocksEndSpec)) blocksEndCard

/-- THE TIED CARD OF 'boltholekeep.CallsNamed'. -/
def callsNamedCard : Claim7 := { stood := { row := callsNamedRow, standIns := [], harness := (true, "6bdd55f1a876662b41ada47b605d3301f3e4211db23fee731f9b3337123ad846"), looks := false }, kinds := [], alts := [], laidByText := true, laidKinds := [.data, .data, .data, .data, .data], laidTests := true, laidLooks := .later }
def CallsNamedCardSaid : Prop := Claim7.holds Tryd.pinned (.plain (OpenSpec.ofChange callsNamedSpec)) callsNamedCard

/-- THE TIED CARD OF 'boltholekeep.TablesGo'. -/
def tablesGoCard : Claim7 := { stood := { row := tablesGoRow, standIns := [], harness := (true, "6bdd55f1a876662b41ada47b605d3301f3e4211db23fee731f9b3337123ad846"), looks := false }, kinds := [], alts := [], laidByText := true, laidKinds := [.data, .data], laidTests := true, laidLooks := .later }
def TablesGoCardSaid : Prop := Claim7.holds Tryd.pinned (.plain (OpenSpec.ofChange tablesGoSpec)) tablesGoCard

/-- THE TIED CARD OF 'boltholekeep.FuelRuns'. -/
def fuelRunsCard : Claim7 := { stood := { row := fuelRunsRow, standIns := [], harness := (true, "6bdd55f1a876662b41ada47b605d3301f3e4211db23fee731f9b3337123ad846"), looks := false }, kinds := [], alts := [], laidByText := true, laidKinds := [.data, .data, .data, .data, .data], laidTests := true, laidLooks := .later }
def FuelRunsCardSaid : Prop := Claim7.holds Tryd.pinned (.plain (OpenSpec.ofChange fuelRunsSpec)) fuelRunsCard

/-- THE TIED CARD OF 'boltholekeep.InputsIn'. -/
def inputsInCard : Claim7 := { stood := { row := inputsInRow, standIns := [], harness := (true, "6bdd55f1a876662b41ada47b605d3301f3e4211db23fee731f9b3337123ad846"), looks := false }, kinds := [], alts := [], laidByText := true, laidKinds := [.data, .data, .data, .data, .data], laidTests := true, laidLooks := .later }
def InputsInCardSaid : Prop := Claim7.holds Tryd.pinned (.plain (OpenSpec.ofChange inputsInSpec)) inputsInCard

/-- THE SECOND FORM's CARD OF 'boltholekeep.ImageNames'. -/
def imageNamesUptoCard : Claim7 := { stood := { row := imageNamesUptoRow, standIns := [], harness := (true, "6bdd55f1a876662b41ada47b605d3301f3e4211db23fee731f9b3337123ad846"), looks := false }, kinds := [], alts := [], laidByText := true, laidKinds := [.data, .data, .data, .data, .data], laidTests := true, laidLooks := .later }
def ImageNamesUptoCardSaid : Prop := Claim7.holds Tryd.pinned (.plain (OpenSpec.upto imageNamesSpec)) imageNamesUptoCard

/-- THE SECOND FORM's CARD OF 'boltholekeep.LinesAt'. -/
def linesAtUptoCard : Claim7 := { stood := { row := linesAtUptoRow, standIns := [], harness := (true, "6bdd55f1a876662b41ada47b605d3301f3e4211db23fee731f9b3337123ad846"), looks := false }, kinds := [], alts := [], laidByText := true, laidKinds := [.data, .data, .data, .data, .data], laidTests := true, laidLooks := .later }
def LinesAtUptoCardSaid : Prop := Claim7.holds Tryd.pinned (.plain (OpenSpec.upto linesAtSpec)) linesAtUptoCard

/-- THE SECOND FORM's CARD OF 'boltholekeep.ImageApart'. -/
def imageApartUptoCard : Claim7 := { stood := { row := imageApartUptoRow, standIns := [], harness := (true, "6bdd55f1a876662b41ada47b605d3301f3e4211db23fee731f9b3337123ad846"), looks := false }, kinds := [], alts := [], laidByText := true, laidKinds := [.data, .data, .data, .data, .data], laidTests := true, laidLooks := .later }
def ImageApartUptoCardSaid : Prop := Claim7.holds Tryd.pinned (.plain (OpenSpec.upto imageApartSpec)) imageApartUptoCard

/-- THE SECOND FORM's CARD OF 'boltholekeep.ImageBack'. -/
def imageBackUptoCard : Claim7 := { stood := { row := imageBackUptoRow, standIns := [], harness := (true, "6bdd55f1a876662b41ada47b605d3301f3e4211db23fee731f9b3337123ad846"), looks := false }, kinds := [], alts := [], laidByText := true, laidKinds := [.data, .data, .data, .data, .data], laidTests := true, laidLooks := .later }
def ImageBackUptoCardSaid : Prop := Claim7.holds Tryd.pinned (.plain (OpenSpec.upto imageBackSpec)) imageBackUptoCard

/-- THE SECOND FORM's CARD OF 'boltholekeep.Lost'. -/
def lostUptoCard : Claim7 := { stood := { row := lostUptoRow, standIns := [], harness := (true, "6bdd55f1a876662b41ada47b605d3301f3e4211db23fee731f9b3337123ad846"), looks := false }, kinds := [], alts := [], laidByText := true, laidKinds := [.data, .data], laidTests := true, laidLooks := .later }
def LostUptoCardSaid : Prop := Claim7.holds Tryd.pinned (.plain (OpenSpec.upto lostSpec)) lostUptoCard

/-- THE SECOND FORM's CARD OF 'boltholekeep.RecoverGood'. -/
def recoverGoodUptoCard : Claim7 := { stood := { row := recoverGoodUptoRow, standIns := [], harness := (true, "6bdd55f1a876662b41ada47b605d3301f3e4211db23fee731f9b3337123ad846"), looks := false }, kinds := [], alts := [], laidByText := true, laidKinds := [.data, .data, .data, .data, .data], laidTests := true, laidLooks := .later }
def RecoverGoodUptoCardSaid : Prop := Claim7.holds Tryd.pinned (.plain (OpenSpec.upto recoverGoodSpec)) recoverGoodUptoCard

/-- THE SECOND FORM's CARD OF 'boltholekeep.RecoverLines'. -/
def recoverLinesUptoCard : Claim7 := { stood := { row := recoverLinesUptoRow, standIns := [], harness := (true, "6bdd55f1a876662b41ada47b605d3301f3e4211db23fee731f9b3337123ad846"), looks := false }, kinds := [], alts := [], laidByText := true, laidKinds := [.data, .data, .data, .data, .data], laidTests := true, laidLooks := .later }
def RecoverLinesUptoCardSaid : Prop := Claim7.holds Tryd.pinned (.plain (OpenSpec.upto recoverLinesSpec)) recoverLinesUptoCard

/-- THE SECOND FORM's CARD OF 'boltholekeep.BlocksEnd'. -/
def blocksEndUptoCard : Claim7 := { stood := { row := blocksEndUptoRow, standIns := [], harness := (true, "6bdd55f1a876662b41ada47b605d3301f3e4211db23fee731f9b3337123ad846"), looks := false }, kinds := [], alts := [], laidByText := true, laidKinds := [.data, .data, .data, .data, .data], laidTests := true, laidLooks := .later }
def BlocksEndUptoCardSaid : Prop := Claim7.holds Tryd.pinned (.plain (OpenSpec.upto blocksEndSpec)) blocksEndUptoCard

/-- THE SECOND FORM's CARD OF 'boltholekeep.CallsNamed'. -/
def callsNamedUptoCard : Claim7 := { stood := { row := callsNamedUptoRow, standIns := [], harness := (true, "6bdd55f1a876662b41ada47b605d3301f3e4211db23fee731f9b3337123ad846"), looks := false }, kinds := [], alts := [], laidByText := true, laidKinds := [.data, .data, .data, .data, .data], laidTests := true, laidLooks := .later }
def CallsNamedUptoCardSaid : Prop := Claim7.holds Tryd.pinned (.plain (OpenSpec.upto callsNamedSpec)) callsNamedUptoCard

/-- THE SECOND FORM's CARD OF 'boltholekeep.TablesGo'. -/
def tablesGoUptoCard : Claim7 := { stood := { row := tablesGoUptoRow, standIns := [], harness := (true, "6bdd55f1a876662b41ada47b605d3301f3e4211db23fee731f9b3337123ad846"), looks := false }, kinds := [], alts := [], laidByText := true, laidKinds := [.data, .data], laidTests := true, laidLooks := .later }
def TablesGoUptoCardSaid : Prop := Claim7.holds Tryd.pinned (.plain (OpenSpec.upto tablesGoSpec)) tablesGoUptoCard

/-- THE SECOND FORM's CARD OF 'boltholekeep.FuelRuns'. -/
def fuelRunsUptoCard : Claim7 := { stood := { row := fuelRunsUptoRow, standIns := [], harness := (true, "6bdd55f1a876662b41ada47b605d3301f3e4211db23fee731f9b3337123ad846"), looks := false }, kinds := [], alts := [], laidByText := true, laidKinds := [.data, .data, .data, .data, .data], laidTests := true, laidLooks := .later }
def FuelRunsUptoCardSaid : Prop := Claim7.holds Tryd.pinned (.plain (OpenSpec.upto fuelRunsSpec)) fuelRunsUptoCard

/-- THE SECOND FORM's CARD OF 'boltholekeep.InputsIn'. -/
def inputsInUptoCard : Claim7 := { stood := { row := inputsInUptoRow, standIns := [], harness := (true, "6bdd55f1a876662b41ada47b605d3301f3e4211db23fee731f9b3337123ad846"), looks := false }, kinds := [], alts := [], laidByText := true, laidKinds := [.data, .data, .data, .data, .data], laidTests := true, laidLooks := .later }
def InputsInUptoCardSaid : Prop := Claim7.holds Tryd.pinned (.plain (OpenSpec.upto inputsInSpec)) inputsInUptoCard
end Rows
end Go.Proofs.YtodgogjbbdekoaaDoor
