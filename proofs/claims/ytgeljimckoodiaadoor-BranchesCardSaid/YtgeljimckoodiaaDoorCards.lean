/-
  DERIVED. GIVEN WITH THE SEED: THE CARDS: each row of YtgeljimckoodiaaDoorRows.lean that lists a variable, with what it lists TIED to the program's text (the seventh form; the later family's looks); each row that meets fmt, with fmt's text TOLD by the authors' own Lean function (tested against real Go, not proved from fmt's source: count such statements apart). THE CARD IS WHAT COUNTS. Prove the row's statement (the work); the ties are given (YtgeljimckoodiaaDoorTie.lean); close each card by the builder's one call (the guide's Derived/Test/ToyasCard.lean, 'card_holds'). Laid BY PROGRAM, IN A SANDBOX (cutbox-door.mjs). By AI agents, Wed Nov 11 2026. No macro, syntax, notation, axiom, sorry.
-/
import Derived.Test.YtgeljimckoodiaaDoorRows
import GoSem.ClaimSeven
namespace Go.Proofs.YtgeljimckoodiaaDoor
namespace Rows

/-- THE TIED CARD OF 'boltholekeep.Sums'. -/
def sumsCard : Claim7 := { stood := { row := sumsRow, standIns := [], harness := (true, "0b2d71b17bf895a56c8f4fcfc42e5023a9c93e08f57448d01dc3b1e6a9be6ec4"), looks := true }, kinds := [], alts := [], laidByText := true, laidKinds := [.data, .data], laidTests := true, laidLooks := .later }
def SumsCardSaid : Prop := Claim7.holds Tryd.pinned (.plain (OpenSpec.ofChange sumsSpec)) sumsCard

/-- THE TIED CARD OF 'boltholekeep.Bits'. -/
def bitsCard : Claim7 := { stood := { row := bitsRow, standIns := [], harness := (true, "0b2d71b17bf895a56c8f4fcfc42e5023a9c93e08f57448d01dc3b1e6a9be6ec4"), looks := true }, kinds := [], alts := [], laidByText := true, laidKinds := [.data, .data], laidTests := true, laidLooks := .later }
def BitsCardSaid : Prop := Claim7.holds Tryd.pinned (.plain (OpenSpec.ofChange bitsSpec)) bitsCard

/-- THE TIED CARD OF 'boltholekeep.Loops'. -/
def loopsCard : Claim7 := { stood := { row := loopsRow, standIns := [], harness := (true, "0b2d71b17bf895a56c8f4fcfc42e5023a9c93e08f57448d01dc3b1e6a9be6ec4"), looks := true }, kinds := [], alts := [], laidByText := true, laidKinds := [.data, .data], laidTests := true, laidLooks := .later }
def LoopsCardSaid : Prop := Claim7.holds Tryd.pinned (.plain (OpenSpec.ofChange loopsSpec)) loopsCard

/-- THE TIED CARD OF 'boltholekeep.Memory'. -/
def memoryCard : Claim7 := { stood := { row := memoryRow, standIns := [], harness := (true, "0b2d71b17bf895a56c8f4fcfc42e5023a9c93e08f57448d01dc3b1e6a9be6ec4"), looks := true }, kinds := [], alts := [], laidByText := true, laidKinds := [.data, .data], laidTests := true, laidLooks := .later }
def MemoryCardSaid : Prop := Claim7.holds Tryd.pinned (.plain (OpenSpec.ofChange memorySpec)) memoryCard

/-- THE TIED CARD OF 'boltholekeep.Branches'. -/
def branchesCard : Claim7 := { stood := { row := branchesRow, standIns := [], harness := (true, "0b2d71b17bf895a56c8f4fcfc42e5023a9c93e08f57448d01dc3b1e6a9be6ec4"), looks := true }, kinds := [], alts := [], laidByText := true, laidKinds := [.data, .data], laidTests := true, laidLooks := .later }
def BranchesCardSaid : Prop := Claim7.holds Tryd.pinned (.plain (OpenSpec.ofChange branchesSpec)) branchesCard

/-- THE TIED CARD OF 'boltholekeep.Calls'. -/
def callsCard : Claim7 := { stood := { row := callsRow, standIns := [], harness := (true, "0b2d71b17bf895a56c8f4fcfc42e5023a9c93e08f57448d01dc3b1e6a9be6ec4"), looks := true }, kinds := [], alts := [], laidByText := true, laidKinds := [.data, .data], laidTests := true, laidLooks := .later }
def CallsCardSaid : Prop := Claim7.holds Tryd.pinned (.plain (OpenSpec.ofChange callsSpec)) callsCard

/-- THE TIED CARD OF 'boltholekeep.Lost'. -/
def lostCard : Claim7 := { stood := { row := lostRow, standIns := [], harness := (true, "0b2d71b17bf895a56c8f4fcfc42e5023a9c93e08f57448d01dc3b1e6a9be6ec4"), looks := true }, kinds := [], alts := [], laidByText := true, laidKinds := [.data, .data], laidTests := true, laidLooks := .later }
def LostCardSaid : Prop := Claim7.holds Tryd.pinned (.plain (OpenSpec.ofChange lostSpec)) lostCard

/-- THE TIED CARD OF 'boltholekeep.TablesGo'. -/
def tablesGoCard : Claim7 := { stood := { row := tablesGoRow, standIns := [], harness := (true, "0b2d71b17bf895a56c8f4fcfc42e5023a9c93e08f57448d01dc3b1e6a9be6ec4"), looks := true }, kinds := [], alts := [], laidByText := true, laidKinds := [.data, .data], laidTests := true, laidLooks := .later }
def TablesGoCardSaid : Prop := Claim7.holds Tryd.pinned (.plain (OpenSpec.ofChange tablesGoSpec)) tablesGoCard

/-- THE TIED CARD OF 'boltholekeep.InputsIn'. -/
def inputsInCard : Claim7 := { stood := { row := inputsInRow, standIns := [], harness := (true, "0b2d71b17bf895a56c8f4fcfc42e5023a9c93e08f57448d01dc3b1e6a9be6ec4"), looks := true }, kinds := [], alts := [], laidByText := true, laidKinds := [.data, .data, .data, .data, .data], laidTests := true, laidLooks := .later }
def InputsInCardSaid : Prop := Claim7.holds Tryd.pinned (.plain (OpenSpec.ofChange inputsInSpec)) inputsInCard

/-- THE TIED CARD OF 'boltholekeep.TallyBack'. -/
def tallyBackCard : Claim7 := { stood := { row := tallyBackRow, standIns := [], harness := (true, "0b2d71b17bf895a56c8f4fcfc42e5023a9c93e08f57448d01dc3b1e6a9be6ec4"), looks := true }, kinds := [], alts := [], laidByText := true, laidKinds := [.data, .data, .data, .data, .sentinel, .sentinel, .pinned], laidTests := true, laidLooks := .later }
def TallyBackCardSaid : Prop := Claim7.holds Tryd.pinned (.plain (OpenSpec.ofChange tallyBackSpec)) tallyBackCard

/-- THE TIED CARD OF 'boltholekeep.FuelRuns'. -/
def fuelRunsCard : Claim7 := { stood := { row := fuelRunsRow, standIns := [], harness := (true, "0b2d71b17bf895a56c8f4fcfc42e5023a9c93e08f57448d01dc3b1e6a9be6ec4"), looks := true }, kinds := [], alts := [], laidByText := true, laidKinds := [.data, .data, .data, .data, .data], laidTests := true, laidLooks := .later }
def FuelRunsCardSaid : Prop := Claim7.holds Tryd.pinned (.plain (OpenSpec.ofChange fuelRunsSpec)) fuelRunsCard

/-- THE SECOND FORM's CARD OF 'boltholekeep.Sums'. -/
def sumsUptoCard : Claim7 := { stood := { row := sumsUptoRow, standIns := [], harness := (true, "0b2d71b17bf895a56c8f4fcfc42e5023a9c93e08f57448d01dc3b1e6a9be6ec4"), looks := true }, kinds := [], alts := [], laidByText := true, laidKinds := [.data, .data], laidTests := true, laidLooks := .later }
def SumsUptoCardSaid : Prop := Claim7.holds Tryd.pinned (.plain (OpenSpec.upto sumsSpec)) sumsUptoCard

/-- THE SECOND FORM's CARD OF 'boltholekeep.Bits'. -/
def bitsUptoCard : Claim7 := { stood := { row := bitsUptoRow, standIns := [], harness := (true, "0b2d71b17bf895a56c8f4fcfc42e5023a9c93e08f57448d01dc3b1e6a9be6ec4"), looks := true }, kinds := [], alts := [], laidByText := true, laidKinds := [.data, .data], laidTests := true, laidLooks := .later }
def BitsUptoCardSaid : Prop := Claim7.holds Tryd.pinned (.plain (OpenSpec.upto bitsSpec)) bitsUptoCard

/-- THE SECOND FORM's CARD OF 'boltholekeep.Loops'. -/
def loopsUptoCard : Claim7 := { stood := { row := loopsUptoRow, standIns := [], harness := (true, "0b2d71b17bf895a56c8f4fcfc42e5023a9c93e08f57448d01dc3b1e6a9be6ec4"), looks := true }, kinds := [], alts := [], laidByText := true, laidKinds := [.data, .data], laidTests := true, laidLooks := .later }
def LoopsUptoCardSaid : Prop := Claim7.holds Tryd.pinned (.plain (OpenSpec.upto loopsSpec)) loopsUptoCard

/-- THE SECOND FORM's CARD OF 'boltholekeep.Memory'. -/
def memoryUptoCard : Claim7 := { stood := { row := memoryUptoRow, standIns := [], harness := (true, "0b2d71b17bf895a56c8f4fcfc42e5023a9c93e08f57448d01dc3b1e6a9be6ec4"), looks := true }, kinds := [], alts := [], laidByText := true, laidKinds := [.data, .data], laidTests := true, laidLooks := .later }
def MemoryUptoCardSaid : Prop := Claim7.holds Tryd.pinned (.plain (OpenSpec.upto memorySpec)) memoryUptoCard

/-- THE SECOND FORM's CARD OF 'boltholekeep.Branches'. -/
def branchesUptoCard : Claim7 := { stood := { row := branchesUptoRow, standIns := [], harness := (true, "0b2d71b17bf895a56c8f4fcfc42e5023a9c93e08f57448d01dc3b1e6a9be6ec4"), looks := true }, kinds := [], alts := [], laidByText := true, laidKinds := [.data, .data], laidTests := true, laidLooks := .later }
def BranchesUptoCardSaid : Prop := Claim7.holds Tryd.pinned (.plain (OpenSpec.upto branchesSpec)) branchesUptoCard

/-- THE SECOND FORM's CARD OF 'boltholekeep.Calls'. -/
def callsUptoCard : Claim7 := { stood := { row := callsUptoRow, standIns := [], harness := (true, "0b2d71b17bf895a56c8f4fcfc42e5023a9c93e08f57448d01dc3b1e6a9be6ec4"), looks := true }, kinds := [], alts := [], laidByText := true, laidKinds := [.data, .data], laidTests := true, laidLooks := .later }
def CallsUptoCardSaid : Prop := Claim7.holds Tryd.pinned (.plain (OpenSpec.upto callsSpec)) callsUptoCard

/-- THE SECOND FORM's CARD OF 'boltholekeep.Lost'. -/
def lostUptoCard : Claim7 := { stood := { row := lostUptoRow, standIns := [], harness := (true, "0b2d71b17bf895a56c8f4fcfc42e5023a9c93e08f57448d01dc3b1e6a9be6ec4"), looks := true }, kinds := [], alts := [], laidByText := true, laidKinds := [.data, .data], laidTests := true, laidLooks := .later }
def LostUptoCardSaid : Prop := Claim7.holds Tryd.pinned (.plain (OpenSpec.upto lostSpec)) lostUptoCard

/-- THE SECOND FORM's CARD OF 'boltholekeep.TablesGo'. -/
def tablesGoUptoCard : Claim7 := { stood := { row := tablesGoUptoRow, standIns := [], harness := (true, "0b2d71b17bf895a56c8f4fcfc42e5023a9c93e08f57448d01dc3b1e6a9be6ec4"), looks := true }, kinds := [], alts := [], laidByText := true, laidKinds := [.data, .data], laidTests := true, laidLooks := .later }
def TablesGoUptoCardSaid : Prop := Claim7.holds Tryd.pinned (.plain (OpenSpec.upto tablesGoSpec)) tablesGoUptoCard

/-- THE SECOND FORM's CARD OF 'boltholekeep.InputsIn'. -/
def inputsInUptoCard : Claim7 := { stood := { row := inputsInUptoRow, standIns := [], harness := (true, "0b2d71b17bf895a56c8f4fcfc42e5023a9c93e08f57448d01dc3b1e6a9be6ec4"), looks := true }, kinds := [], alts := [], laidByText := true, laidKinds := [.data, .data, .data, .data, .data], laidTests := true, laidLooks := .later }
def InputsInUptoCardSaid : Prop := Claim7.holds Tryd.pinned (.plain (OpenSpec.upto inputsInSpec)) inputsInUptoCard

/-- THE SECOND FORM's CARD OF 'boltholekeep.TallyBack'. -/
def tallyBackUptoCard : Claim7 := { stood := { row := tallyBackUptoRow, standIns := [], harness := (true, "0b2d71b17bf895a56c8f4fcfc42e5023a9c93e08f57448d01dc3b1e6a9be6ec4"), looks := true }, kinds := [], alts := [], laidByText := true, laidKinds := [.data, .data, .data, .data, .sentinel, .sentinel, .pinned], laidTests := true, laidLooks := .later }
def TallyBackUptoCardSaid : Prop := Claim7.holds Tryd.pinned (.plain (OpenSpec.upto tallyBackSpec)) tallyBackUptoCard

/-- THE SECOND FORM's CARD OF 'boltholekeep.FuelRuns'. -/
def fuelRunsUptoCard : Claim7 := { stood := { row := fuelRunsUptoRow, standIns := [], harness := (true, "0b2d71b17bf895a56c8f4fcfc42e5023a9c93e08f57448d01dc3b1e6a9be6ec4"), looks := true }, kinds := [], alts := [], laidByText := true, laidKinds := [.data, .data, .data, .data, .data], laidTests := true, laidLooks := .later }
def FuelRunsUptoCardSaid : Prop := Claim7.holds Tryd.pinned (.plain (OpenSpec.upto fuelRunsSpec)) fuelRunsUptoCard
end Rows
end Go.Proofs.YtgeljimckoodiaaDoor
