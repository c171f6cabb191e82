/-
  DERIVED. GIVEN WITH THE SEED: THE CARDS: each row of YtcafhoobeggmeaaDoorRows.lean that lists a variable, with what it lists TIED to the program's text (the seventh form; the later family's looks); each row that meets fmt, with fmt's text TOLD by the authors' own Lean function (tested against real Go, not proved from fmt's source: count such statements apart). THE CARD IS WHAT COUNTS. Prove the row's statement (the work); the ties are given (YtcafhoobeggmeaaDoorTie.lean); close each card by the builder's one call (the guide's Derived/Test/ToyasCard.lean, 'card_holds'). Laid BY PROGRAM, IN A SANDBOX (cutbox-door.mjs). By AI agents, Wed Nov 11 2026. No macro, syntax, notation, axiom, sorry.
-/
import Derived.Test.YtcafhoobeggmeaaDoorRows
import GoSem.ClaimSeven
namespace Go.Proofs.YtcafhoobeggmeaaDoor
namespace Rows

/-- THE TIED CARD OF 'boltholekeep.TallyBack'. -/
def tallyBackCard : Claim7 := { stood := { row := tallyBackRow, standIns := [], harness := (true, "4fb88a3f02e9414254eb74873d2b15f00208fe42b733a25d78491437e24fe246"), looks := true }, kinds := [], alts := [], laidByText := true, laidKinds := [.data, .data, .data, .data, .sentinel, .sentinel, .pinned], laidTests := true, laidLooks := .later }
def TallyBackCardSaid : Prop := Claim7.holds Tryd.pinned (.plain (OpenSpec.ofChange tallyBackSpec)) tallyBackCard

/-- THE TIED CARD OF 'boltholekeep.EmitPairs'. -/
def emitPairsCard : Claim7 := { stood := { row := emitPairsRow, standIns := [], harness := (true, "4fb88a3f02e9414254eb74873d2b15f00208fe42b733a25d78491437e24fe246"), looks := true }, kinds := [], alts := [], laidByText := true, laidKinds := [.data, .data, .data, .data, .data], laidTests := true, laidLooks := .later }
def EmitPairsCardSaid : Prop := Claim7.holds Tryd.pinned (.plain (OpenSpec.ofChange emitPairsSpec)) emitPairsCard

/-- THE TIED CARD OF 'boltholekeep.EmitBad'. -/
def emitBadCard : Claim7 := { stood := { row := emitBadRow, standIns := [], harness := (true, "4fb88a3f02e9414254eb74873d2b15f00208fe42b733a25d78491437e24fe246"), looks := true }, kinds := [], alts := [], laidByText := true, laidKinds := [.data, .data, .data, .data, .data], laidTests := true, laidLooks := .later }
def EmitBadCardSaid : Prop := Claim7.holds Tryd.pinned (.plain (OpenSpec.ofChange emitBadSpec)) emitBadCard

/-- THE TIED CARD OF 'boltholekeep.EmitTables'. -/
def emitTablesCard : Claim7 := { stood := { row := emitTablesRow, standIns := [], harness := (true, "4fb88a3f02e9414254eb74873d2b15f00208fe42b733a25d78491437e24fe246"), looks := true }, kinds := [], alts := [], laidByText := true, laidKinds := [.data, .data, .data, .data, .data], laidTests := true, laidLooks := .later }
def EmitTablesCardSaid : Prop := Claim7.holds Tryd.pinned (.plain (OpenSpec.ofChange emitTablesSpec)) emitTablesCard

/-- THE TIED CARD OF 'boltholekeep.EmitCalls'. -/
def emitCallsCard : Claim7 := { stood := { row := emitCallsRow, standIns := [], harness := (true, "4fb88a3f02e9414254eb74873d2b15f00208fe42b733a25d78491437e24fe246"), looks := true }, kinds := [], alts := [], laidByText := true, laidKinds := [.data, .data, .data, .data, .data], laidTests := true, laidLooks := .later }
def EmitCallsCardSaid : Prop := Claim7.holds Tryd.pinned (.plain (OpenSpec.ofChange emitCallsSpec)) emitCallsCard

/-- THE TIED CARD OF 'boltholekeep.TallyBad'. -/
def tallyBadCard : Claim7 := { stood := { row := tallyBadRow, standIns := [], harness := (true, "4fb88a3f02e9414254eb74873d2b15f00208fe42b733a25d78491437e24fe246"), looks := true }, kinds := [], alts := [], laidByText := true, laidKinds := [.data, .data, .data, .data, .sentinel, .sentinel, .data, .data, .pinned], laidTests := true, laidLooks := .later }
def TallyBadCardSaid : Prop := Claim7.holds Tryd.pinned (.plain (OpenSpec.ofChange tallyBadSpec)) tallyBadCard

/-- THE SECOND FORM's CARD OF 'boltholekeep.TallyBack'. -/
def tallyBackUptoCard : Claim7 := { stood := { row := tallyBackUptoRow, standIns := [], harness := (true, "4fb88a3f02e9414254eb74873d2b15f00208fe42b733a25d78491437e24fe246"), looks := true }, kinds := [], alts := [], laidByText := true, laidKinds := [.data, .data, .data, .data, .sentinel, .sentinel, .pinned], laidTests := true, laidLooks := .later }
def TallyBackUptoCardSaid : Prop := Claim7.holds Tryd.pinned (.plain (OpenSpec.upto tallyBackSpec)) tallyBackUptoCard

/-- THE SECOND FORM's CARD OF 'boltholekeep.EmitPairs'. -/
def emitPairsUptoCard : Claim7 := { stood := { row := emitPairsUptoRow, standIns := [], harness := (true, "4fb88a3f02e9414254eb74873d2b15f00208fe42b733a25d78491437e24fe246"), looks := true }, kinds := [], alts := [], laidByText := true, laidKinds := [.data, .data, .data, .data, .data], laidTests := true, laidLooks := .later }
def EmitPairsUptoCardSaid : Prop := Claim7.holds Tryd.pinned (.plain (OpenSpec.upto emitPairsSpec)) emitPairsUptoCard

/-- THE SECOND FORM's CARD OF 'boltholekeep.EmitBad'. -/
def emitBadUptoCard : Claim7 := { stood := { row := emitBadUptoRow, standIns := [], harness := (true, "4fb88a3f02e9414254eb74873d2b15f00208fe42b733a25d78491437e24fe246"), looks := true }, kinds := [], alts := [], laidByText := true, laidKinds := [.data, .data, .data, .data, .data], laidTests := true, laidLooks := .later }
def EmitBadUptoCardSaid : Prop := Claim7.holds Tryd.pinned (.plain (OpenSpec.upto emitBadSpec)) emitBadUptoCard

/-- THE SECOND FORM's CARD OF 'boltholekeep.EmitTables'. -/
def emitTablesUptoCard : Claim7 := { stood := { row := emitTablesUptoRow, standIns := [], harness := (true, "4fb88a3f02e9414254eb74873d2b15f00208fe42b733a25d78491437e24fe246"), looks := true }, kinds := [], alts := [], laidByText := true, laidKinds := [.data, .data, .data, .data, .data], laidTests := true, laidLooks := .later }
def EmitTablesUptoCardSaid : Prop := Claim7.holds Tryd.pinned (.plain (OpenSpec.upto emitTablesSpec)) emitTablesUptoCard

/-- THE SECOND FORM's CARD OF 'boltholekeep.EmitCalls'. -/
def emitCallsUptoCard : Claim7 := { stood := { row := emitCallsUptoRow, standIns := [], harness := (true, "4fb88a3f02e9414254eb74873d2b15f00208fe42b733a25d78491437e24fe246"), looks := true }, kinds := [], alts := [], laidByText := true, laidKinds := [.data, .data, .data, .data, .data], laidTests := true, laidLooks := .later }
def EmitCallsUptoCardSaid : Prop := Claim7.holds Tryd.pinned (.plain (OpenSpec.upto emitCallsSpec)) emitCallsUptoCard

/-- THE SECOND FORM's CARD OF 'boltholekeep.TallyBad'. -/
def tallyBadUptoCard : Claim7 := { stood := { row := tallyBadUptoRow, standIns := [], harness := (true, "4fb88a3f02e9414254eb74873d2b15f00208fe42b733a25d78491437e24fe246"), looks := true }, kinds := [], alts := [], laidByText := true, laidKinds := [.data, .data, .data, .data, .sentinel, .sentinel, .data, .data, .pinned], laidTests := true, laidLooks := .later }
def TallyBadUptoCardSaid : Prop := Claim7.holds Tryd.pinned (.plain (OpenSpec.upto tallyBadSpec)) tallyBadUptoCard
end Rows
end Go.Proofs.YtcafhoobeggmeaaDoor
