/-
  DERIVED. GIVEN WITH THE SEED: THE CARDS: each row of YtbdlmafhcgndeaaDoorRows.lean that lists a variable, with what it lists TIED to the program's text (the seventh form; the later family's looks); each row that meets fmt, with fmt's text TOLD by the authors' own Lean function (tested against real Go, not proved from fmt's source: count such statements apart). THE CARD IS WHAT COUNTS. Prove the row's statement (the work); the ties are given (YtbdlmafhcgndeaaDoorTie.lean); close each card by the builder's one call (the guide's Derived/Test/ToyasCard.lean, 'card_holds'). Laid BY PROGRAM, IN A SANDBOX (cutbox-door.mjs). By AI agents, Wed Nov 11 2026. No macro, syntax, notation, axiom, sorry.
-/
import Derived.Test.YtbdlmafhcgndeaaDoorRows
import GoSem.ClaimSeven
namespace Go.Proofs.YtbdlmafhcgndeaaDoor
namespace Rows

/-- THE TIED CARD OF 'boltholekeep.RecoverLines'. -/
def recoverLinesCard : Claim7 := { stood := { row := recoverLinesRow, standIns := [], harness := (true, "a11acdc2b893c9359e78c4bfcf58896044b2436c0ba84cc4aa996bf953573bd1"), looks := true }, kinds := [], alts := [], laidByText := true, laidKinds := [.data, .data, .data, .data, .data], laidTests := true, laidLooks := .later }
def RecoverLinesCardSaid : Prop := Claim7.holds Tryd.pinned (.plain (OpenSpec.ofChange recoverLinesSpec)) recoverLinesCard

/-- THE TIED CARD OF 'boltholekeep.BlocksEnd'. -/
def blocksEndCard : Claim7 := { stood := { row := blocksEndRow, standIns := [], harness := (true, "a11acdc2b893c9359e78c4bfcf58896044b2436c0ba84cc4aa996bf953573bd1"), looks := true }, kinds := [], alts := [], laidByText := true, laidKinds := [.data, .data, .data, .data, .data], laidTests := true, laidLooks := .later }
def BlocksEndCardSaid : Prop := Claim7.holds Tryd.pinned (.plain (OpenSpec.ofChange blocksEndSpec)) blocksEndCard

/-- THE TIED CARD OF 'boltholekeep.CallsNamed'. -/
def callsNamedCard : Claim7 := { stood := { row := callsNamedRow, standIns := [], harness := (true, "a11acdc2b893c9359e78c4bfcf58896044b2436c0ba84cc4aa996bf953573bd1"), looks := true }, kinds := [], alts := [], laidByText := true, laidKinds := [.data, .data, .data, .data, .data], laidTests := true, laidLooks := .later }
def CallsNamedCardSaid : Prop := Claim7.holds Tryd.pinned (.plain (OpenSpec.ofChange callsNamedSpec)) callsNamedCard

/-- THE TIED CARD OF 'boltholekeep.NextsFew'. -/
def nextsFewCard : Claim7 := { stood := { row := nextsFewRow, standIns := [], harness := (true, "a11acdc2b893c9359e78c4bfcf58896044b2436c0ba84cc4aa996bf953573bd1"), looks := true }, kinds := [], alts := [], laidByText := true, laidKinds := [.data, .data, .data, .data, .data], laidTests := true, laidLooks := .later }
def NextsFewCardSaid : Prop := Claim7.holds Tryd.pinned (.plain (OpenSpec.ofChange nextsFewSpec)) nextsFewCard

/-- THE TIED CARD OF 'boltholekeep.TallyBack'. -/
def tallyBackCard : Claim7 := { stood := { row := tallyBackRow, standIns := [], harness := (true, "a11acdc2b893c9359e78c4bfcf58896044b2436c0ba84cc4aa996bf953573bd1"), looks := true }, kinds := [], alts := [], laidByText := true, laidKinds := [.data, .data, .data, .data, .sentinel, .sentinel, .pinned], laidTests := true, laidLooks := .later }
def TallyBackCardSaid : Prop := Claim7.holds Tryd.pinned (.plain (OpenSpec.ofChange tallyBackSpec)) tallyBackCard

/-- THE TIED CARD OF 'boltholekeep.TallyBad'. -/
def tallyBadCard : Claim7 := { stood := { row := tallyBadRow, standIns := [], harness := (true, "a11acdc2b893c9359e78c4bfcf58896044b2436c0ba84cc4aa996bf953573bd1"), looks := true }, kinds := [], alts := [], laidByText := true, laidKinds := [.data, .data, .data, .data, .sentinel, .sentinel, .data, .data, .pinned], laidTests := true, laidLooks := .later }
def TallyBadCardSaid : Prop := Claim7.holds Tryd.pinned (.plain (OpenSpec.ofChange tallyBadSpec)) tallyBadCard

/-- THE TIED CARD OF 'boltholekeep.OrderBad'. -/
def orderBadCard : Claim7 := { stood := { row := orderBadRow, standIns := [], harness := (true, "a11acdc2b893c9359e78c4bfcf58896044b2436c0ba84cc4aa996bf953573bd1"), looks := true }, kinds := [], alts := [], laidByText := true, laidKinds := [.data, .data, .data, .data, .data], laidTests := true, laidLooks := .later }
def OrderBadCardSaid : Prop := Claim7.holds Tryd.pinned (.plain (OpenSpec.ofChange orderBadSpec)) orderBadCard

/-- THE TIED CARD OF 'boltholekeep.EmitBad'. -/
def emitBadCard : Claim7 := { stood := { row := emitBadRow, standIns := [], harness := (true, "a11acdc2b893c9359e78c4bfcf58896044b2436c0ba84cc4aa996bf953573bd1"), looks := true }, kinds := [], alts := [], laidByText := true, laidKinds := [.data, .data, .data, .data, .data], laidTests := true, laidLooks := .later }
def EmitBadCardSaid : Prop := Claim7.holds Tryd.pinned (.plain (OpenSpec.ofChange emitBadSpec)) emitBadCard

/-- THE TIED CARD OF 'boltholekeep.EmitShort'. -/
def emitShortCard : Claim7 := { stood := { row := emitShortRow, standIns := [], harness := (true, "a11acdc2b893c9359e78c4bfcf58896044b2436c0ba84cc4aa996bf953573bd1"), looks := true }, kinds := [], alts := [], laidByText := true, laidKinds := [.data, .data, .data, .data, .data], laidTests := true, laidLooks := .later }
def EmitShortCardSaid : Prop := Claim7.holds Tryd.pinned (.plain (OpenSpec.ofChange emitShortSpec)) emitShortCard

/-- THE TIED CARD OF 'boltholekeep.EmitPairs'. -/
def emitPairsCard : Claim7 := { stood := { row := emitPairsRow, standIns := [], harness := (true, "a11acdc2b893c9359e78c4bfcf58896044b2436c0ba84cc4aa996bf953573bd1"), looks := true }, kinds := [], alts := [], laidByText := true, laidKinds := [.data, .data, .data, .data, .data], laidTests := true, laidLooks := .later }
def EmitPairsCardSaid : Prop := Claim7.holds Tryd.pinned (.plain (OpenSpec.ofChange emitPairsSpec)) emitPairsCard

/-- THE TIED CARD OF 'boltholekeep.EmitKeeps'. -/
def emitKeepsCard : Claim7 := { stood := { row := emitKeepsRow, standIns := [], harness := (true, "a11acdc2b893c9359e78c4bfcf58896044b2436c0ba84cc4aa996bf953573bd1"), looks := true }, kinds := [], alts := [], laidByText := true, laidKinds := [.data, .data, .data, .data, .data], laidTests := true, laidLooks := .later }
def EmitKeepsCardSaid : Prop := Claim7.holds Tryd.pinned (.plain (OpenSpec.ofChange emitKeepsSpec)) emitKeepsCard

/-- THE SECOND FORM's CARD OF 'boltholekeep.RecoverLines'. -/
def recoverLinesUptoCard : Claim7 := { stood := { row := recoverLinesUptoRow, standIns := [], harness := (true, "a11acdc2b893c9359e78c4bfcf58896044b2436c0ba84cc4aa996bf953573bd1"), looks := true }, kinds := [], alts := [], laidByText := true, laidKinds := [.data, .data, .data, .data, .data], laidTests := true, laidLooks := .later }
def RecoverLinesUptoCardSaid : Prop := Claim7.holds Tryd.pinned (.plain (OpenSpec.upto recoverLinesSpec)) recoverLinesUptoCard

/-- THE SECOND FORM's CARD OF 'boltholekeep.BlocksEnd'. -/
def blocksEndUptoCard : Claim7 := { stood := { row := blocksEndUptoRow, standIns := [], harness := (true, "a11acdc2b893c9359e78c4bfcf58896044b2436c0ba84cc4aa996bf953573bd1"), looks := true }, kinds := [], alts := [], laidByText := true, laidKinds := [.data, .data, .data, .data, .data], laidTests := true, laidLooks := .later }
def BlocksEndUptoCardSaid : Prop := Claim7.holds Tryd.pinned (.plain (OpenSpec.upto blocksEndSpec)) blocksEndUptoCard

/-- THE SECOND FORM's CARD OF 'boltholekeep.CallsNamed'. -/
def callsNamedUptoCard : Claim7 := { stood := { row := callsNamedUptoRow, standIns := [], harness := (true, "a11acdc2b893c9359e78c4bfcf58896044b2436c0ba84cc4aa996bf953573bd1"), looks := true }, kinds := [], alts := [], laidByText := true, laidKinds := [.data, .data, .data, .data, .data], laidTests := true, laidLooks := .later }
def CallsNamedUptoCardSaid : Prop := Claim7.holds Tryd.pinned (.plain (OpenSpec.upto callsNamedSpec)) callsNamedUptoCard

/-- THE SECOND FORM's CARD OF 'boltholekeep.NextsFew'. -/
def nextsFewUptoCard : Claim7 := { stood := { row := nextsFewUptoRow, standIns := [], harness := (true, "a11acdc2b893c9359e78c4bfcf58896044b2436c0ba84cc4aa996bf953573bd1"), looks := true }, kinds := [], alts := [], laidByText := true, laidKinds := [.data, .data, .data, .data, .data], laidTests := true, laidLooks := .later }
def NextsFewUptoCardSaid : Prop := Claim7.holds Tryd.pinned (.plain (OpenSpec.upto nextsFewSpec)) nextsFewUptoCard

/-- THE SECOND FORM's CARD OF 'boltholekeep.TallyBack'. -/
def tallyBackUptoCard : Claim7 := { stood := { row := tallyBackUptoRow, standIns := [], harness := (true, "a11acdc2b893c9359e78c4bfcf58896044b2436c0ba84cc4aa996bf953573bd1"), looks := true }, kinds := [], alts := [], laidByText := true, laidKinds := [.data, .data, .data, .data, .sentinel, .sentinel, .pinned], laidTests := true, laidLooks := .later }
def TallyBackUptoCardSaid : Prop := Claim7.holds Tryd.pinned (.plain (OpenSpec.upto tallyBackSpec)) tallyBackUptoCard

/-- THE SECOND FORM's CARD OF 'boltholekeep.TallyBad'. -/
def tallyBadUptoCard : Claim7 := { stood := { row := tallyBadUptoRow, standIns := [], harness := (true, "a11acdc2b893c9359e78c4bfcf58896044b2436c0ba84cc4aa996bf953573bd1"), looks := true }, kinds := [], alts := [], laidByText := true, laidKinds := [.data, .data, .data, .data, .sentinel, .sentinel, .data, .data, .pinned], laidTests := true, laidLooks := .later }
def TallyBadUptoCardSaid : Prop := Claim7.holds Tryd.pinned (.plain (OpenSpec.upto tallyBadSpec)) tallyBadUptoCard

/-- THE SECOND FORM's CARD OF 'boltholekeep.OrderBad'. -/
def orderBadUptoCard : Claim7 := { stood := { row := orderBadUptoRow, standIns := [], harness := (true, "a11acdc2b893c9359e78c4bfcf58896044b2436c0ba84cc4aa996bf953573bd1"), looks := true }, kinds := [], alts := [], laidByText := true, laidKinds := [.data, .data, .data, .data, .data], laidTests := true, laidLooks := .later }
def OrderBadUptoCardSaid : Prop := Claim7.holds Tryd.pinned (.plain (OpenSpec.upto orderBadSpec)) orderBadUptoCard

/-- THE SECOND FORM's CARD OF 'boltholekeep.EmitBad'. -/
def emitBadUptoCard : Claim7 := { stood := { row := emitBadUptoRow, standIns := [], harness := (true, "a11acdc2b893c9359e78c4bfcf58896044b2436c0ba84cc4aa996bf953573bd1"), looks := true }, kinds := [], alts := [], laidByText := true, laidKinds := [.data, .data, .data, .data, .data], laidTests := true, laidLooks := .later }
def EmitBadUptoCardSaid : Prop := Claim7.holds Tryd.pinned (.plain (OpenSpec.upto emitBadSpec)) emitBadUptoCard

/-- THE SECOND FORM's CARD OF 'boltholekeep.EmitShort'. -/
def emitShortUptoCard : Claim7 := { stood := { row := emitShortUptoRow, standIns := [], harness := (true, "a11acdc2b893c9359e78c4bfcf58896044b2436c0ba84cc4aa996bf953573bd1"), looks := true }, kinds := [], alts := [], laidByText := true, laidKinds := [.data, .data, .data, .data, .data], laidTests := true, laidLooks := .later }
def EmitShortUptoCardSaid : Prop := Claim7.holds Tryd.pinned (.plain (OpenSpec.upto emitShortSpec)) emitShortUptoCard

/-- THE SECOND FORM's CARD OF 'boltholekeep.EmitPairs'. -/
def emitPairsUptoCard : Claim7 := { stood := { row := emitPairsUptoRow, standIns := [], harness := (true, "a11acdc2b893c9359e78c4bfcf58896044b2436c0ba84cc4aa996bf953573bd1"), looks := true }, kinds := [], alts := [], laidByText := true, laidKinds := [.data, .data, .data, .data, .data], laidTests := true, laidLooks := .later }
def EmitPairsUptoCardSaid : Prop := Claim7.holds Tryd.pinned (.plain (OpenSpec.upto emitPairsSpec)) emitPairsUptoCard

/-- THE SECOND FORM's CARD OF 'boltholekeep.EmitKeeps'. -/
def emitKeepsUptoCard : Claim7 := { stood := { row := emitKeepsUptoRow, standIns := [], harness := (true, "a11acdc2b893c9359e78c4bfcf58896044b2436c0ba84cc4aa996bf953573bd1"), looks := true }, kinds := [], alts := [], laidByText := true, laidKinds := [.data, .data, .data, .data, .data], laidTests := true, laidLooks := .later }
def EmitKeepsUptoCardSaid : Prop := Claim7.holds Tryd.pinned (.plain (OpenSpec.upto emitKeepsSpec)) emitKeepsUptoCard
end Rows
end Go.Proofs.YtbdlmafhcgndeaaDoor
