/-
  DERIVED. GIVEN WITH THE SEED: THE CARDS: each row of YtlekjnnofhjgjaaDoorRows.lean that lists a variable, with what it lists TIED to the program's text (the seventh form; the later family's looks); each row that meets fmt, with fmt's text TOLD by the authors' own Lean function (tested against real Go, not proved from fmt's source: count such statements apart). THE CARD IS WHAT COUNTS. Prove the row's statement (the work); the ties are given (YtlekjnnofhjgjaaDoorTie.lean); close each card by the builder's one call (the guide's Derived/Test/ToyasCard.lean, 'card_holds'). Laid BY PROGRAM, IN A SANDBOX (cutbox-door.mjs). By AI agents, Wed Nov 11 2026. No macro, syntax, notation, axiom, sorry.
-/
import Derived.Test.YtlekjnnofhjgjaaDoorRows
import GoSem.ClaimSeven
namespace Go.Proofs.YtlekjnnofhjgjaaDoor
namespace Rows

/-- THE TIED CARD OF 'boltholekeep.Lost'. -/
def lostCard : Claim7 := { stood := { row := lostRow, standIns := [], harness := (true, "7d5e24f5d7265f6cda785c647ed8d7317f49df2e0ee15fede7d546d12c199493"), looks := true }, kinds := [], alts := [], laidByText := true, laidKinds := [.data, .data], laidTests := true, laidLooks := .later }
def LostCardSaid : Prop := Claim7.holds Tryd.pinned (.plain (OpenSpec.ofChange lostSpec)) lostCard

/-- THE TIED CARD OF 'boltholekeep.RecoverGood'. -/
def recoverGoodCard : Claim7 := { stood := { row := recoverGoodRow, standIns := [], harness := (true, "7d5e24f5d7265f6cda785c647ed8d7317f49df2e0ee15fede7d546d12c199493"), looks := true }, kinds := [], alts := [], laidByText := true, laidKinds := [.data, .data, .data, .data, .data], laidTests := true, laidLooks := .later }
def RecoverGoodCardSaid : Prop := Claim7.holds Tryd.pinned (.plain (OpenSpec.ofChange recoverGoodSpec)) recoverGoodCard

/-- THE TIED CARD OF 'boltholekeep.RecoverLines'. -/
def recoverLinesCard : Claim7 := { stood := { row := recoverLinesRow, standIns := [], harness := (true, "7d5e24f5d7265f6cda785c647ed8d7317f49df2e0ee15fede7d546d12c199493"), looks := true }, kinds := [], alts := [], laidByText := true, laidKinds := [.data, .data, .data, .data, .data], laidTests := true, laidLooks := .later }
def RecoverLinesCardSaid : Prop := Claim7.holds Tryd.pinned (.plain (OpenSpec.ofChange recoverLinesSpec)) recoverLinesCard

/-- THE TIED CARD OF 'boltholekeep.BlocksEnd'. -/
def blocksEndCard : Claim7 := { stood := { row := blocksEndRow, standIns := [], harness := (true, "7d5e24f5d7265f6cda785c647ed8d7317f49df2e0ee15fede7d546d12c199493"), looks := true }, kinds := [], alts := [], laidByText := true, laidKinds := [.data, .data, .data, .data, .data], laidTests := true, laidLooks := .later }
def BlocksEndCardSaid : Prop := Claim7.holds Tryd.pinned (.plain (OpenSpec.ofChange blocksEndSpec)) blocksEndCard

/-- THE TIED CARD OF 'boltholekeep.CallsNamed'. -/
def callsNamedCard : Claim7 := { stood := { row := callsNamedRow, standIns := [], harness := (true, "7d5e24f5d7265f6cda785c647ed8d7317f49df2e0ee15fede7d546d12c199493"), looks := true }, kinds := [], alts := [], laidByText := true, laidKinds := [.data, .data, .data, .data, .data], laidTests := true, laidLooks := .later }
def CallsNamedCardSaid : Prop := Claim7.holds Tryd.pinned (.plain (OpenSpec.ofChange callsNamedSpec)) callsNamedCard

/-- THE TIED CARD OF 'boltholekeep.TablesGo'. -/
def tablesGoCard : Claim7 := { stood := { row := tablesGoRow, standIns := [], harness := (true, "7d5e24f5d7265f6cda785c647ed8d7317f49df2e0ee15fede7d546d12c199493"), looks := true }, kinds := [], alts := [], laidByText := true, laidKinds := [.data, .data], laidTests := true, laidLooks := .later }
def TablesGoCardSaid : Prop := Claim7.holds Tryd.pinned (.plain (OpenSpec.ofChange tablesGoSpec)) tablesGoCard

/-- THE TIED CARD OF 'boltholekeep.ImageBad'. -/
def imageBadCard : Claim7 := { stood := { row := imageBadRow, standIns := [], harness := (true, "7d5e24f5d7265f6cda785c647ed8d7317f49df2e0ee15fede7d546d12c199493"), looks := true }, kinds := [], alts := [], laidByText := true, laidKinds := [.data, .data, .data, .data, .data], laidTests := true, laidLooks := .later }
def ImageBadCardSaid : Prop := Claim7.holds Tryd.pinned (.plain (OpenSpec.ofChange imageBadSpec)) imageBadCard

/-- THE TIED CARD OF 'boltholekeep.RecoverBad'. -/
def recoverBadCard : Claim7 := { stood := { row := recoverBadRow, standIns := [], harness := (true, "7d5e24f5d7265f6cda785c647ed8d7317f49df2e0ee15fede7d546d12c199493"), looks := true }, kinds := [], alts := [], laidByText := true, laidKinds := [.data, .data, .data, .data, .data], laidTests := true, laidLooks := .later }
def RecoverBadCardSaid : Prop := Claim7.holds Tryd.pinned (.plain (OpenSpec.ofChange recoverBadSpec)) recoverBadCard

/-- THE TIED CARD OF 'boltholekeep.NextsFew'. -/
def nextsFewCard : Claim7 := { stood := { row := nextsFewRow, standIns := [], harness := (true, "7d5e24f5d7265f6cda785c647ed8d7317f49df2e0ee15fede7d546d12c199493"), looks := true }, kinds := [], alts := [], laidByText := true, laidKinds := [.data, .data, .data, .data, .data], laidTests := true, laidLooks := .later }
def NextsFewCardSaid : Prop := Claim7.holds Tryd.pinned (.plain (OpenSpec.ofChange nextsFewSpec)) nextsFewCard

/-- THE TIED CARD OF 'boltholekeep.TallyBack'. -/
def tallyBackCard : Claim7 := { stood := { row := tallyBackRow, standIns := [], harness := (true, "7d5e24f5d7265f6cda785c647ed8d7317f49df2e0ee15fede7d546d12c199493"), looks := true }, kinds := [], alts := [], laidByText := true, laidKinds := [.data, .data, .data, .data, .sentinel, .sentinel, .pinned], laidTests := true, laidLooks := .later }
def TallyBackCardSaid : Prop := Claim7.holds Tryd.pinned (.plain (OpenSpec.ofChange tallyBackSpec)) tallyBackCard

/-- THE TIED CARD OF 'boltholekeep.TallyBad'. -/
def tallyBadCard : Claim7 := { stood := { row := tallyBadRow, standIns := [], harness := (true, "7d5e24f5d7265f6cda785c647ed8d7317f49df2e0ee15fede7d546d12c199493"), looks := true }, kinds := [], alts := [], laidByText := true, laidKinds := [.data, .data, .data, .data, .sentinel, .sentinel, .data, .data, .pinned], laidTests := true, laidLooks := .later }
def TallyBadCardSaid : Prop := Claim7.holds Tryd.pinned (.plain (OpenSpec.ofChange tallyBadSpec)) tallyBadCard

/-- THE SECOND FORM's CARD OF 'boltholekeep.Lost'. -/
def lostUptoCard : Claim7 := { stood := { row := lostUptoRow, standIns := [], harness := (true, "7d5e24f5d7265f6cda785c647ed8d7317f49df2e0ee15fede7d546d12c199493"), looks := true }, kinds := [], alts := [], laidByText := true, laidKinds := [.data, .data], laidTests := true, laidLooks := .later }
def LostUptoCardSaid : Prop := Claim7.holds Tryd.pinned (.plain (OpenSpec.upto lostSpec)) lostUptoCard

/-- THE SECOND FORM's CARD OF 'boltholekeep.RecoverGood'. -/
def recoverGoodUptoCard : Claim7 := { stood := { row := recoverGoodUptoRow, standIns := [], harness := (true, "7d5e24f5d7265f6cda785c647ed8d7317f49df2e0ee15fede7d546d12c199493"), looks := true }, kinds := [], alts := [], laidByText := true, laidKinds := [.data, .data, .data, .data, .data], laidTests := true, laidLooks := .later }
def RecoverGoodUptoCardSaid : Prop := Claim7.holds Tryd.pinned (.plain (OpenSpec.upto recoverGoodSpec)) recoverGoodUptoCard

/-- THE SECOND FORM's CARD OF 'boltholekeep.RecoverLines'. -/
def recoverLinesUptoCard : Claim7 := { stood := { row := recoverLinesUptoRow, standIns := [], harness := (true, "7d5e24f5d7265f6cda785c647ed8d7317f49df2e0ee15fede7d546d12c199493"), looks := true }, kinds := [], alts := [], laidByText := true, laidKinds := [.data, .data, .data, .data, .data], laidTests := true, laidLooks := .later }
def RecoverLinesUptoCardSaid : Prop := Claim7.holds Tryd.pinned (.plain (OpenSpec.upto recoverLinesSpec)) recoverLinesUptoCard

/-- THE SECOND FORM's CARD OF 'boltholekeep.BlocksEnd'. -/
def blocksEndUptoCard : Claim7 := { stood := { row := blocksEndUptoRow, standIns := [], harness := (true, "7d5e24f5d7265f6cda785c647ed8d7317f49df2e0ee15fede7d546d12c199493"), looks := true }, kinds := [], alts := [], laidByText := true, laidKinds := [.data, .data, .data, .data, .data], laidTests := true, laidLooks := .later }
def BlocksEndUptoCardSaid : Prop := Claim7.holds Tryd.pinned (.plain (OpenSpec.upto blocksEndSpec)) blocksEndUptoCard

/-- THE SECOND FORM's CARD OF 'boltholekeep.CallsNamed'. -/
def callsNamedUptoCard : Claim7 := { stood := { row := callsNamedUptoRow, standIns := [], harness := (true, "7d5e24f5d7265f6cda785c647ed8d7317f49df2e0ee15fede7d546d12c199493"), looks := true }, kinds := [], alts := [], laidByText := true, laidKinds := [.data, .data, .data, .data, .data], laidTests := true, laidLooks := .later }
def CallsNamedUptoCardSaid : Prop := Claim7.holds Tryd.pinned (.plain (OpenSpec.upto callsNamedSpec)) callsNamedUptoCard

/-- THE SECOND FORM's CARD OF 'boltholekeep.TablesGo'. -/
def tablesGoUptoCard : Claim7 := { stood := { row := tablesGoUptoRow, standIns := [], harness := (true, "7d5e24f5d7265f6cda785c647ed8d7317f49df2e0ee15fede7d546d12c199493"), looks := true }, kinds := [], alts := [], laidByText := true, laidKinds := [.data, .data], laidTests := true, laidLooks := .later }
def TablesGoUptoCardSaid : Prop := Claim7.holds Tryd.pinned (.plain (OpenSpec.upto tablesGoSpec)) tablesGoUptoCard

/-- THE SECOND FORM's CARD OF 'boltholekeep.ImageBad'. -/
def imageBadUptoCard : Claim7 := { stood := { row := imageBadUptoRow, standIns := [], harness := (true, "7d5e24f5d7265f6cda785c647ed8d7317f49df2e0ee15fede7d546d12c199493"), looks := true }, kinds := [], alts := [], laidByText := true, laidKinds := [.data, .data, .data, .data, .data], laidTests := true, laidLooks := .later }
def ImageBadUptoCardSaid : Prop := Claim7.holds Tryd.pinned (.plain (OpenSpec.upto imageBadSpec)) imageBadUptoCard

/-- THE SECOND FORM's CARD OF 'boltholekeep.RecoverBad'. -/
def recoverBadUptoCard : Claim7 := { stood := { row := recoverBadUptoRow, standIns := [], harness := (true, "7d5e24f5d7265f6cda785c647ed8d7317f49df2e0ee15fede7d546d12c199493"), looks := true }, kinds := [], alts := [], laidByText := true, laidKinds := [.data, .data, .data, .data, .data], laidTests := true, laidLooks := .later }
def RecoverBadUptoCardSaid : Prop := Claim7.holds Tryd.pinned (.plain (OpenSpec.upto recoverBadSpec)) recoverBadUptoCard

/-- THE SECOND FORM's CARD OF 'boltholekeep.NextsFew'. -/
def nextsFewUptoCard : Claim7 := { stood := { row := nextsFewUptoRow, standIns := [], harness := (true, "7d5e24f5d7265f6cda785c647ed8d7317f49df2e0ee15fede7d546d12c199493"), looks := true }, kinds := [], alts := [], laidByText := true, laidKinds := [.data, .data, .data, .data, .data], laidTests := true, laidLooks := .later }
def NextsFewUptoCardSaid : Prop := Claim7.holds Tryd.pinned (.plain (OpenSpec.upto nextsFewSpec)) nextsFewUptoCard

/-- THE SECOND FORM's CARD OF 'boltholekeep.TallyBack'. -/
def tallyBackUptoCard : Claim7 := { stood := { row := tallyBackUptoRow, standIns := [], harness := (true, "7d5e24f5d7265f6cda785c647ed8d7317f49df2e0ee15fede7d546d12c199493"), looks := true }, kinds := [], alts := [], laidByText := true, laidKinds := [.data, .data, .data, .data, .sentinel, .sentinel, .pinned], laidTests := true, laidLooks := .later }
def TallyBackUptoCardSaid : Prop := Claim7.holds Tryd.pinned (.plain (OpenSpec.upto tallyBackSpec)) tallyBackUptoCard

/-- THE SECOND FORM's CARD OF 'boltholekeep.TallyBad'. -/
def tallyBadUptoCard : Claim7 := { stood := { row := tallyBadUptoRow, standIns := [], harness := (true, "7d5e24f5d7265f6cda785c647ed8d7317f49df2e0ee15fede7d546d12c199493"), looks := true }, kinds := [], alts := [], laidByText := true, laidKinds := [.data, .data, .data, .data, .sentinel, .sentinel, .data, .data, .pinned], laidTests := true, laidLooks := .later }
def TallyBadUptoCardSaid : Prop := Claim7.holds Tryd.pinned (.plain (OpenSpec.upto tallyBadSpec)) tallyBadUptoCard
end Rows
end Go.Proofs.YtlekjnnofhjgjaaDoor
