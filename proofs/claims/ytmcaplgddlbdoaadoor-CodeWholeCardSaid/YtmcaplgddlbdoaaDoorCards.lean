/-
  DERIVED. GIVEN WITH THE SEED: THE CARDS: each row of YtmcaplgddlbdoaaDoorRows.lean that lists a variable, with what it lists TIED to the program's text (the seventh form; the later family's looks); each row that meets fmt, with fmt's text TOLD by the authors' own Lean function (tested against real Go, not proved from fmt's source: count such statements apart). THE CARD IS WHAT COUNTS. Prove the row's statement (the work); the ties are given (YtmcaplgddlbdoaaDoorTie.lean); close each card by the builder's one call (the guide's Derived/Test/ToyasCard.lean, 'card_holds'). Laid BY PROGRAM, IN A SANDBOX (cutbox-door.mjs). By AI agents, Wed Nov 11 2026. No macro, syntax, notation, axiom, sorry.
-/
import Derived.Test.YtmcaplgddlbdoaaDoorRows
import GoSem.ClaimSeven
namespace Go.Proofs.YtmcaplgddlbdoaaDoor
namespace Rows

/-- THE TIED CARD OF 'boltholekeep.SizeKinds'. -/
def sizeKindsCard : Claim7 := { stood := { row := sizeKindsRow, standIns := [], harness := (true, "0a9c7e7ef6ebe0f0302283722c713bed7a59b999a66c9499e4864bca47241fef"), looks := false }, kinds := [], alts := [], laidByText := true, laidKinds := [.data, .data], laidTests := true, laidLooks := .later }
def SizeKindsCardSaid : Prop := Claim7.holds Tryd.pinned (.plain (OpenSpec.ofChange sizeKindsSpec)) sizeKindsCard

/-- THE TIED CARD OF 'boltholekeep.InstrFixed'. -/
def instrFixedCard : Claim7 := { stood := { row := instrFixedRow, standIns := [], harness := (true, "0a9c7e7ef6ebe0f0302283722c713bed7a59b999a66c9499e4864bca47241fef"), looks := false }, kinds := [], alts := [], laidByText := true, laidKinds := [.data, .data], laidTests := true, laidLooks := .later }
def InstrFixedCardSaid : Prop := Claim7.holds Tryd.pinned (.plain (OpenSpec.ofChange instrFixedSpec)) instrFixedCard

/-- THE TIED CARD OF 'boltholekeep.InstrTorn'. -/
def instrTornCard : Claim7 := { stood := { row := instrTornRow, standIns := [], harness := (true, "0a9c7e7ef6ebe0f0302283722c713bed7a59b999a66c9499e4864bca47241fef"), looks := false }, kinds := [], alts := [], laidByText := true, laidKinds := [.data, .data], laidTests := true, laidLooks := .later }
def InstrTornCardSaid : Prop := Claim7.holds Tryd.pinned (.plain (OpenSpec.ofChange instrTornSpec)) instrTornCard

/-- THE TIED CARD OF 'boltholekeep.FirstBytes'. -/
def firstBytesCard : Claim7 := { stood := { row := firstBytesRow, standIns := [], harness := (true, "0a9c7e7ef6ebe0f0302283722c713bed7a59b999a66c9499e4864bca47241fef"), looks := false }, kinds := [], alts := [], laidByText := true, laidKinds := [.data, .data], laidTests := true, laidLooks := .later }
def FirstBytesCardSaid : Prop := Claim7.holds Tryd.pinned (.plain (OpenSpec.ofChange firstBytesSpec)) firstBytesCard

/-- THE TIED CARD OF 'boltholekeep.CodeWhole'. -/
def codeWholeCard : Claim7 := { stood := { row := codeWholeRow, standIns := [], harness := (true, "0a9c7e7ef6ebe0f0302283722c713bed7a59b999a66c9499e4864bca47241fef"), looks := false }, kinds := [], alts := [], laidByText := true, laidKinds := [.data, .data], laidTests := true, laidLooks := .later }
def CodeWholeCardSaid : Prop := Claim7.holds Tryd.pinned (.plain (OpenSpec.ofChange codeWholeSpec)) codeWholeCard

/-- THE TIED CARD OF 'boltholekeep.InstrBack'. -/
def instrBackCard : Claim7 := { stood := { row := instrBackRow, standIns := [], harness := (true, "0a9c7e7ef6ebe0f0302283722c713bed7a59b999a66c9499e4864bca47241fef"), looks := false }, kinds := [], alts := [], laidByText := true, laidKinds := [.data, .data], laidTests := true, laidLooks := .later }
def InstrBackCardSaid : Prop := Claim7.holds Tryd.pinned (.plain (OpenSpec.ofChange instrBackSpec)) instrBackCard

/-- THE TIED CARD OF 'boltholekeep.InstrBad'. -/
def instrBadCard : Claim7 := { stood := { row := instrBadRow, standIns := [], harness := (true, "0a9c7e7ef6ebe0f0302283722c713bed7a59b999a66c9499e4864bca47241fef"), looks := false }, kinds := [], alts := [], laidByText := true, laidKinds := [.data, .data], laidTests := true, laidLooks := .later }
def InstrBadCardSaid : Prop := Claim7.holds Tryd.pinned (.plain (OpenSpec.ofChange instrBadSpec)) instrBadCard

/-- THE SECOND FORM's CARD OF 'boltholekeep.SizeKinds'. -/
def sizeKindsUptoCard : Claim7 := { stood := { row := sizeKindsUptoRow, standIns := [], harness := (true, "0a9c7e7ef6ebe0f0302283722c713bed7a59b999a66c9499e4864bca47241fef"), looks := false }, kinds := [], alts := [], laidByText := true, laidKinds := [.data, .data], laidTests := true, laidLooks := .later }
def SizeKindsUptoCardSaid : Prop := Claim7.holds Tryd.pinned (.plain (OpenSpec.upto sizeKindsSpec)) sizeKindsUptoCard

/-- THE SECOND FORM's CARD OF 'boltholekeep.InstrFixed'. -/
def instrFixedUptoCard : Claim7 := { stood := { row := instrFixedUptoRow, standIns := [], harness := (true, "0a9c7e7ef6ebe0f0302283722c713bed7a59b999a66c9499e4864bca47241fef"), looks := false }, kinds := [], alts := [], laidByText := true, laidKinds := [.data, .data], laidTests := true, laidLooks := .later }
def InstrFixedUptoCardSaid : Prop := Claim7.holds Tryd.pinned (.plain (OpenSpec.upto instrFixedSpec)) instrFixedUptoCard

/-- THE SECOND FORM's CARD OF 'boltholekeep.InstrTorn'. -/
def instrTornUptoCard : Claim7 := { stood := { row := instrTornUptoRow, standIns := [], harness := (true, "0a9c7e7ef6ebe0f0302283722c713bed7a59b999a66c9499e4864bca47241fef"), looks := false }, kinds := [], alts := [], laidByText := true, laidKinds := [.data, .data], laidTests := true, laidLooks := .later }
def InstrTornUptoCardSaid : Prop := Claim7.holds Tryd.pinned (.plain (OpenSpec.upto instrTornSpec)) instrTornUptoCard

/-- THE SECOND FORM's CARD OF 'boltholekeep.FirstBytes'. -/
def firstBytesUptoCard : Claim7 := { stood := { row := firstBytesUptoRow, standIns := [], harness := (true, "0a9c7e7ef6ebe0f0302283722c713bed7a59b999a66c9499e4864bca47241fef"), looks := false }, kinds := [], alts := [], laidByText := true, laidKinds := [.data, .data], laidTests := true, laidLooks := .later }
def FirstBytesUptoCardSaid : Prop := Claim7.holds Tryd.pinned (.plain (OpenSpec.upto firstBytesSpec)) firstBytesUptoCard

/-- THE SECOND FORM's CARD OF 'boltholekeep.CodeWhole'. -/
def codeWholeUptoCard : Claim7 := { stood := { row := codeWholeUptoRow, standIns := [], harness := (true, "0a9c7e7ef6ebe0f0302283722c713bed7a59b999a66c9499e4864bca47241fef"), looks := false }, kinds := [], alts := [], laidByText := true, laidKinds := [.data, .data], laidTests := true, laidLooks := .later }
def CodeWholeUptoCardSaid : Prop := Claim7.holds Tryd.pinned (.plain (OpenSpec.upto codeWholeSpec)) codeWholeUptoCard

/-- THE SECOND FORM's CARD OF 'boltholekeep.InstrBack'. -/
def instrBackUptoCard : Claim7 := { stood := { row := instrBackUptoRow, standIns := [], harness := (true, "0a9c7e7ef6ebe0f0302283722c713bed7a59b999a66c9499e4864bca47241fef"), looks := false }, kinds := [], alts := [], laidByText := true, laidKinds := [.data, .data], laidTests := true, laidLooks := .later }
def InstrBackUptoCardSaid : Prop := Claim7.holds Tryd.pinned (.plain (OpenSpec.upto instrBackSpec)) instrBackUptoCard

/-- THE SECOND FORM's CARD OF 'boltholekeep.InstrBad'. -/
def instrBadUptoCard : Claim7 := { stood := { row := instrBadUptoRow, standIns := [], harness := (true, "0a9c7e7ef6ebe0f0302283722c713bed7a59b999a66c9499e4864bca47241fef"), looks := false }, kinds := [], alts := [], laidByText := true, laidKinds := [.data, .data], laidTests := true, laidLooks := .later }
def InstrBadUptoCardSaid : Prop := Claim7.holds Tryd.pinned (.plain (OpenSpec.upto instrBadSpec)) instrBadUptoCard
end Rows
end Go.Proofs.YtmcaplgddlbdoaaDoor
