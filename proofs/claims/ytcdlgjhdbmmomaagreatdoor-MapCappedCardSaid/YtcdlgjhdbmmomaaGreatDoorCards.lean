/-
  DERIVED. GIVEN WITH THE SEED: THE CARDS: each row of YtcdlgjhdbmmomaaGreatDoorRows.lean that lists a variable, with what it lists TIED to the program's text (the seventh form; the later family's looks); each row that meets fmt, with fmt's text TOLD by the authors' own Lean function (tested against real Go, not proved from fmt's source: count such statements apart). THE CARD IS WHAT COUNTS. Prove the row's statement (the work); the ties are given (YtcdlgjhdbmmomaaGreatDoorTie.lean); close each card by the builder's one call (the guide's Derived/Test/ToyasCard.lean, 'card_holds'). Laid BY PROGRAM, IN A SANDBOX (cutbox-door.mjs). By AI agents, Wed Nov 11 2026. No macro, syntax, notation, axiom, sorry.
-/
import Derived.Test.YtcdlgjhdbmmomaaGreatDoorRows
import GoSem.ClaimSeven
namespace Go.Proofs.YtcdlgjhdbmmomaaGreatDoor
namespace Rows

/-- THE TIED CARD OF 'boltholekeep.MapFits'. -/
def mapFitsCard : Claim7 := { stood := { row := mapFitsRow, standIns := [], harness := (true, "44c3257cfbd0c8f7cbe4854790121416d0606c626e78282bed0a53b7d02bfb63"), looks := true }, kinds := [], alts := [], laidByText := true, laidKinds := [.data, .data, .data, .data, .sentinel, .sentinel, .data, .data, .pinned], laidTests := true, laidLooks := .later }
def MapFitsCardSaid : Prop := Claim7.holds Tryz.pinned (.plain (OpenSpec.ofChange mapFitsSpec)) mapFitsCard

/-- THE TIED CARD OF 'boltholekeep.MapCapped'. -/
def mapCappedCard : Claim7 := { stood := { row := mapCappedRow, standIns := [], harness := (true, "44c3257cfbd0c8f7cbe4854790121416d0606c626e78282bed0a53b7d02bfb63"), looks := true }, kinds := [], alts := [], laidByText := true, laidKinds := [.data, .data, .data, .data, .sentinel, .sentinel, .data, .data, .pinned], laidTests := true, laidLooks := .later }
def MapCappedCardSaid : Prop := Claim7.holds Tryz.pinned (.plain (OpenSpec.ofChange mapCappedSpec)) mapCappedCard

/-- THE TIED CARD OF 'boltholekeep.MapSums'. -/
def mapSumsCard : Claim7 := { stood := { row := mapSumsRow, standIns := [], harness := (true, "44c3257cfbd0c8f7cbe4854790121416d0606c626e78282bed0a53b7d02bfb63"), looks := true }, kinds := [], alts := [], laidByText := true, laidKinds := [.data, .data, .data, .data, .sentinel, .sentinel, .data, .data, .pinned], laidTests := true, laidLooks := .later }
def MapSumsCardSaid : Prop := Claim7.holds Tryz.pinned (.plain (OpenSpec.ofChange mapSumsSpec)) mapSumsCard

/-- THE TIED CARD OF 'boltholekeep.OrderAll'. -/
def orderAllCard : Claim7 := { stood := { row := orderAllRow, standIns := [], harness := (true, "44c3257cfbd0c8f7cbe4854790121416d0606c626e78282bed0a53b7d02bfb63"), looks := true }, kinds := [], alts := [], laidByText := true, laidKinds := [.data, .data, .data, .data, .sentinel, .sentinel, .data, .data, .pinned], laidTests := true, laidLooks := .later }
def OrderAllCardSaid : Prop := Claim7.holds Tryz.pinned (.plain (OpenSpec.ofChange orderAllSpec)) orderAllCard

/-- THE TIED CARD OF 'boltholekeep.OrderNone'. -/
def orderNoneCard : Claim7 := { stood := { row := orderNoneRow, standIns := [], harness := (true, "44c3257cfbd0c8f7cbe4854790121416d0606c626e78282bed0a53b7d02bfb63"), looks := true }, kinds := [], alts := [], laidByText := true, laidKinds := [.data, .data, .data, .data, .sentinel, .sentinel, .data, .data, .pinned], laidTests := true, laidLooks := .later }
def OrderNoneCardSaid : Prop := Claim7.holds Tryz.pinned (.plain (OpenSpec.ofChange orderNoneSpec)) orderNoneCard

/-- THE TIED CARD OF 'boltholekeep.OrderHot'. -/
def orderHotCard : Claim7 := { stood := { row := orderHotRow, standIns := [], harness := (true, "44c3257cfbd0c8f7cbe4854790121416d0606c626e78282bed0a53b7d02bfb63"), looks := true }, kinds := [], alts := [], laidByText := true, laidKinds := [.data, .data, .data, .data, .sentinel, .sentinel, .data, .data, .pinned], laidTests := true, laidLooks := .later }
def OrderHotCardSaid : Prop := Claim7.holds Tryz.pinned (.plain (OpenSpec.ofChange orderHotSpec)) orderHotCard

/-- THE TIED CARD OF 'boltholekeep.OrderChains'. -/
def orderChainsCard : Claim7 := { stood := { row := orderChainsRow, standIns := [], harness := (true, "44c3257cfbd0c8f7cbe4854790121416d0606c626e78282bed0a53b7d02bfb63"), looks := true }, kinds := [], alts := [], laidByText := true, laidKinds := [.data, .data, .data, .data, .sentinel, .sentinel, .data, .data, .pinned], laidTests := true, laidLooks := .later }
def OrderChainsCardSaid : Prop := Claim7.holds Tryz.pinned (.plain (OpenSpec.ofChange orderChainsSpec)) orderChainsCard

/-- THE TIED CARD OF 'boltholekeep.OrderFuncs'. -/
def orderFuncsCard : Claim7 := { stood := { row := orderFuncsRow, standIns := [], harness := (true, "44c3257cfbd0c8f7cbe4854790121416d0606c626e78282bed0a53b7d02bfb63"), looks := true }, kinds := [], alts := [], laidByText := true, laidKinds := [.data, .data, .data, .data, .sentinel, .sentinel, .data, .data, .pinned], laidTests := true, laidLooks := .later }
def OrderFuncsCardSaid : Prop := Claim7.holds Tryz.pinned (.plain (OpenSpec.ofChange orderFuncsSpec)) orderFuncsCard

/-- THE TIED CARD OF 'boltholekeep.OrderScale'. -/
def orderScaleCard : Claim7 := { stood := { row := orderScaleRow, standIns := [], harness := (true, "44c3257cfbd0c8f7cbe4854790121416d0606c626e78282bed0a53b7d02bfb63"), looks := true }, kinds := [], alts := [], laidByText := true, laidKinds := [.data, .data, .data, .data, .sentinel, .sentinel, .data, .data, .pinned], laidTests := true, laidLooks := .later }
def OrderScaleCardSaid : Prop := Claim7.holds Tryz.pinned (.plain (OpenSpec.ofChange orderScaleSpec)) orderScaleCard

/-- THE SECOND FORM's CARD OF 'boltholekeep.MapFits'. -/
def mapFitsUptoCard : Claim7 := { stood := { row := mapFitsUptoRow, standIns := [], harness := (true, "44c3257cfbd0c8f7cbe4854790121416d0606c626e78282bed0a53b7d02bfb63"), looks := true }, kinds := [], alts := [], laidByText := true, laidKinds := [.data, .data, .data, .data, .sentinel, .sentinel, .data, .data, .pinned], laidTests := true, laidLooks := .later }
def MapFitsUptoCardSaid : Prop := Claim7.holds Tryz.pinned (.plain (OpenSpec.upto mapFitsSpec)) mapFitsUptoCard

/-- THE SECOND FORM's CARD OF 'boltholekeep.MapCapped'. -/
def mapCappedUptoCard : Claim7 := { stood := { row := mapCappedUptoRow, standIns := [], harness := (true, "44c3257cfbd0c8f7cbe4854790121416d0606c626e78282bed0a53b7d02bfb63"), looks := true }, kinds := [], alts := [], laidByText := true, laidKinds := [.data, .data, .data, .data, .sentinel, .sentinel, .data, .data, .pinned], laidTests := true, laidLooks := .later }
def MapCappedUptoCardSaid : Prop := Claim7.holds Tryz.pinned (.plain (OpenSpec.upto mapCappedSpec)) mapCappedUptoCard

/-- THE SECOND FORM's CARD OF 'boltholekeep.MapSums'. -/
def mapSumsUptoCard : Claim7 := { stood := { row := mapSumsUptoRow, standIns := [], harness := (true, "44c3257cfbd0c8f7cbe4854790121416d0606c626e78282bed0a53b7d02bfb63"), looks := true }, kinds := [], alts := [], laidByText := true, laidKinds := [.data, .data, .data, .data, .sentinel, .sentinel, .data, .data, .pinned], laidTests := true, laidLooks := .later }
def MapSumsUptoCardSaid : Prop := Claim7.holds Tryz.pinned (.plain (OpenSpec.upto mapSumsSpec)) mapSumsUptoCard

/-- THE SECOND FORM's CARD OF 'boltholekeep.OrderAll'. -/
def orderAllUptoCard : Claim7 := { stood := { row := orderAllUptoRow, standIns := [], harness := (true, "44c3257cfbd0c8f7cbe4854790121416d0606c626e78282bed0a53b7d02bfb63"), looks := true }, kinds := [], alts := [], laidByText := true, laidKinds := [.data, .data, .data, .data, .sentinel, .sentinel, .data, .data, .pinned], laidTests := true, laidLooks := .later }
def OrderAllUptoCardSaid : Prop := Claim7.holds Tryz.pinned (.plain (OpenSpec.upto orderAllSpec)) orderAllUptoCard

/-- THE SECOND FORM's CARD OF 'boltholekeep.OrderNone'. -/
def orderNoneUptoCard : Claim7 := { stood := { row := orderNoneUptoRow, standIns := [], harness := (true, "44c3257cfbd0c8f7cbe4854790121416d0606c626e78282bed0a53b7d02bfb63"), looks := true }, kinds := [], alts := [], laidByText := true, laidKinds := [.data, .data, .data, .data, .sentinel, .sentinel, .data, .data, .pinned], laidTests := true, laidLooks := .later }
def OrderNoneUptoCardSaid : Prop := Claim7.holds Tryz.pinned (.plain (OpenSpec.upto orderNoneSpec)) orderNoneUptoCard

/-- THE SECOND FORM's CARD OF 'boltholekeep.OrderHot'. -/
def orderHotUptoCard : Claim7 := { stood := { row := orderHotUptoRow, standIns := [], harness := (true, "44c3257cfbd0c8f7cbe4854790121416d0606c626e78282bed0a53b7d02bfb63"), looks := true }, kinds := [], alts := [], laidByText := true, laidKinds := [.data, .data, .data, .data, .sentinel, .sentinel, .data, .data, .pinned], laidTests := true, laidLooks := .later }
def OrderHotUptoCardSaid : Prop := Claim7.holds Tryz.pinned (.plain (OpenSpec.upto orderHotSpec)) orderHotUptoCard

/-- THE SECOND FORM's CARD OF 'boltholekeep.OrderChains'. -/
def orderChainsUptoCard : Claim7 := { stood := { row := orderChainsUptoRow, standIns := [], harness := (true, "44c3257cfbd0c8f7cbe4854790121416d0606c626e78282bed0a53b7d02bfb63"), looks := true }, kinds := [], alts := [], laidByText := true, laidKinds := [.data, .data, .data, .data, .sentinel, .sentinel, .data, .data, .pinned], laidTests := true, laidLooks := .later }
def OrderChainsUptoCardSaid : Prop := Claim7.holds Tryz.pinned (.plain (OpenSpec.upto orderChainsSpec)) orderChainsUptoCard

/-- THE SECOND FORM's CARD OF 'boltholekeep.OrderFuncs'. -/
def orderFuncsUptoCard : Claim7 := { stood := { row := orderFuncsUptoRow, standIns := [], harness := (true, "44c3257cfbd0c8f7cbe4854790121416d0606c626e78282bed0a53b7d02bfb63"), looks := true }, kinds := [], alts := [], laidByText := true, laidKinds := [.data, .data, .data, .data, .sentinel, .sentinel, .data, .data, .pinned], laidTests := true, laidLooks := .later }
def OrderFuncsUptoCardSaid : Prop := Claim7.holds Tryz.pinned (.plain (OpenSpec.upto orderFuncsSpec)) orderFuncsUptoCard

/-- THE SECOND FORM's CARD OF 'boltholekeep.OrderScale'. -/
def orderScaleUptoCard : Claim7 := { stood := { row := orderScaleUptoRow, standIns := [], harness := (true, "44c3257cfbd0c8f7cbe4854790121416d0606c626e78282bed0a53b7d02bfb63"), looks := true }, kinds := [], alts := [], laidByText := true, laidKinds := [.data, .data, .data, .data, .sentinel, .sentinel, .data, .data, .pinned], laidTests := true, laidLooks := .later }
def OrderScaleUptoCardSaid : Prop := Claim7.holds Tryz.pinned (.plain (OpenSpec.upto orderScaleSpec)) orderScaleUptoCard
end Rows
end Go.Proofs.YtcdlgjhdbmmomaaGreatDoor
