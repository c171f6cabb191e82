/-
  NARROWER THAN 'FOR EVERY INPUT', by the rows' own cells (each row's printed sentence says how): SizeKinds: laid · InstrFixed: laid · InstrTorn: laid · FirstBytes: laid · CodeWhole: laid · InstrBack: laid · InstrBad: laid.
  DERIVED. THE GIVEN ROWS OF THIS SEAT. 7 by the template 'for every input the law returns true; each argument reads behind the call as it read before'; 0 by the template 'total and deterministic' (their statements: YtmcaplgddlbdoaaDoorTotals.lean).
  GIVEN WITH THE SEED: the statements are not yours to turn. If you find one false, say at which input.
  Laid BY PROGRAM, IN A SANDBOX (cutbox-rows.mjs): the forced cells as the released guide's own fill.sh prints them over the translation b373ab9e88efcea7… (all of the seat's roots in one cut). By AI agents, Wed Nov 11 2026. No macro, syntax, notation, axiom, sorry.
-/
import Derived.Test.YtmcaplgddlbdoaaDoorChecked
import GoSem.Claim
import GoSem.ClaimJoined
import GoSem.ClaimMapViews
import Derived.JoinedTies
import Derived.KernelRfl
namespace Go.Proofs.YtmcaplgddlbdoaaDoor
/- THE CELL 'sum', in the pinned program and in every row, IS THE sha256 OF THE DUMP (.gsa) THAT YtmcaplgddlbdoaaDoorProg.lean LOADS. Nothing in Lean hashes anything: it is a label: what it is worth is what the hold of that sum in a sandbox is worth. -/
noncomputable def Tryd.pinned : Pinned := { name := "ytmcaplgddlbdoaadoor", sum := "b373ab9e88efcea7c475abe094ece7412f9eb0028143a8782b0b283c47be6bf3", checked := Tryd.checked }
namespace Rows
def none {H : Type} : Left H := { results := [], args := [] }

/- WHAT THE LISTED PACKAGE-LEVEL VARIABLES READ AS WHEN THE CALL BEGINS. Each datum BY PROGRAM (the guide's laid-datum.mjs) off the statement by which the dump's own 'gosem.cut.vars' lays the variable. In a bare row this is a premise. The card (YtmcaplgddlbdoaaDoorCards.lean) ties it to the program's text. -/
def laid_bolthole_isa_rows {H : Type} : DataW H := .agg [.agg [.lit (.int .u8 0), .lit (.int .u8 0), .lit (.int .i64 0)], .agg [.lit (.int .u8 0), .lit (.int .u8 0), .lit (.int .i64 1)], .agg [.lit (.int .u8 1), .lit (.int .u8 0), .lit (.int .i64 1)], .agg [.lit (.int .u8 2), .lit (.int .u8 0), .lit (.int .i64 1)], .agg [.lit (.int .u8 3), .lit (.int .u8 0), .lit (.int .i64 1)], .agg [.lit (.int .u8 16), .lit (.int .u8 0), .lit (.int .i64 2)], .agg [.lit (.int .u8 17), .lit (.int .u8 0), .lit (.int .i64 3)], .agg [.lit (.int .u8 32), .lit (.int .u8 0), .lit (.int .i64 4)], .agg [.lit (.int .u8 33), .lit (.int .u8 0), .lit (.int .i64 4)], .agg [.lit (.int .u8 34), .lit (.int .u8 0), .lit (.int .i64 4)], .agg [.lit (.int .u8 35), .lit (.int .u8 0), .lit (.int .i64 4)], .agg [.lit (.int .u8 36), .lit (.int .u8 0), .lit (.int .i64 4)], .agg [.lit (.int .u8 37), .lit (.int .u8 0), .lit (.int .i64 4)], .agg [.lit (.int .u8 38), .lit (.int .u8 0), .lit (.int .i64 4)], .agg [.lit (.int .u8 48), .lit (.int .u8 0), .lit (.int .i64 3)], .agg [.lit (.int .u8 49), .lit (.int .u8 0), .lit (.int .i64 5)], .agg [.lit (.int .u8 64), .lit (.int .u8 0), .lit (.int .i64 6)], .agg [.lit (.int .u8 65), .lit (.int .u8 0), .lit (.int .i64 7)], .agg [.lit (.int .u8 80), .lit (.int .u8 84), .lit (.int .i64 8)], .agg [.lit (.int .u8 81), .lit (.int .u8 85), .lit (.int .i64 8)], .agg [.lit (.int .u8 82), .lit (.int .u8 86), .lit (.int .i64 8)], .agg [.lit (.int .u8 83), .lit (.int .u8 87), .lit (.int .i64 8)], .agg [.lit (.int .u8 96), .lit (.int .u8 97), .lit (.int .i64 9)], .agg [.lit (.int .u8 98), .lit (.int .u8 0), .lit (.int .i64 10)], .agg [.lit (.int .u8 99), .lit (.int .u8 0), .lit (.int .i64 11)]]
def laid_bolthole_isa_sizes {H : Type} : DataW H := .agg [.lit (.int .i64 0), .lit (.int .i64 1), .lit (.int .i64 4), .lit (.int .i64 3), .lit (.int .i64 3), .lit (.int .i64 3), .lit (.int .i64 2), .lit (.int .i64 2), .lit (.int .i64 3), .lit (.int .i64 2), .lit (.int .i64 3), .lit (.int .i64 3)]

/-- 'boltholekeep.SizeKinds': WHATEVER THE INPUT: true; the input reads as it did. -/
def sizeKindsSpec : ChangeSpec := { name := "sizeKinds", fn := fun _ => fun
  | [d] => { results := [.lit (.bool true)], args := [d] }
  | _ => none }
def sizeKindsRow : OpenClaim := { program := "ytmcaplgddlbdoaadoor", sum := "b373ab9e88efcea7c475abe094ece7412f9eb0028143a8782b0b283c47be6bf3", func := "bolthole/boltholekeep.SizeKinds", spec := "sizeKinds", named := ["bolthole/isa.rows", "bolthole/isa.sizes"], apart := false, laid := [("bolthole/isa.rows", laid_bolthole_isa_rows), ("bolthole/isa.sizes", laid_bolthole_isa_sizes)] }
def SizeKindsSaid : Prop := sizeKindsRow.holds Tryd.pinned (OpenSpec.ofChange sizeKindsSpec)

/-- ITS FALSE NEIGHBOUR: 'it returns false'. Refute it at one input. -/
def sizeKindsWrong : ChangeSpec := { name := "sizeKinds", fn := fun _ => fun
  | [d] => { results := [.lit (.bool false)], args := [d] }
  | _ => none }
def SizeKindsWrongFalsely : Prop := sizeKindsRow.holds Tryd.pinned (OpenSpec.ofChange sizeKindsWrong)

/-- 'boltholekeep.InstrFixed': WHATEVER THE INPUT: true; the input reads as it did. -/
def instrFixedSpec : ChangeSpec := { name := "instrFixed", fn := fun _ => fun
  | [d] => { results := [.lit (.bool true)], args := [d] }
  | _ => none }
def instrFixedRow : OpenClaim := { program := "ytmcaplgddlbdoaadoor", sum := "b373ab9e88efcea7c475abe094ece7412f9eb0028143a8782b0b283c47be6bf3", func := "bolthole/boltholekeep.InstrFixed", spec := "instrFixed", unfollowed := true, recurses := true, named := ["bolthole/isa.rows", "bolthole/isa.sizes"], apart := false, laid := [("bolthole/isa.rows", laid_bolthole_isa_rows), ("bolthole/isa.sizes", laid_bolthole_isa_sizes)] }
def InstrFixedSaid : Prop := instrFixedRow.holds Tryd.pinned (OpenSpec.ofChange instrFixedSpec)

/-- ITS FALSE NEIGHBOUR: 'it returns false'. Refute it at one input. -/
def instrFixedWrong : ChangeSpec := { name := "instrFixed", fn := fun _ => fun
  | [d] => { results := [.lit (.bool false)], args := [d] }
  | _ => none }
def InstrFixedWrongFalsely : Prop := instrFixedRow.holds Tryd.pinned (OpenSpec.ofChange instrFixedWrong)

/-- 'boltholekeep.InstrTorn': WHATEVER THE INPUT: true; the input reads as it did. -/
def instrTornSpec : ChangeSpec := { name := "instrTorn", fn := fun _ => fun
  | [d1, d2, d3] => { results := [.lit (.bool true)], args := [d1, d2, d3] }
  | _ => none }
def instrTornRow : OpenClaim := { program := "ytmcaplgddlbdoaadoor", sum := "b373ab9e88efcea7c475abe094ece7412f9eb0028143a8782b0b283c47be6bf3", func := "bolthole/boltholekeep.InstrTorn", spec := "instrTorn", unfollowed := true, recurses := true, named := ["bolthole/isa.rows", "bolthole/isa.sizes"], apart := false, laid := [("bolthole/isa.rows", laid_bolthole_isa_rows), ("bolthole/isa.sizes", laid_bolthole_isa_sizes)] }
def InstrTornSaid : Prop := instrTornRow.holds Tryd.pinned (OpenSpec.ofChange instrTornSpec)

/-- ITS FALSE NEIGHBOUR: 'it returns false'. Refute it at one input. -/
def instrTornWrong : ChangeSpec := { name := "instrTorn", fn := fun _ => fun
  | [d1, d2, d3] => { results := [.lit (.bool false)], args := [d1, d2, d3] }
  | _ => none }
def InstrTornWrongFalsely : Prop := instrTornRow.holds Tryd.pinned (OpenSpec.ofChange instrTornWrong)

/-- 'boltholekeep.FirstBytes': WHATEVER THE INPUT: true; the input reads as it did. -/
def firstBytesSpec : ChangeSpec := { name := "firstBytes", fn := fun _ => fun
  | [d1, d2] => { results := [.lit (.bool true)], args := [d1, d2] }
  | _ => none }
def firstBytesRow : OpenClaim := { program := "ytmcaplgddlbdoaadoor", sum := "b373ab9e88efcea7c475abe094ece7412f9eb0028143a8782b0b283c47be6bf3", func := "bolthole/boltholekeep.FirstBytes", spec := "firstBytes", unfollowed := true, recurses := true, named := ["bolthole/isa.rows", "bolthole/isa.sizes"], apart := false, laid := [("bolthole/isa.rows", laid_bolthole_isa_rows), ("bolthole/isa.sizes", laid_bolthole_isa_sizes)] }
def FirstBytesSaid : Prop := firstBytesRow.holds Tryd.pinned (OpenSpec.ofChange firstBytesSpec)

/-- ITS FALSE NEIGHBOUR: 'it returns false'. Refute it at one input. -/
def firstBytesWrong : ChangeSpec := { name := "firstBytes", fn := fun _ => fun
  | [d1, d2] => { results := [.lit (.bool false)], args := [d1, d2] }
  | _ => none }
def FirstBytesWrongFalsely : Prop := firstBytesRow.holds Tryd.pinned (OpenSpec.ofChange firstBytesWrong)

/-- 'boltholekeep.CodeWhole': WHATEVER THE INPUT: true; the input reads as it did. -/
def codeWholeSpec : ChangeSpec := { name := "codeWhole", fn := fun _ => fun
  | [d1, d2] => { results := [.lit (.bool true)], args := [d1, d2] }
  | _ => none }
def codeWholeRow : OpenClaim := { program := "ytmcaplgddlbdoaadoor", sum := "b373ab9e88efcea7c475abe094ece7412f9eb0028143a8782b0b283c47be6bf3", func := "bolthole/boltholekeep.CodeWhole", spec := "codeWhole", unfollowed := true, recurses := true, named := ["bolthole/isa.rows", "bolthole/isa.sizes"], apart := false, laid := [("bolthole/isa.rows", laid_bolthole_isa_rows), ("bolthole/isa.sizes", laid_bolthole_isa_sizes)] }
def CodeWholeSaid : Prop := codeWholeRow.holds Tryd.pinned (OpenSpec.ofChange codeWholeSpec)

/-- ITS FALSE NEIGHBOUR: 'it returns false'. Refute it at one input. -/
def codeWholeWrong : ChangeSpec := { name := "codeWhole", fn := fun _ => fun
  | [d1, d2] => { results := [.lit (.bool false)], args := [d1, d2] }
  | _ => none }
def CodeWholeWrongFalsely : Prop := codeWholeRow.holds Tryd.pinned (OpenSpec.ofChange codeWholeWrong)

/-- 'boltholekeep.InstrBack': WHATEVER THE INPUT: true; the input reads as it did. -/
def instrBackSpec : ChangeSpec := { name := "instrBack", fn := fun _ => fun
  | [d1, d2, d3] => { results := [.lit (.bool true)], args := [d1, d2, d3] }
  | _ => none }
def instrBackRow : OpenClaim := { program := "ytmcaplgddlbdoaadoor", sum := "b373ab9e88efcea7c475abe094ece7412f9eb0028143a8782b0b283c47be6bf3", func := "bolthole/boltholekeep.InstrBack", spec := "instrBack", unfollowed := true, recurses := true, named := ["bolthole/isa.rows", "bolthole/isa.sizes"], apart := false, laid := [("bolthole/isa.rows", laid_bolthole_isa_rows), ("bolthole/isa.sizes", laid_bolthole_isa_sizes)] }
def InstrBackSaid : Prop := instrBackRow.holds Tryd.pinned (OpenSpec.ofChange instrBackSpec)

/-- ITS FALSE NEIGHBOUR: 'it returns false'. Refute it at one input. -/
def instrBackWrong : ChangeSpec := { name := "instrBack", fn := fun _ => fun
  | [d1, d2, d3] => { results := [.lit (.bool false)], args := [d1, d2, d3] }
  | _ => none }
def InstrBackWrongFalsely : Prop := instrBackRow.holds Tryd.pinned (OpenSpec.ofChange instrBackWrong)

/-- 'boltholekeep.InstrBad': WHATEVER THE INPUT: true; the input reads as it did. -/
def instrBadSpec : ChangeSpec := { name := "instrBad", fn := fun _ => fun
  | [d1, d2] => { results := [.lit (.bool true)], args := [d1, d2] }
  | _ => none }
def instrBadRow : OpenClaim := { program := "ytmcaplgddlbdoaadoor", sum := "b373ab9e88efcea7c475abe094ece7412f9eb0028143a8782b0b283c47be6bf3", func := "bolthole/boltholekeep.InstrBad", spec := "instrBad", unfollowed := true, recurses := true, named := ["bolthole/isa.rows", "bolthole/isa.sizes"], apart := false, laid := [("bolthole/isa.rows", laid_bolthole_isa_rows), ("bolthole/isa.sizes", laid_bolthole_isa_sizes)] }
def InstrBadSaid : Prop := instrBadRow.holds Tryd.pinned (OpenSpec.ofChange instrBadSpec)

/-- ITS FALSE NEIGHBOUR: 'it returns false'. Refute it at one input. -/
def instrBadWrong : ChangeSpec := { name := "instrBad", fn := fun _ => fun
  | [d1, d2] => { results := [.lit (.bool false)], args := [d1, d2] }
  | _ => none }
def InstrBadWrongFalsely : Prop := instrBadRow.holds Tryd.pinned (OpenSpec.ofChange instrBadWrong)

/- THE SECOND FORM. 'bulk': how many values and letters a reading holds, each counted each time it is reached (what is shared counts as often as it is met; a slice's spare places count too). A statement '..UptoSaid' is the law's where the arguments, and the package variables that the reading takes, are together of bulk at most 1048576: NARROWER than '..Said'. Prove '..Said' where nothing that the law and all that it calls make is longer than what came in: it says more and counts as full. Else prove '..UptoSaid'. A law counts once. -/
mutual
def uptoBulk {H : Type} : DataW H → Nat
  | .lit (.string bytes) => bytes.length + 1
  | .lit _ => 1
  | .nil => 1
  | .ptr d => uptoBulk d + 1
  | .slice elems spare => uptoBulkAll elems + uptoBulkAll spare + 1
  | .agg parts => uptoBulkAll parts + 1
  | .iface _ d => uptoBulk d + 1
  | .map entries => uptoBulkEntries entries + 1
  | .held _ => 1
def uptoBulkAll {H : Type} : List (DataW H) → Nat
  | [] => 0
  | d :: r => uptoBulk d + uptoBulkAll r
def uptoBulkEntries {H : Type} : List (Lit × DataW H) → Nat
  | [] => 0
  | x :: r => uptoBulkEntry x + uptoBulkEntries r
def uptoBulkEntry {H : Type} : Lit × DataW H → Nat
  | (.string bytes, d) => bytes.length + uptoBulk d + 1
  | (_, d) => uptoBulk d + 1
 end
def uptoSmall : (H : Type) → List (DataW H) → Bool := fun _ ds => decide (uptoBulkAll ds ≤ 1048576)
def OpenSpec.upto (s : _root_.Go.ChangeSpec) : _root_.Go.OpenSpec := { _root_.Go.OpenSpec.ofChange s with cond := some uptoSmall }

/-- 'boltholekeep.SizeKinds', WHERE WHAT IT READS IS OF BULK AT MOST 1048576: true; the input reads as it did. -/
def sizeKindsUptoRow : OpenClaim := { program := "ytmcaplgddlbdoaadoor", sum := "b373ab9e88efcea7c475abe094ece7412f9eb0028143a8782b0b283c47be6bf3", func := "bolthole/boltholekeep.SizeKinds", spec := "sizeKinds", named := ["bolthole/isa.rows", "bolthole/isa.sizes"], apart := false, laid := [("bolthole/isa.rows", laid_bolthole_isa_rows), ("bolthole/isa.sizes", laid_bolthole_isa_sizes)], narrowed := true }
def SizeKindsUptoSaid : Prop := sizeKindsUptoRow.holds Tryd.pinned (OpenSpec.upto sizeKindsSpec)

/-- 'boltholekeep.InstrFixed', WHERE WHAT IT READS IS OF BULK AT MOST 1048576: true; the input reads as it did. -/
def instrFixedUptoRow : OpenClaim := { program := "ytmcaplgddlbdoaadoor", sum := "b373ab9e88efcea7c475abe094ece7412f9eb0028143a8782b0b283c47be6bf3", func := "bolthole/boltholekeep.InstrFixed", spec := "instrFixed", unfollowed := true, recurses := true, named := ["bolthole/isa.rows", "bolthole/isa.sizes"], apart := false, laid := [("bolthole/isa.rows", laid_bolthole_isa_rows), ("bolthole/isa.sizes", laid_bolthole_isa_sizes)], narrowed := true }
def InstrFixedUptoSaid : Prop := instrFixedUptoRow.holds Tryd.pinned (OpenSpec.upto instrFixedSpec)

/-- 'boltholekeep.InstrTorn', WHERE WHAT IT READS IS OF BULK AT MOST 1048576: true; the input reads as it did. -/
def instrTornUptoRow : OpenClaim := { program := "ytmcaplgddlbdoaadoor", sum := "b373ab9e88efcea7c475abe094ece7412f9eb0028143a8782b0b283c47be6bf3", func := "bolthole/boltholekeep.InstrTorn", spec := "instrTorn", unfollowed := true, recurses := true, named := ["bolthole/isa.rows", "bolthole/isa.sizes"], apart := false, laid := [("bolthole/isa.rows", laid_bolthole_isa_rows), ("bolthole/isa.sizes", laid_bolthole_isa_sizes)], narrowed := true }
def InstrTornUptoSaid : Prop := instrTornUptoRow.holds Tryd.pinned (OpenSpec.upto instrTornSpec)

/-- 'boltholekeep.FirstBytes', WHERE WHAT IT READS IS OF BULK AT MOST 1048576: true; the input reads as it did. -/
def firstBytesUptoRow : OpenClaim := { program := "ytmcaplgddlbdoaadoor", sum := "b373ab9e88efcea7c475abe094ece7412f9eb0028143a8782b0b283c47be6bf3", func := "bolthole/boltholekeep.FirstBytes", spec := "firstBytes", unfollowed := true, recurses := true, named := ["bolthole/isa.rows", "bolthole/isa.sizes"], apart := false, laid := [("bolthole/isa.rows", laid_bolthole_isa_rows), ("bolthole/isa.sizes", laid_bolthole_isa_sizes)], narrowed := true }
def FirstBytesUptoSaid : Prop := firstBytesUptoRow.holds Tryd.pinned (OpenSpec.upto firstBytesSpec)

/-- 'boltholekeep.CodeWhole', WHERE WHAT IT READS IS OF BULK AT MOST 1048576: true; the input reads as it did. -/
def codeWholeUptoRow : OpenClaim := { program := "ytmcaplgddlbdoaadoor", sum := "b373ab9e88efcea7c475abe094ece7412f9eb0028143a8782b0b283c47be6bf3", func := "bolthole/boltholekeep.CodeWhole", spec := "codeWhole", unfollowed := true, recurses := true, named := ["bolthole/isa.rows", "bolthole/isa.sizes"], apart := false, laid := [("bolthole/isa.rows", laid_bolthole_isa_rows), ("bolthole/isa.sizes", laid_bolthole_isa_sizes)], narrowed := true }
def CodeWholeUptoSaid : Prop := codeWholeUptoRow.holds Tryd.pinned (OpenSpec.upto codeWholeSpec)

/-- 'boltholekeep.InstrBack', WHERE WHAT IT READS IS OF BULK AT MOST 1048576: true; the input reads as it did. -/
def instrBackUptoRow : OpenClaim := { program := "ytmcaplgddlbdoaadoor", sum := "b373ab9e88efcea7c475abe094ece7412f9eb0028143a8782b0b283c47be6bf3", func := "bolthole/boltholekeep.InstrBack", spec := "instrBack", unfollowed := true, recurses := true, named := ["bolthole/isa.rows", "bolthole/isa.sizes"], apart := false, laid := [("bolthole/isa.rows", laid_bolthole_isa_rows), ("bolthole/isa.sizes", laid_bolthole_isa_sizes)], narrowed := true }
def InstrBackUptoSaid : Prop := instrBackUptoRow.holds Tryd.pinned (OpenSpec.upto instrBackSpec)

/-- 'boltholekeep.InstrBad', WHERE WHAT IT READS IS OF BULK AT MOST 1048576: true; the input reads as it did. -/
def instrBadUptoRow : OpenClaim := { program := "ytmcaplgddlbdoaadoor", sum := "b373ab9e88efcea7c475abe094ece7412f9eb0028143a8782b0b283c47be6bf3", func := "bolthole/boltholekeep.InstrBad", spec := "instrBad", unfollowed := true, recurses := true, named := ["bolthole/isa.rows", "bolthole/isa.sizes"], apart := false, laid := [("bolthole/isa.rows", laid_bolthole_isa_rows), ("bolthole/isa.sizes", laid_bolthole_isa_sizes)], narrowed := true }
def InstrBadUptoSaid : Prop := instrBadUptoRow.holds Tryd.pinned (OpenSpec.upto instrBadSpec)

end Rows
end Go.Proofs.YtmcaplgddlbdoaaDoor
