/-
  NARROWER THAN 'FOR EVERY INPUT', by the rows' own cells (each row's printed sentence says how): Sums: laid · Bits: laid · Loops: laid · Memory: laid · Branches: laid · Calls: laid · Lost: laid · TablesGo: laid · InputsIn: laid · TallyBack: laid · FuelRuns: laid.
  DERIVED. THE GIVEN ROWS OF THIS SEAT. 11 by the template 'for every input the law returns true; each argument reads behind the call as it read before'; 0 by the template 'total and deterministic' (their statements: YtgeljimckoodiaaDoorTotals.lean).
  GIVEN WITH THE SEED: the statements are not yours to turn. If you find one false, say at which input.
  Laid BY PROGRAM, IN A SANDBOX (cutbox-rows.mjs): the forced cells as the released guide's own fill.sh prints them over the translation 11127d6d6ab051c4… (all of the seat's roots in one cut). By AI agents, Wed Nov 11 2026. No macro, syntax, notation, axiom, sorry.
-/
import Derived.Test.YtgeljimckoodiaaDoorChecked
import GoSem.PinnedTables
import GoSem.Claim
import GoSem.ClaimJoined
import GoSem.ClaimMapViews
import Derived.JoinedTies
import Derived.KernelRfl
namespace Go.Proofs.YtgeljimckoodiaaDoor
/- THE CELL 'sum', in the pinned program and in every row, IS THE sha256 OF THE DUMP (.gsa) THAT YtgeljimckoodiaaDoorProg.lean LOADS. Nothing in Lean hashes anything: it is a label: what it is worth is what the hold of that sum in a sandbox is worth. -/
noncomputable def Tryd.pinned : Pinned := { name := "ytgeljimckoodiaadoor", sum := "11127d6d6ab051c4cdbb1b3eb1c01d92d33532cf514e9c9805283f2311c11203", checked := Tryd.checked }
namespace Rows
def none {H : Type} : Left H := { results := [], args := [] }

/- WHAT THE LISTED PACKAGE-LEVEL VARIABLES READ AS WHEN THE CALL BEGINS. Each datum BY PROGRAM (the guide's laid-datum.mjs) off the statement by which the dump's own 'gosem.cut.vars' lays the variable. In a bare row this is a premise. The card (YtgeljimckoodiaaDoorCards.lean) ties it to the program's text. -/
def laid_bolthole_isa_rows {H : Type} : DataW H := .agg [.agg [.lit (.int .u8 0), .lit (.int .u8 0), .lit (.int .i64 0)], .agg [.lit (.int .u8 0), .lit (.int .u8 0), .lit (.int .i64 1)], .agg [.lit (.int .u8 1), .lit (.int .u8 0), .lit (.int .i64 1)], .agg [.lit (.int .u8 2), .lit (.int .u8 0), .lit (.int .i64 1)], .agg [.lit (.int .u8 3), .lit (.int .u8 0), .lit (.int .i64 1)], .agg [.lit (.int .u8 16), .lit (.int .u8 0), .lit (.int .i64 2)], .agg [.lit (.int .u8 17), .lit (.int .u8 0), .lit (.int .i64 3)], .agg [.lit (.int .u8 32), .lit (.int .u8 0), .lit (.int .i64 4)], .agg [.lit (.int .u8 33), .lit (.int .u8 0), .lit (.int .i64 4)], .agg [.lit (.int .u8 34), .lit (.int .u8 0), .lit (.int .i64 4)], .agg [.lit (.int .u8 35), .lit (.int .u8 0), .lit (.int .i64 4)], .agg [.lit (.int .u8 36), .lit (.int .u8 0), .lit (.int .i64 4)], .agg [.lit (.int .u8 37), .lit (.int .u8 0), .lit (.int .i64 4)], .agg [.lit (.int .u8 38), .lit (.int .u8 0), .lit (.int .i64 4)], .agg [.lit (.int .u8 48), .lit (.int .u8 0), .lit (.int .i64 3)], .agg [.lit (.int .u8 49), .lit (.int .u8 0), .lit (.int .i64 5)], .agg [.lit (.int .u8 64), .lit (.int .u8 0), .lit (.int .i64 6)], .agg [.lit (.int .u8 65), .lit (.int .u8 0), .lit (.int .i64 7)], .agg [.lit (.int .u8 80), .lit (.int .u8 84), .lit (.int .i64 8)], .agg [.lit (.int .u8 81), .lit (.int .u8 85), .lit (.int .i64 8)], .agg [.lit (.int .u8 82), .lit (.int .u8 86), .lit (.int .i64 8)], .agg [.lit (.int .u8 83), .lit (.int .u8 87), .lit (.int .i64 8)], .agg [.lit (.int .u8 96), .lit (.int .u8 97), .lit (.int .i64 9)], .agg [.lit (.int .u8 98), .lit (.int .u8 0), .lit (.int .i64 10)], .agg [.lit (.int .u8 99), .lit (.int .u8 0), .lit (.int .i64 11)]]
def laid_bolthole_isa_sizes {H : Type} : DataW H := .agg [.lit (.int .i64 0), .lit (.int .i64 1), .lit (.int .i64 4), .lit (.int .i64 3), .lit (.int .i64 3), .lit (.int .i64 3), .lit (.int .i64 2), .lit (.int .i64 2), .lit (.int .i64 3), .lit (.int .i64 2), .lit (.int .i64 3), .lit (.int .i64 3)]
def laid_math_bits_deBruijn32tab {H : Type} : DataW H := .agg [.lit (.int .u8 0), .lit (.int .u8 1), .lit (.int .u8 28), .lit (.int .u8 2), .lit (.int .u8 29), .lit (.int .u8 14), .lit (.int .u8 24), .lit (.int .u8 3), .lit (.int .u8 30), .lit (.int .u8 22), .lit (.int .u8 20), .lit (.int .u8 15), .lit (.int .u8 25), .lit (.int .u8 17), .lit (.int .u8 4), .lit (.int .u8 8), .lit (.int .u8 31), .lit (.int .u8 27), .lit (.int .u8 13), .lit (.int .u8 23), .lit (.int .u8 21), .lit (.int .u8 19), .lit (.int .u8 16), .lit (.int .u8 7), .lit (.int .u8 26), .lit (.int .u8 12), .lit (.int .u8 18), .lit (.int .u8 6), .lit (.int .u8 11), .lit (.int .u8 5), .lit (.int .u8 10), .lit (.int .u8 9)]
def laid_math_bits_deBruijn64tab {H : Type} : DataW H := .agg [.lit (.int .u8 0), .lit (.int .u8 1), .lit (.int .u8 56), .lit (.int .u8 2), .lit (.int .u8 57), .lit (.int .u8 49), .lit (.int .u8 28), .lit (.int .u8 3), .lit (.int .u8 61), .lit (.int .u8 58), .lit (.int .u8 42), .lit (.int .u8 50), .lit (.int .u8 38), .lit (.int .u8 29), .lit (.int .u8 17), .lit (.int .u8 4), .lit (.int .u8 62), .lit (.int .u8 47), .lit (.int .u8 59), .lit (.int .u8 36), .lit (.int .u8 45), .lit (.int .u8 43), .lit (.int .u8 51), .lit (.int .u8 22), .lit (.int .u8 53), .lit (.int .u8 39), .lit (.int .u8 33), .lit (.int .u8 30), .lit (.int .u8 24), .lit (.int .u8 18), .lit (.int .u8 12), .lit (.int .u8 5), .lit (.int .u8 63), .lit (.int .u8 55), .lit (.int .u8 48), .lit (.int .u8 27), .lit (.int .u8 60), .lit (.int .u8 41), .lit (.int .u8 37), .lit (.int .u8 16), .lit (.int .u8 46), .lit (.int .u8 35), .lit (.int .u8 44), .lit (.int .u8 21), .lit (.int .u8 52), .lit (.int .u8 32), .lit (.int .u8 23), .lit (.int .u8 11), .lit (.int .u8 54), .lit (.int .u8 26), .lit (.int .u8 40), .lit (.int .u8 15), .lit (.int .u8 34), .lit (.int .u8 20), .lit (.int .u8 31), .lit (.int .u8 10), .lit (.int .u8 25), .lit (.int .u8 14), .lit (.int .u8 19), .lit (.int .u8 9), .lit (.int .u8 13), .lit (.int .u8 8), .lit (.int .u8 7), .lit (.int .u8 6)]
def laid_internal_strconv_uint64pow10 {H : Type} : DataW H := .agg [.lit (.int .u64 1), .lit (.int .u64 10), .lit (.int .u64 100), .lit (.int .u64 1000), .lit (.int .u64 10000), .lit (.int .u64 100000), .lit (.int .u64 1000000), .lit (.int .u64 10000000), .lit (.int .u64 100000000), .lit (.int .u64 1000000000), .lit (.int .u64 10000000000), .lit (.int .u64 100000000000), .lit (.int .u64 1000000000000), .lit (.int .u64 10000000000000), .lit (.int .u64 100000000000000), .lit (.int .u64 1000000000000000), .lit (.int .u64 10000000000000000), .lit (.int .u64 100000000000000000), .lit (.int .u64 1000000000000000000), .lit (.int .u64 10000000000000000000)]
def laid_unicode_utf8_acceptRanges {H : Type} : DataW H := .agg [.agg [.lit (.int .u8 128), .lit (.int .u8 191)], .agg [.lit (.int .u8 160), .lit (.int .u8 191)], .agg [.lit (.int .u8 128), .lit (.int .u8 159)], .agg [.lit (.int .u8 144), .lit (.int .u8 191)], .agg [.lit (.int .u8 128), .lit (.int .u8 143)], .agg [.lit (.int .u8 0), .lit (.int .u8 0)], .agg [.lit (.int .u8 0), .lit (.int .u8 0)], .agg [.lit (.int .u8 0), .lit (.int .u8 0)], .agg [.lit (.int .u8 0), .lit (.int .u8 0)], .agg [.lit (.int .u8 0), .lit (.int .u8 0)], .agg [.lit (.int .u8 0), .lit (.int .u8 0)], .agg [.lit (.int .u8 0), .lit (.int .u8 0)], .agg [.lit (.int .u8 0), .lit (.int .u8 0)], .agg [.lit (.int .u8 0), .lit (.int .u8 0)], .agg [.lit (.int .u8 0), .lit (.int .u8 0)], .agg [.lit (.int .u8 0), .lit (.int .u8 0)]]
def laid_strconv_ErrRange {H : Type} : DataW H := .iface "*errors.errorString" (.ptr (.agg [.lit (.string [118, 97, 108, 117, 101, 32, 111, 117, 116, 32, 111, 102, 32, 114, 97, 110, 103, 101])]))
def laid_strconv_ErrSyntax {H : Type} : DataW H := .iface "*errors.errorString" (.ptr (.agg [.lit (.string [105, 110, 118, 97, 108, 105, 100, 32, 115, 121, 110, 116, 97, 120])]))
/-- One of Go's own tables, pinned by name: the form's constant. -/
def laid_unicode_utf8_first : DataW Unit := Go.Pinned.utf8First

/-- 'boltholekeep.Sums': WHATEVER THE INPUT: true; the input reads as it did. -/
def sumsSpec : ChangeSpec := { name := "sums", fn := fun _ => fun
  | [d1, d2] => { results := [.lit (.bool true)], args := [d1, d2] }
  | _ => none }
def sumsRow : OpenClaim := { program := "ytgeljimckoodiaadoor", sum := "11127d6d6ab051c4cdbb1b3eb1c01d92d33532cf514e9c9805283f2311c11203", func := "bolthole/boltholekeep.Sums", spec := "sums", unfollowed := true, recurses := true, named := ["bolthole/isa.rows", "bolthole/isa.sizes"], apart := false, laid := [("bolthole/isa.rows", laid_bolthole_isa_rows), ("bolthole/isa.sizes", laid_bolthole_isa_sizes)] }
def SumsSaid : Prop := sumsRow.holds Tryd.pinned (OpenSpec.ofChange sumsSpec)

/-- ITS FALSE NEIGHBOUR: 'it returns false'. Refute it at one input. -/
def sumsWrong : ChangeSpec := { name := "sums", fn := fun _ => fun
  | [d1, d2] => { results := [.lit (.bool false)], args := [d1, d2] }
  | _ => none }
def SumsWrongFalsely : Prop := sumsRow.holds Tryd.pinned (OpenSpec.ofChange sumsWrong)

/-- 'boltholekeep.Bits': WHATEVER THE INPUT: true; the input reads as it did. -/
def bitsSpec : ChangeSpec := { name := "bits", fn := fun _ => fun
  | [d1, d2] => { results := [.lit (.bool true)], args := [d1, d2] }
  | _ => none }
def bitsRow : OpenClaim := { program := "ytgeljimckoodiaadoor", sum := "11127d6d6ab051c4cdbb1b3eb1c01d92d33532cf514e9c9805283f2311c11203", func := "bolthole/boltholekeep.Bits", spec := "bits", unfollowed := true, recurses := true, named := ["bolthole/isa.rows", "bolthole/isa.sizes"], apart := false, laid := [("bolthole/isa.rows", laid_bolthole_isa_rows), ("bolthole/isa.sizes", laid_bolthole_isa_sizes)] }
def BitsSaid : Prop := bitsRow.holds Tryd.pinned (OpenSpec.ofChange bitsSpec)

/-- ITS FALSE NEIGHBOUR: 'it returns false'. Refute it at one input. -/
def bitsWrong : ChangeSpec := { name := "bits", fn := fun _ => fun
  | [d1, d2] => { results := [.lit (.bool false)], args := [d1, d2] }
  | _ => none }
def BitsWrongFalsely : Prop := bitsRow.holds Tryd.pinned (OpenSpec.ofChange bitsWrong)

/-- 'boltholekeep.Loops': WHATEVER THE INPUT: true; the input reads as it did. -/
def loopsSpec : ChangeSpec := { name := "loops", fn := fun _ => fun
  | [d] => { results := [.lit (.bool true)], args := [d] }
  | _ => none }
def loopsRow : OpenClaim := { program := "ytgeljimckoodiaadoor", sum := "11127d6d6ab051c4cdbb1b3eb1c01d92d33532cf514e9c9805283f2311c11203", func := "bolthole/boltholekeep.Loops", spec := "loops", unfollowed := true, recurses := true, named := ["bolthole/isa.rows", "bolthole/isa.sizes"], apart := false, laid := [("bolthole/isa.rows", laid_bolthole_isa_rows), ("bolthole/isa.sizes", laid_bolthole_isa_sizes)] }
def LoopsSaid : Prop := loopsRow.holds Tryd.pinned (OpenSpec.ofChange loopsSpec)

/-- ITS FALSE NEIGHBOUR: 'it returns false'. Refute it at one input. -/
def loopsWrong : ChangeSpec := { name := "loops", fn := fun _ => fun
  | [d] => { results := [.lit (.bool false)], args := [d] }
  | _ => none }
def LoopsWrongFalsely : Prop := loopsRow.holds Tryd.pinned (OpenSpec.ofChange loopsWrong)

/-- 'boltholekeep.Memory': WHATEVER THE INPUT: true; the input reads as it did. -/
def memorySpec : ChangeSpec := { name := "memory", fn := fun _ => fun
  | [d1, d2, d3] => { results := [.lit (.bool true)], args := [d1, d2, d3] }
  | _ => none }
def memoryRow : OpenClaim := { program := "ytgeljimckoodiaadoor", sum := "11127d6d6ab051c4cdbb1b3eb1c01d92d33532cf514e9c9805283f2311c11203", func := "bolthole/boltholekeep.Memory", spec := "memory", unfollowed := true, recurses := true, named := ["bolthole/isa.rows", "bolthole/isa.sizes"], apart := false, laid := [("bolthole/isa.rows", laid_bolthole_isa_rows), ("bolthole/isa.sizes", laid_bolthole_isa_sizes)] }
def MemorySaid : Prop := memoryRow.holds Tryd.pinned (OpenSpec.ofChange memorySpec)

/-- ITS FALSE NEIGHBOUR: 'it returns false'. Refute it at one input. -/
def memoryWrong : ChangeSpec := { name := "memory", fn := fun _ => fun
  | [d1, d2, d3] => { results := [.lit (.bool false)], args := [d1, d2, d3] }
  | _ => none }
def MemoryWrongFalsely : Prop := memoryRow.holds Tryd.pinned (OpenSpec.ofChange memoryWrong)

/-- 'boltholekeep.Branches': WHATEVER THE INPUT: true; the input reads as it did. -/
def branchesSpec : ChangeSpec := { name := "branches", fn := fun _ => fun
  | [d1, d2, d3, d4] => { results := [.lit (.bool true)], args := [d1, d2, d3, d4] }
  | _ => none }
def branchesRow : OpenClaim := { program := "ytgeljimckoodiaadoor", sum := "11127d6d6ab051c4cdbb1b3eb1c01d92d33532cf514e9c9805283f2311c11203", func := "bolthole/boltholekeep.Branches", spec := "branches", unfollowed := true, recurses := true, named := ["bolthole/isa.rows", "bolthole/isa.sizes"], apart := false, laid := [("bolthole/isa.rows", laid_bolthole_isa_rows), ("bolthole/isa.sizes", laid_bolthole_isa_sizes)] }
def BranchesSaid : Prop := branchesRow.holds Tryd.pinned (OpenSpec.ofChange branchesSpec)

/-- ITS FALSE NEIGHBOUR: 'it returns false'. Refute it at one input. -/
def branchesWrong : ChangeSpec := { name := "branches", fn := fun _ => fun
  | [d1, d2, d3, d4] => { results := [.lit (.bool false)], args := [d1, d2, d3, d4] }
  | _ => none }
def BranchesWrongFalsely : Prop := branchesRow.holds Tryd.pinned (OpenSpec.ofChange branchesWrong)

/-- 'boltholekeep.Calls': WHATEVER THE INPUT: true; the input reads as it did. -/
def callsSpec : ChangeSpec := { name := "calls", fn := fun _ => fun
  | [d] => { results := [.lit (.bool true)], args := [d] }
  | _ => none }
def callsRow : OpenClaim := { program := "ytgeljimckoodiaadoor", sum := "11127d6d6ab051c4cdbb1b3eb1c01d92d33532cf514e9c9805283f2311c11203", func := "bolthole/boltholekeep.Calls", spec := "calls", unfollowed := true, recurses := true, named := ["bolthole/isa.rows", "bolthole/isa.sizes"], apart := false, laid := [("bolthole/isa.rows", laid_bolthole_isa_rows), ("bolthole/isa.sizes", laid_bolthole_isa_sizes)] }
def CallsSaid : Prop := callsRow.holds Tryd.pinned (OpenSpec.ofChange callsSpec)

/-- ITS FALSE NEIGHBOUR: 'it returns false'. Refute it at one input. -/
def callsWrong : ChangeSpec := { name := "calls", fn := fun _ => fun
  | [d] => { results := [.lit (.bool false)], args := [d] }
  | _ => none }
def CallsWrongFalsely : Prop := callsRow.holds Tryd.pinned (OpenSpec.ofChange callsWrong)

/-- 'boltholekeep.Lost': WHATEVER THE INPUT: true; the input reads as it did. -/
def lostSpec : ChangeSpec := { name := "lost", fn := fun _ => fun
  | [d] => { results := [.lit (.bool true)], args := [d] }
  | _ => none }
def lostRow : OpenClaim := { program := "ytgeljimckoodiaadoor", sum := "11127d6d6ab051c4cdbb1b3eb1c01d92d33532cf514e9c9805283f2311c11203", func := "bolthole/boltholekeep.Lost", spec := "lost", unfollowed := true, recurses := true, named := ["bolthole/isa.rows", "bolthole/isa.sizes"], apart := false, laid := [("bolthole/isa.rows", laid_bolthole_isa_rows), ("bolthole/isa.sizes", laid_bolthole_isa_sizes)] }
def LostSaid : Prop := lostRow.holds Tryd.pinned (OpenSpec.ofChange lostSpec)

/-- ITS FALSE NEIGHBOUR: 'it returns false'. Refute it at one input. -/
def lostWrong : ChangeSpec := { name := "lost", fn := fun _ => fun
  | [d] => { results := [.lit (.bool false)], args := [d] }
  | _ => none }
def LostWrongFalsely : Prop := lostRow.holds Tryd.pinned (OpenSpec.ofChange lostWrong)

/-- 'boltholekeep.TablesGo': WHATEVER THE INPUT: true; the input reads as it did. -/
def tablesGoSpec : ChangeSpec := { name := "tablesGo", fn := fun _ => fun
  | [d] => { results := [.lit (.bool true)], args := [d] }
  | _ => none }
def tablesGoRow : OpenClaim := { program := "ytgeljimckoodiaadoor", sum := "11127d6d6ab051c4cdbb1b3eb1c01d92d33532cf514e9c9805283f2311c11203", func := "bolthole/boltholekeep.TablesGo", spec := "tablesGo", unfollowed := true, recurses := true, named := ["bolthole/isa.rows", "bolthole/isa.sizes"], apart := false, laid := [("bolthole/isa.rows", laid_bolthole_isa_rows), ("bolthole/isa.sizes", laid_bolthole_isa_sizes)] }
def TablesGoSaid : Prop := tablesGoRow.holds Tryd.pinned (OpenSpec.ofChange tablesGoSpec)

/-- ITS FALSE NEIGHBOUR: 'it returns false'. Refute it at one input. -/
def tablesGoWrong : ChangeSpec := { name := "tablesGo", fn := fun _ => fun
  | [d] => { results := [.lit (.bool false)], args := [d] }
  | _ => none }
def TablesGoWrongFalsely : Prop := tablesGoRow.holds Tryd.pinned (OpenSpec.ofChange tablesGoWrong)

/-- 'boltholekeep.InputsIn': WHATEVER THE INPUT: true; the input reads as it did. -/
def inputsInSpec : ChangeSpec := { name := "inputsIn", fn := fun _ => fun
  | [d1, d2] => { results := [.lit (.bool true)], args := [d1, d2] }
  | _ => none }
def inputsInRow : OpenClaim := { program := "ytgeljimckoodiaadoor", sum := "11127d6d6ab051c4cdbb1b3eb1c01d92d33532cf514e9c9805283f2311c11203", func := "bolthole/boltholekeep.InputsIn", spec := "inputsIn", unfollowed := true, recurses := true, named := ["bolthole/isa.rows", "bolthole/isa.sizes", "internal/strconv.uint64pow10", "math/bits.deBruijn32tab", "math/bits.deBruijn64tab"], apart := false, laid := [("math/bits.deBruijn32tab", laid_math_bits_deBruijn32tab), ("math/bits.deBruijn64tab", laid_math_bits_deBruijn64tab), ("internal/strconv.uint64pow10", laid_internal_strconv_uint64pow10), ("bolthole/isa.rows", laid_bolthole_isa_rows), ("bolthole/isa.sizes", laid_bolthole_isa_sizes)] }
def InputsInSaid : Prop := inputsInRow.holds Tryd.pinned (OpenSpec.ofChange inputsInSpec)

/-- ITS FALSE NEIGHBOUR: 'it returns false'. Refute it at one input. -/
def inputsInWrong : ChangeSpec := { name := "inputsIn", fn := fun _ => fun
  | [d1, d2] => { results := [.lit (.bool false)], args := [d1, d2] }
  | _ => none }
def InputsInWrongFalsely : Prop := inputsInRow.holds Tryd.pinned (OpenSpec.ofChange inputsInWrong)

/-- 'boltholekeep.TallyBack': WHATEVER THE INPUT: true; the input reads as it did. -/
def tallyBackSpec : ChangeSpec := { name := "tallyBack", fn := fun _ => fun
  | [d] => { results := [.lit (.bool true)], args := [d] }
  | _ => none }
def tallyBackRow : OpenClaim := { program := "ytgeljimckoodiaadoor", sum := "11127d6d6ab051c4cdbb1b3eb1c01d92d33532cf514e9c9805283f2311c11203", func := "bolthole/boltholekeep.TallyBack", spec := "tallyBack", inPlace := ["internal/bytealg.IndexByteString", "internal/bytealg.IndexString", "internal/bytealg.CountString"], named := ["internal/strconv.uint64pow10", "math/bits.deBruijn32tab", "math/bits.deBruijn64tab", "internal/bytealg.MaxLen", "unicode/utf8.first", "unicode/utf8.acceptRanges", "strconv.ErrSyntax", "strconv.ErrRange"], apart := false, laid := [("math/bits.deBruijn32tab", laid_math_bits_deBruijn32tab), ("math/bits.deBruijn64tab", laid_math_bits_deBruijn64tab), ("internal/strconv.uint64pow10", laid_internal_strconv_uint64pow10), ("unicode/utf8.acceptRanges", laid_unicode_utf8_acceptRanges), ("strconv.ErrRange", laid_strconv_ErrRange), ("strconv.ErrSyntax", laid_strconv_ErrSyntax), ("unicode/utf8.first", laid_unicode_utf8_first)] }
def TallyBackSaid : Prop := tallyBackRow.holds Tryd.pinned (OpenSpec.ofChange tallyBackSpec)

/-- ITS FALSE NEIGHBOUR: 'it returns false'. Refute it at one input. -/
def tallyBackWrong : ChangeSpec := { name := "tallyBack", fn := fun _ => fun
  | [d] => { results := [.lit (.bool false)], args := [d] }
  | _ => none }
def TallyBackWrongFalsely : Prop := tallyBackRow.holds Tryd.pinned (OpenSpec.ofChange tallyBackWrong)

/-- 'boltholekeep.FuelRuns': WHATEVER THE INPUT: true; the input reads as it did. -/
def fuelRunsSpec : ChangeSpec := { name := "fuelRuns", fn := fun _ => fun
  | [d1, d2, d3, d4] => { results := [.lit (.bool true)], args := [d1, d2, d3, d4] }
  | _ => none }
def fuelRunsRow : OpenClaim := { program := "ytgeljimckoodiaadoor", sum := "11127d6d6ab051c4cdbb1b3eb1c01d92d33532cf514e9c9805283f2311c11203", func := "bolthole/boltholekeep.FuelRuns", spec := "fuelRuns", unfollowed := true, recurses := true, named := ["bolthole/isa.rows", "bolthole/isa.sizes", "internal/strconv.uint64pow10", "math/bits.deBruijn32tab", "math/bits.deBruijn64tab"], apart := false, laid := [("math/bits.deBruijn32tab", laid_math_bits_deBruijn32tab), ("math/bits.deBruijn64tab", laid_math_bits_deBruijn64tab), ("internal/strconv.uint64pow10", laid_internal_strconv_uint64pow10), ("bolthole/isa.rows", laid_bolthole_isa_rows), ("bolthole/isa.sizes", laid_bolthole_isa_sizes)] }
def FuelRunsSaid : Prop := fuelRunsRow.holds Tryd.pinned (OpenSpec.ofChange fuelRunsSpec)

/-- ITS FALSE NEIGHBOUR: 'it returns false'. Refute it at one input. -/
def fuelRunsWrong : ChangeSpec := { name := "fuelRuns", fn := fun _ => fun
  | [d1, d2, d3, d4] => { results := [.lit (.bool false)], args := [d1, d2, d3, d4] }
  | _ => none }
def FuelRunsWrongFalsely : Prop := fuelRunsRow.holds Tryd.pinned (OpenSpec.ofChange fuelRunsWrong)

/- THE SECOND FORM. 'bulk': how many values and letters a reading holds, each counted each time it is reached (what is shared counts as often as it is met; a slice's spare places count too). A statement '..UptoSaid' is the law's where the arguments, and the package variables that the reading takes, are together of bulk at most 1048576: NARROWER than '..Said'. Prove '..Said' where nothing that the law and all that it calls make is longer than what came in: it says more and counts as full. Else prove '..UptoSaid'. A law counts once. -/
mutual
def uptoBulk {H : Type} : DataW H → Nat
  | .lit (.string bytes) => bytes.length + 1
  | .lit _ => 1
  | .nil => 1
  | .ptr d => uptoBulk d + 1
  | .slice elems spare => uptoBulkAll elems + uptoBulkAll spare + 1
  | .agg parts => uptoBulkAll parts + 1
  | .iface _ d => uptoBulk d + 1
  | .map entries => uptoBulkEntries entries + 1
  | .held _ => 1
def uptoBulkAll {H : Type} : List (DataW H) → Nat
  | [] => 0
  | d :: r => uptoBulk d + uptoBulkAll r
def uptoBulkEntries {H : Type} : List (Lit × DataW H) → Nat
  | [] => 0
  | x :: r => uptoBulkEntry x + uptoBulkEntries r
def uptoBulkEntry {H : Type} : Lit × DataW H → Nat
  | (.string bytes, d) => bytes.length + uptoBulk d + 1
  | (_, d) => uptoBulk d + 1
 end
def uptoSmall : (H : Type) → List (DataW H) → Bool := fun _ ds => decide (uptoBulkAll ds ≤ 1048576)
def OpenSpec.upto (s : _root_.Go.ChangeSpec) : _root_.Go.OpenSpec := { _root_.Go.OpenSpec.ofChange s with cond := some uptoSmall }

/-- 'boltholekeep.Sums', WHERE WHAT IT READS IS OF BULK AT MOST 1048576: true; the input reads as it did. -/
def sumsUptoRow : OpenClaim := { program := "ytgeljimckoodiaadoor", sum := "11127d6d6ab051c4cdbb1b3eb1c01d92d33532cf514e9c9805283f2311c11203", func := "bolthole/boltholekeep.Sums", spec := "sums", unfollowed := true, recurses := true, named := ["bolthole/isa.rows", "bolthole/isa.sizes"], apart := false, laid := [("bolthole/isa.rows", laid_bolthole_isa_rows), ("bolthole/isa.sizes", laid_bolthole_isa_sizes)], narrowed := true }
def SumsUptoSaid : Prop := sumsUptoRow.holds Tryd.pinned (OpenSpec.upto sumsSpec)

/-- 'boltholekeep.Bits', WHERE WHAT IT READS IS OF BULK AT MOST 1048576: true; the input reads as it did. -/
def bitsUptoRow : OpenClaim := { program := "ytgeljimckoodiaadoor", sum := "11127d6d6ab051c4cdbb1b3eb1c01d92d33532cf514e9c9805283f2311c11203", func := "bolthole/boltholekeep.Bits", spec := "bits", unfollowed := true, recurses := true, named := ["bolthole/isa.rows", "bolthole/isa.sizes"], apart := false, laid := [("bolthole/isa.rows", laid_bolthole_isa_rows), ("bolthole/isa.sizes", laid_bolthole_isa_sizes)], narrowed := true }
def BitsUptoSaid : Prop := bitsUptoRow.holds Tryd.pinned (OpenSpec.upto bitsSpec)

/-- 'boltholekeep.Loops', WHERE WHAT IT READS IS OF BULK AT MOST 1048576: true; the input reads as it did. -/
def loopsUptoRow : OpenClaim := { program := "ytgeljimckoodiaadoor", sum := "11127d6d6ab051c4cdbb1b3eb1c01d92d33532cf514e9c9805283f2311c11203", func := "bolthole/boltholekeep.Loops", spec := "loops", unfollowed := true, recurses := true, named := ["bolthole/isa.rows", "bolthole/isa.sizes"], apart := false, laid := [("bolthole/isa.rows", laid_bolthole_isa_rows), ("bolthole/isa.sizes", laid_bolthole_isa_sizes)], narrowed := true }
def LoopsUptoSaid : Prop := loopsUptoRow.holds Tryd.pinned (OpenSpec.upto loopsSpec)

/-- 'boltholekeep.Memory', WHERE WHAT IT READS IS OF BULK AT MOST 1048576: true; the input reads as it did. -/
def memoryUptoRow : OpenClaim := { program := "ytgeljimckoodiaadoor", sum := "11127d6d6ab051c4cdbb1b3eb1c01d92d33532cf514e9c9805283f2311c11203", func := "bolthole/boltholekeep.Memory", spec := "memory", unfollowed := true, recurses := true, named := ["bolthole/isa.rows", "bolthole/isa.sizes"], apart := false, laid := [("bolthole/isa.rows", laid_bolthole_isa_rows), ("bolthole/isa.sizes", laid_bolthole_isa_sizes)], narrowed := true }
def MemoryUptoSaid : Prop := memoryUptoRow.holds Tryd.pinned (OpenSpec.upto memorySpec)

/-- 'boltholekeep.Branches', WHERE WHAT IT READS IS OF BULK AT MOST 1048576: true; the input reads as it did. -/
def branchesUptoRow : OpenClaim := { program := "ytgeljimckoodiaadoor", sum := "11127d6d6ab051c4cdbb1b3eb1c01d92d33532cf514e9c9805283f2311c11203", func := "bolthole/boltholekeep.Branches", spec := "branches", unfollowed := true, recurses := true, named := ["bolthole/isa.rows", "bolthole/isa.sizes"], apart := false, laid := [("bolthole/isa.rows", laid_bolthole_isa_rows), ("bolthole/isa.sizes", laid_bolthole_isa_sizes)], narrowed := true }
def BranchesUptoSaid : Prop := branchesUptoRow.holds Tryd.pinned (OpenSpec.upto branchesSpec)

/-- 'boltholekeep.Calls', WHERE WHAT IT READS IS OF BULK AT MOST 1048576: true; the input reads as it did. -/
def callsUptoRow : OpenClaim := { program := "ytgeljimckoodiaadoor", sum := "11127d6d6ab051c4cdbb1b3eb1c01d92d33532cf514e9c9805283f2311c11203", func := "bolthole/boltholekeep.Calls", spec := "calls", unfollowed := true, recurses := true, named := ["bolthole/isa.rows", "bolthole/isa.sizes"], apart := false, laid := [("bolthole/isa.rows", laid_bolthole_isa_rows), ("bolthole/isa.sizes", laid_bolthole_isa_sizes)], narrowed := true }
def CallsUptoSaid : Prop := callsUptoRow.holds Tryd.pinned (OpenSpec.upto callsSpec)

/-- 'boltholekeep.Lost', WHERE WHAT IT READS IS OF BULK AT MOST 1048576: true; the input reads as it did. -/
def lostUptoRow : OpenClaim := { program := "ytgeljimckoodiaadoor", sum := "11127d6d6ab051c4cdbb1b3eb1c01d92d33532cf514e9c9805283f2311c11203", func := "bolthole/boltholekeep.Lost", spec := "lost", unfollowed := true, recurses := true, named := ["bolthole/isa.rows", "bolthole/isa.sizes"], apart := false, laid := [("bolthole/isa.rows", laid_bolthole_isa_rows), ("bolthole/isa.sizes", laid_bolthole_isa_sizes)], narrowed := true }
def LostUptoSaid : Prop := lostUptoRow.holds Tryd.pinned (OpenSpec.upto lostSpec)

/-- 'boltholekeep.TablesGo', WHERE WHAT IT READS IS OF BULK AT MOST 1048576: true; the input reads as it did. -/
def tablesGoUptoRow : OpenClaim := { program := "ytgeljimckoodiaadoor", sum := "11127d6d6ab051c4cdbb1b3eb1c01d92d33532cf514e9c9805283f2311c11203", func := "bolthole/boltholekeep.TablesGo", spec := "tablesGo", unfollowed := true, recurses := true, named := ["bolthole/isa.rows", "bolthole/isa.sizes"], apart := false, laid := [("bolthole/isa.rows", laid_bolthole_isa_rows), ("bolthole/isa.sizes", laid_bolthole_isa_sizes)], narrowed := true }
def TablesGoUptoSaid : Prop := tablesGoUptoRow.holds Tryd.pinned (OpenSpec.upto tablesGoSpec)

/-- 'boltholekeep.InputsIn', WHERE WHAT IT READS IS OF BULK AT MOST 1048576: true; the input reads as it did. -/
def inputsInUptoRow : OpenClaim := { program := "ytgeljimckoodiaadoor", sum := "11127d6d6ab051c4cdbb1b3eb1c01d92d33532cf514e9c9805283f2311c11203", func := "bolthole/boltholekeep.InputsIn", spec := "inputsIn", unfollowed := true, recurses := true, named := ["bolthole/isa.rows", "bolthole/isa.sizes", "internal/strconv.uint64pow10", "math/bits.deBruijn32tab", "math/bits.deBruijn64tab"], apart := false, laid := [("math/bits.deBruijn32tab", laid_math_bits_deBruijn32tab), ("math/bits.deBruijn64tab", laid_math_bits_deBruijn64tab), ("internal/strconv.uint64pow10", laid_internal_strconv_uint64pow10), ("bolthole/isa.rows", laid_bolthole_isa_rows), ("bolthole/isa.sizes", laid_bolthole_isa_sizes)], narrowed := true }
def InputsInUptoSaid : Prop := inputsInUptoRow.holds Tryd.pinned (OpenSpec.upto inputsInSpec)

/-- 'boltholekeep.TallyBack', WHERE WHAT IT READS IS OF BULK AT MOST 1048576: true; the input reads as it did. -/
def tallyBackUptoRow : OpenClaim := { program := "ytgeljimckoodiaadoor", sum := "11127d6d6ab051c4cdbb1b3eb1c01d92d33532cf514e9c9805283f2311c11203", func := "bolthole/boltholekeep.TallyBack", spec := "tallyBack", inPlace := ["internal/bytealg.IndexByteString", "internal/bytealg.IndexString", "internal/bytealg.CountString"], named := ["internal/strconv.uint64pow10", "math/bits.deBruijn32tab", "math/bits.deBruijn64tab", "internal/bytealg.MaxLen", "unicode/utf8.first", "unicode/utf8.acceptRanges", "strconv.ErrSyntax", "strconv.ErrRange"], apart := false, laid := [("math/bits.deBruijn32tab", laid_math_bits_deBruijn32tab), ("math/bits.deBruijn64tab", laid_math_bits_deBruijn64tab), ("internal/strconv.uint64pow10", laid_internal_strconv_uint64pow10), ("unicode/utf8.acceptRanges", laid_unicode_utf8_acceptRanges), ("strconv.ErrRange", laid_strconv_ErrRange), ("strconv.ErrSyntax", laid_strconv_ErrSyntax), ("unicode/utf8.first", laid_unicode_utf8_first)], narrowed := true }
def TallyBackUptoSaid : Prop := tallyBackUptoRow.holds Tryd.pinned (OpenSpec.upto tallyBackSpec)

/-- 'boltholekeep.FuelRuns', WHERE WHAT IT READS IS OF BULK AT MOST 1048576: true; the input reads as it did. -/
def fuelRunsUptoRow : OpenClaim := { program := "ytgeljimckoodiaadoor", sum := "11127d6d6ab051c4cdbb1b3eb1c01d92d33532cf514e9c9805283f2311c11203", func := "bolthole/boltholekeep.FuelRuns", spec := "fuelRuns", unfollowed := true, recurses := true, named := ["bolthole/isa.rows", "bolthole/isa.sizes", "internal/strconv.uint64pow10", "math/bits.deBruijn32tab", "math/bits.deBruijn64tab"], apart := false, laid := [("math/bits.deBruijn32tab", laid_math_bits_deBruijn32tab), ("math/bits.deBruijn64tab", laid_math_bits_deBruijn64tab), ("internal/strconv.uint64pow10", laid_internal_strconv_uint64pow10), ("bolthole/isa.rows", laid_bolthole_isa_rows), ("bolthole/isa.sizes", laid_bolthole_isa_sizes)], narrowed := true }
def FuelRunsUptoSaid : Prop := fuelRunsUptoRow.holds Tryd.pinned (OpenSpec.upto fuelRunsSpec)

end Rows
end Go.Proofs.YtgeljimckoodiaaDoor
