/-
  NARROWER THAN 'FOR EVERY INPUT', by the rows' own cells (each row's printed sentence says how): MapFits: laid · MapCapped: laid · MapSums: laid · OrderAll: laid · OrderNone: laid · OrderHot: laid · OrderChains: laid · OrderFuncs: laid · OrderScale: laid.
  DERIVED. THE GIVEN ROWS OF THIS SEAT. 9 by the template 'for every input the law returns true; each argument reads behind the call as it read before'; 0 by the template 'total and deterministic' (their statements: YtcdlgjhdbmmomaaGreatDoorTotals.lean).
  GIVEN WITH THE SEED: the statements are not yours to turn. If you find one false, say at which input.
  Laid BY PROGRAM, IN A SANDBOX (cutbox-rows.mjs): the forced cells as the released guide's own fill.sh prints them over the translation 046ba456cf85c6aa… (all of the seat's roots in one cut). By AI agents, Wed Nov 11 2026. No macro, syntax, notation, axiom, sorry.
-/
import Derived.Test.YtcdlgjhdbmmomaaGreatDoorChecked
import GoSem.PinnedTables
import GoSem.Claim
import GoSem.ClaimJoined
import GoSem.ClaimMapViews
import Derived.JoinedTies
import Derived.KernelRfl
namespace Go.Proofs.YtcdlgjhdbmmomaaGreatDoor
/- THE CELL 'sum', in the pinned program and in every row, IS THE sha256 OF THE DUMP (.gsa) THAT YtcdlgjhdbmmomaaGreatDoorProg.lean LOADS. Nothing in Lean hashes anything: it is a label: what it is worth is what the hold of that sum in a sandbox is worth. -/
noncomputable def Tryz.pinned : Pinned := { name := "ytcdlgjhdbmmomaagreatdoor", sum := "046ba456cf85c6aa91c7a74e67cdea07436977ab6379f57933e596a3c389798f", checked := Tryz.checked }
namespace Rows
def none {H : Type} : Left H := { results := [], args := [] }

/- WHAT THE LISTED PACKAGE-LEVEL VARIABLES READ AS WHEN THE CALL BEGINS. Each datum BY PROGRAM (the guide's laid-datum.mjs) off the statement by which the dump's own 'gosem.cut.vars' lays the variable. In a bare row this is a premise. The card (YtcdlgjhdbmmomaaGreatDoorCards.lean) ties it to the program's text. -/
def laid_math_bits_deBruijn32tab {H : Type} : DataW H := .agg [.lit (.int .u8 0), .lit (.int .u8 1), .lit (.int .u8 28), .lit (.int .u8 2), .lit (.int .u8 29), .lit (.int .u8 14), .lit (.int .u8 24), .lit (.int .u8 3), .lit (.int .u8 30), .lit (.int .u8 22), .lit (.int .u8 20), .lit (.int .u8 15), .lit (.int .u8 25), .lit (.int .u8 17), .lit (.int .u8 4), .lit (.int .u8 8), .lit (.int .u8 31), .lit (.int .u8 27), .lit (.int .u8 13), .lit (.int .u8 23), .lit (.int .u8 21), .lit (.int .u8 19), .lit (.int .u8 16), .lit (.int .u8 7), .lit (.int .u8 26), .lit (.int .u8 12), .lit (.int .u8 18), .lit (.int .u8 6), .lit (.int .u8 11), .lit (.int .u8 5), .lit (.int .u8 10), .lit (.int .u8 9)]
def laid_math_bits_deBruijn64tab {H : Type} : DataW H := .agg [.lit (.int .u8 0), .lit (.int .u8 1), .lit (.int .u8 56), .lit (.int .u8 2), .lit (.int .u8 57), .lit (.int .u8 49), .lit (.int .u8 28), .lit (.int .u8 3), .lit (.int .u8 61), .lit (.int .u8 58), .lit (.int .u8 42), .lit (.int .u8 50), .lit (.int .u8 38), .lit (.int .u8 29), .lit (.int .u8 17), .lit (.int .u8 4), .lit (.int .u8 62), .lit (.int .u8 47), .lit (.int .u8 59), .lit (.int .u8 36), .lit (.int .u8 45), .lit (.int .u8 43), .lit (.int .u8 51), .lit (.int .u8 22), .lit (.int .u8 53), .lit (.int .u8 39), .lit (.int .u8 33), .lit (.int .u8 30), .lit (.int .u8 24), .lit (.int .u8 18), .lit (.int .u8 12), .lit (.int .u8 5), .lit (.int .u8 63), .lit (.int .u8 55), .lit (.int .u8 48), .lit (.int .u8 27), .lit (.int .u8 60), .lit (.int .u8 41), .lit (.int .u8 37), .lit (.int .u8 16), .lit (.int .u8 46), .lit (.int .u8 35), .lit (.int .u8 44), .lit (.int .u8 21), .lit (.int .u8 52), .lit (.int .u8 32), .lit (.int .u8 23), .lit (.int .u8 11), .lit (.int .u8 54), .lit (.int .u8 26), .lit (.int .u8 40), .lit (.int .u8 15), .lit (.int .u8 34), .lit (.int .u8 20), .lit (.int .u8 31), .lit (.int .u8 10), .lit (.int .u8 25), .lit (.int .u8 14), .lit (.int .u8 19), .lit (.int .u8 9), .lit (.int .u8 13), .lit (.int .u8 8), .lit (.int .u8 7), .lit (.int .u8 6)]
def laid_internal_strconv_uint64pow10 {H : Type} : DataW H := .agg [.lit (.int .u64 1), .lit (.int .u64 10), .lit (.int .u64 100), .lit (.int .u64 1000), .lit (.int .u64 10000), .lit (.int .u64 100000), .lit (.int .u64 1000000), .lit (.int .u64 10000000), .lit (.int .u64 100000000), .lit (.int .u64 1000000000), .lit (.int .u64 10000000000), .lit (.int .u64 100000000000), .lit (.int .u64 1000000000000), .lit (.int .u64 10000000000000), .lit (.int .u64 100000000000000), .lit (.int .u64 1000000000000000), .lit (.int .u64 10000000000000000), .lit (.int .u64 100000000000000000), .lit (.int .u64 1000000000000000000), .lit (.int .u64 10000000000000000000)]
def laid_unicode_utf8_acceptRanges {H : Type} : DataW H := .agg [.agg [.lit (.int .u8 128), .lit (.int .u8 191)], .agg [.lit (.int .u8 160), .lit (.int .u8 191)], .agg [.lit (.int .u8 128), .lit (.int .u8 159)], .agg [.lit (.int .u8 144), .lit (.int .u8 191)], .agg [.lit (.int .u8 128), .lit (.int .u8 143)], .agg [.lit (.int .u8 0), .lit (.int .u8 0)], .agg [.lit (.int .u8 0), .lit (.int .u8 0)], .agg [.lit (.int .u8 0), .lit (.int .u8 0)], .agg [.lit (.int .u8 0), .lit (.int .u8 0)], .agg [.lit (.int .u8 0), .lit (.int .u8 0)], .agg [.lit (.int .u8 0), .lit (.int .u8 0)], .agg [.lit (.int .u8 0), .lit (.int .u8 0)], .agg [.lit (.int .u8 0), .lit (.int .u8 0)], .agg [.lit (.int .u8 0), .lit (.int .u8 0)], .agg [.lit (.int .u8 0), .lit (.int .u8 0)], .agg [.lit (.int .u8 0), .lit (.int .u8 0)]]
def laid_strconv_ErrRange {H : Type} : DataW H := .iface "*errors.errorString" (.ptr (.agg [.lit (.string [118, 97, 108, 117, 101, 32, 111, 117, 116, 32, 111, 102, 32, 114, 97, 110, 103, 101])]))
def laid_strconv_ErrSyntax {H : Type} : DataW H := .iface "*errors.errorString" (.ptr (.agg [.lit (.string [105, 110, 118, 97, 108, 105, 100, 32, 115, 121, 110, 116, 97, 120])]))
def laid_bolthole_isa_rows {H : Type} : DataW H := .agg [.agg [.lit (.int .u8 0), .lit (.int .u8 0), .lit (.int .i64 0)], .agg [.lit (.int .u8 0), .lit (.int .u8 0), .lit (.int .i64 1)], .agg [.lit (.int .u8 1), .lit (.int .u8 0), .lit (.int .i64 1)], .agg [.lit (.int .u8 2), .lit (.int .u8 0), .lit (.int .i64 1)], .agg [.lit (.int .u8 3), .lit (.int .u8 0), .lit (.int .i64 1)], .agg [.lit (.int .u8 16), .lit (.int .u8 0), .lit (.int .i64 2)], .agg [.lit (.int .u8 17), .lit (.int .u8 0), .lit (.int .i64 3)], .agg [.lit (.int .u8 32), .lit (.int .u8 0), .lit (.int .i64 4)], .agg [.lit (.int .u8 33), .lit (.int .u8 0), .lit (.int .i64 4)], .agg [.lit (.int .u8 34), .lit (.int .u8 0), .lit (.int .i64 4)], .agg [.lit (.int .u8 35), .lit (.int .u8 0), .lit (.int .i64 4)], .agg [.lit (.int .u8 36), .lit (.int .u8 0), .lit (.int .i64 4)], .agg [.lit (.int .u8 37), .lit (.int .u8 0), .lit (.int .i64 4)], .agg [.lit (.int .u8 38), .lit (.int .u8 0), .lit (.int .i64 4)], .agg [.lit (.int .u8 48), .lit (.int .u8 0), .lit (.int .i64 3)], .agg [.lit (.int .u8 49), .lit (.int .u8 0), .lit (.int .i64 5)], .agg [.lit (.int .u8 64), .lit (.int .u8 0), .lit (.int .i64 6)], .agg [.lit (.int .u8 65), .lit (.int .u8 0), .lit (.int .i64 7)], .agg [.lit (.int .u8 80), .lit (.int .u8 84), .lit (.int .i64 8)], .agg [.lit (.int .u8 81), .lit (.int .u8 85), .lit (.int .i64 8)], .agg [.lit (.int .u8 82), .lit (.int .u8 86), .lit (.int .i64 8)], .agg [.lit (.int .u8 83), .lit (.int .u8 87), .lit (.int .i64 8)], .agg [.lit (.int .u8 96), .lit (.int .u8 97), .lit (.int .i64 9)], .agg [.lit (.int .u8 98), .lit (.int .u8 0), .lit (.int .i64 10)], .agg [.lit (.int .u8 99), .lit (.int .u8 0), .lit (.int .i64 11)]]
def laid_bolthole_isa_sizes {H : Type} : DataW H := .agg [.lit (.int .i64 0), .lit (.int .i64 1), .lit (.int .i64 4), .lit (.int .i64 3), .lit (.int .i64 3), .lit (.int .i64 3), .lit (.int .i64 2), .lit (.int .i64 2), .lit (.int .i64 3), .lit (.int .i64 2), .lit (.int .i64 3), .lit (.int .i64 3)]
/-- One of Go's own tables, pinned by name: the form's constant. -/
def laid_unicode_utf8_first : DataW Unit := Go.Pinned.utf8First

/-- 'boltholekeep.MapFits': WHATEVER THE INPUT: true; the input reads as it did. -/
def mapFitsSpec : ChangeSpec := { name := "mapFits", fn := fun _ => fun
  | [d1, d2] => { results := [.lit (.bool true)], args := [d1, d2] }
  | _ => none }
def mapFitsRow : OpenClaim := { program := "ytcdlgjhdbmmomaagreatdoor", sum := "046ba456cf85c6aa91c7a74e67cdea07436977ab6379f57933e596a3c389798f", func := "bolthole/boltholekeep.MapFits", spec := "mapFits", inPlace := ["internal/bytealg.IndexByteString", "internal/bytealg.IndexString", "internal/bytealg.CountString"], unfollowed := true, recurses := true, named := ["internal/bytealg.MaxLen", "unicode/utf8.first", "unicode/utf8.acceptRanges", "strconv.ErrSyntax", "strconv.ErrRange", "internal/strconv.uint64pow10", "math/bits.deBruijn32tab", "math/bits.deBruijn64tab", "bolthole/isa.rows", "bolthole/isa.sizes"], plainKeys := false, apart := false, laid := [("math/bits.deBruijn32tab", laid_math_bits_deBruijn32tab), ("math/bits.deBruijn64tab", laid_math_bits_deBruijn64tab), ("internal/strconv.uint64pow10", laid_internal_strconv_uint64pow10), ("unicode/utf8.acceptRanges", laid_unicode_utf8_acceptRanges), ("strconv.ErrRange", laid_strconv_ErrRange), ("strconv.ErrSyntax", laid_strconv_ErrSyntax), ("bolthole/isa.rows", laid_bolthole_isa_rows), ("bolthole/isa.sizes", laid_bolthole_isa_sizes), ("unicode/utf8.first", laid_unicode_utf8_first)] }
def MapFitsSaid : Prop := mapFitsRow.holds Tryz.pinned (OpenSpec.ofChange mapFitsSpec)

/-- ITS FALSE NEIGHBOUR: 'it returns false'. Refute it at one input. -/
def mapFitsWrong : ChangeSpec := { name := "mapFits", fn := fun _ => fun
  | [d1, d2] => { results := [.lit (.bool false)], args := [d1, d2] }
  | _ => none }
def MapFitsWrongFalsely : Prop := mapFitsRow.holds Tryz.pinned (OpenSpec.ofChange mapFitsWrong)

/-- 'boltholekeep.MapCapped': WHATEVER THE INPUT: true; the input reads as it did. -/
def mapCappedSpec : ChangeSpec := { name := "mapCapped", fn := fun _ => fun
  | [d1, d2] => { results := [.lit (.bool true)], args := [d1, d2] }
  | _ => none }
def mapCappedRow : OpenClaim := { program := "ytcdlgjhdbmmomaagreatdoor", sum := "046ba456cf85c6aa91c7a74e67cdea07436977ab6379f57933e596a3c389798f", func := "bolthole/boltholekeep.MapCapped", spec := "mapCapped", inPlace := ["internal/bytealg.IndexByteString", "internal/bytealg.IndexString", "internal/bytealg.CountString"], unfollowed := true, recurses := true, named := ["internal/bytealg.MaxLen", "unicode/utf8.first", "unicode/utf8.acceptRanges", "strconv.ErrSyntax", "strconv.ErrRange", "internal/strconv.uint64pow10", "math/bits.deBruijn32tab", "math/bits.deBruijn64tab", "bolthole/isa.rows", "bolthole/isa.sizes"], plainKeys := false, apart := false, laid := [("math/bits.deBruijn32tab", laid_math_bits_deBruijn32tab), ("math/bits.deBruijn64tab", laid_math_bits_deBruijn64tab), ("internal/strconv.uint64pow10", laid_internal_strconv_uint64pow10), ("unicode/utf8.acceptRanges", laid_unicode_utf8_acceptRanges), ("strconv.ErrRange", laid_strconv_ErrRange), ("strconv.ErrSyntax", laid_strconv_ErrSyntax), ("bolthole/isa.rows", laid_bolthole_isa_rows), ("bolthole/isa.sizes", laid_bolthole_isa_sizes), ("unicode/utf8.first", laid_unicode_utf8_first)] }
def MapCappedSaid : Prop := mapCappedRow.holds Tryz.pinned (OpenSpec.ofChange mapCappedSpec)

/-- ITS FALSE NEIGHBOUR: 'it returns false'. Refute it at one input. -/
def mapCappedWrong : ChangeSpec := { name := "mapCapped", fn := fun _ => fun
  | [d1, d2] => { results := [.lit (.bool false)], args := [d1, d2] }
  | _ => none }
def MapCappedWrongFalsely : Prop := mapCappedRow.holds Tryz.pinned (OpenSpec.ofChange mapCappedWrong)

/-- 'boltholekeep.MapSums': WHATEVER THE INPUT: true; the input reads as it did. -/
def mapSumsSpec : ChangeSpec := { name := "mapSums", fn := fun _ => fun
  | [d1, d2] => { results := [.lit (.bool true)], args := [d1, d2] }
  | _ => none }
def mapSumsRow : OpenClaim := { program := "ytcdlgjhdbmmomaagreatdoor", sum := "046ba456cf85c6aa91c7a74e67cdea07436977ab6379f57933e596a3c389798f", func := "bolthole/boltholekeep.MapSums", spec := "mapSums", inPlace := ["internal/bytealg.IndexByteString", "internal/bytealg.IndexString", "internal/bytealg.CountString"], unfollowed := true, recurses := true, named := ["internal/bytealg.MaxLen", "unicode/utf8.first", "unicode/utf8.acceptRanges", "strconv.ErrSyntax", "strconv.ErrRange", "internal/strconv.uint64pow10", "math/bits.deBruijn32tab", "math/bits.deBruijn64tab", "bolthole/isa.rows", "bolthole/isa.sizes"], plainKeys := false, apart := false, laid := [("math/bits.deBruijn32tab", laid_math_bits_deBruijn32tab), ("math/bits.deBruijn64tab", laid_math_bits_deBruijn64tab), ("internal/strconv.uint64pow10", laid_internal_strconv_uint64pow10), ("unicode/utf8.acceptRanges", laid_unicode_utf8_acceptRanges), ("strconv.ErrRange", laid_strconv_ErrRange), ("strconv.ErrSyntax", laid_strconv_ErrSyntax), ("bolthole/isa.rows", laid_bolthole_isa_rows), ("bolthole/isa.sizes", laid_bolthole_isa_sizes), ("unicode/utf8.first", laid_unicode_utf8_first)] }
def MapSumsSaid : Prop := mapSumsRow.holds Tryz.pinned (OpenSpec.ofChange mapSumsSpec)

/-- ITS FALSE NEIGHBOUR: 'it returns false'. Refute it at one input. -/
def mapSumsWrong : ChangeSpec := { name := "mapSums", fn := fun _ => fun
  | [d1, d2] => { results := [.lit (.bool false)], args := [d1, d2] }
  | _ => none }
def MapSumsWrongFalsely : Prop := mapSumsRow.holds Tryz.pinned (OpenSpec.ofChange mapSumsWrong)

/-- 'boltholekeep.OrderAll': WHATEVER THE INPUT: true; the input reads as it did. -/
def orderAllSpec : ChangeSpec := { name := "orderAll", fn := fun _ => fun
  | [d1, d2] => { results := [.lit (.bool true)], args := [d1, d2] }
  | _ => none }
def orderAllRow : OpenClaim := { program := "ytcdlgjhdbmmomaagreatdoor", sum := "046ba456cf85c6aa91c7a74e67cdea07436977ab6379f57933e596a3c389798f", func := "bolthole/boltholekeep.OrderAll", spec := "orderAll", inPlace := ["internal/bytealg.IndexByteString", "internal/bytealg.IndexString", "internal/bytealg.CountString"], unfollowed := true, recurses := true, named := ["bolthole/isa.rows", "bolthole/isa.sizes", "internal/strconv.uint64pow10", "math/bits.deBruijn32tab", "math/bits.deBruijn64tab", "internal/bytealg.MaxLen", "unicode/utf8.first", "unicode/utf8.acceptRanges", "strconv.ErrSyntax", "strconv.ErrRange"], plainKeys := false, apart := false, laid := [("math/bits.deBruijn32tab", laid_math_bits_deBruijn32tab), ("math/bits.deBruijn64tab", laid_math_bits_deBruijn64tab), ("internal/strconv.uint64pow10", laid_internal_strconv_uint64pow10), ("unicode/utf8.acceptRanges", laid_unicode_utf8_acceptRanges), ("strconv.ErrRange", laid_strconv_ErrRange), ("strconv.ErrSyntax", laid_strconv_ErrSyntax), ("bolthole/isa.rows", laid_bolthole_isa_rows), ("bolthole/isa.sizes", laid_bolthole_isa_sizes), ("unicode/utf8.first", laid_unicode_utf8_first)] }
def OrderAllSaid : Prop := orderAllRow.holds Tryz.pinned (OpenSpec.ofChange orderAllSpec)

/-- ITS FALSE NEIGHBOUR: 'it returns false'. Refute it at one input. -/
def orderAllWrong : ChangeSpec := { name := "orderAll", fn := fun _ => fun
  | [d1, d2] => { results := [.lit (.bool false)], args := [d1, d2] }
  | _ => none }
def OrderAllWrongFalsely : Prop := orderAllRow.holds Tryz.pinned (OpenSpec.ofChange orderAllWrong)

/-- 'boltholekeep.OrderNone': WHATEVER THE INPUT: true; the input reads as it did. -/
def orderNoneSpec : ChangeSpec := { name := "orderNone", fn := fun _ => fun
  | [d] => { results := [.lit (.bool true)], args := [d] }
  | _ => none }
def orderNoneRow : OpenClaim := { program := "ytcdlgjhdbmmomaagreatdoor", sum := "046ba456cf85c6aa91c7a74e67cdea07436977ab6379f57933e596a3c389798f", func := "bolthole/boltholekeep.OrderNone", spec := "orderNone", inPlace := ["internal/bytealg.IndexByteString", "internal/bytealg.IndexString", "internal/bytealg.CountString"], unfollowed := true, recurses := true, named := ["bolthole/isa.rows", "bolthole/isa.sizes", "internal/strconv.uint64pow10", "math/bits.deBruijn32tab", "math/bits.deBruijn64tab", "internal/bytealg.MaxLen", "unicode/utf8.first", "unicode/utf8.acceptRanges", "strconv.ErrSyntax", "strconv.ErrRange"], plainKeys := false, apart := false, laid := [("math/bits.deBruijn32tab", laid_math_bits_deBruijn32tab), ("math/bits.deBruijn64tab", laid_math_bits_deBruijn64tab), ("internal/strconv.uint64pow10", laid_internal_strconv_uint64pow10), ("unicode/utf8.acceptRanges", laid_unicode_utf8_acceptRanges), ("strconv.ErrRange", laid_strconv_ErrRange), ("strconv.ErrSyntax", laid_strconv_ErrSyntax), ("bolthole/isa.rows", laid_bolthole_isa_rows), ("bolthole/isa.sizes", laid_bolthole_isa_sizes), ("unicode/utf8.first", laid_unicode_utf8_first)] }
def OrderNoneSaid : Prop := orderNoneRow.holds Tryz.pinned (OpenSpec.ofChange orderNoneSpec)

/-- ITS FALSE NEIGHBOUR: 'it returns false'. Refute it at one input. -/
def orderNoneWrong : ChangeSpec := { name := "orderNone", fn := fun _ => fun
  | [d] => { results := [.lit (.bool false)], args := [d] }
  | _ => none }
def OrderNoneWrongFalsely : Prop := orderNoneRow.holds Tryz.pinned (OpenSpec.ofChange orderNoneWrong)

/-- 'boltholekeep.OrderHot': WHATEVER THE INPUT: true; the input reads as it did. -/
def orderHotSpec : ChangeSpec := { name := "orderHot", fn := fun _ => fun
  | [d1, d2] => { results := [.lit (.bool true)], args := [d1, d2] }
  | _ => none }
def orderHotRow : OpenClaim := { program := "ytcdlgjhdbmmomaagreatdoor", sum := "046ba456cf85c6aa91c7a74e67cdea07436977ab6379f57933e596a3c389798f", func := "bolthole/boltholekeep.OrderHot", spec := "orderHot", inPlace := ["internal/bytealg.IndexByteString", "internal/bytealg.IndexString", "internal/bytealg.CountString"], unfollowed := true, recurses := true, named := ["bolthole/isa.rows", "bolthole/isa.sizes", "internal/strconv.uint64pow10", "math/bits.deBruijn32tab", "math/bits.deBruijn64tab", "internal/bytealg.MaxLen", "unicode/utf8.first", "unicode/utf8.acceptRanges", "strconv.ErrSyntax", "strconv.ErrRange"], plainKeys := false, apart := false, laid := [("math/bits.deBruijn32tab", laid_math_bits_deBruijn32tab), ("math/bits.deBruijn64tab", laid_math_bits_deBruijn64tab), ("internal/strconv.uint64pow10", laid_internal_strconv_uint64pow10), ("unicode/utf8.acceptRanges", laid_unicode_utf8_acceptRanges), ("strconv.ErrRange", laid_strconv_ErrRange), ("strconv.ErrSyntax", laid_strconv_ErrSyntax), ("bolthole/isa.rows", laid_bolthole_isa_rows), ("bolthole/isa.sizes", laid_bolthole_isa_sizes), ("unicode/utf8.first", laid_unicode_utf8_first)] }
def OrderHotSaid : Prop := orderHotRow.holds Tryz.pinned (OpenSpec.ofChange orderHotSpec)

/-- ITS FALSE NEIGHBOUR: 'it returns false'. Refute it at one input. -/
def orderHotWrong : ChangeSpec := { name := "orderHot", fn := fun _ => fun
  | [d1, d2] => { results := [.lit (.bool false)], args := [d1, d2] }
  | _ => none }
def OrderHotWrongFalsely : Prop := orderHotRow.holds Tryz.pinned (OpenSpec.ofChange orderHotWrong)

/-- 'boltholekeep.OrderChains': WHATEVER THE INPUT: true; the input reads as it did. -/
def orderChainsSpec : ChangeSpec := { name := "orderChains", fn := fun _ => fun
  | [d1, d2] => { results := [.lit (.bool true)], args := [d1, d2] }
  | _ => none }
def orderChainsRow : OpenClaim := { program := "ytcdlgjhdbmmomaagreatdoor", sum := "046ba456cf85c6aa91c7a74e67cdea07436977ab6379f57933e596a3c389798f", func := "bolthole/boltholekeep.OrderChains", spec := "orderChains", inPlace := ["internal/bytealg.IndexByteString", "internal/bytealg.IndexString", "internal/bytealg.CountString"], unfollowed := true, recurses := true, named := ["bolthole/isa.rows", "bolthole/isa.sizes", "internal/strconv.uint64pow10", "math/bits.deBruijn32tab", "math/bits.deBruijn64tab", "internal/bytealg.MaxLen", "unicode/utf8.first", "unicode/utf8.acceptRanges", "strconv.ErrSyntax", "strconv.ErrRange"], plainKeys := false, apart := false, laid := [("math/bits.deBruijn32tab", laid_math_bits_deBruijn32tab), ("math/bits.deBruijn64tab", laid_math_bits_deBruijn64tab), ("internal/strconv.uint64pow10", laid_internal_strconv_uint64pow10), ("unicode/utf8.acceptRanges", laid_unicode_utf8_acceptRanges), ("strconv.ErrRange", laid_strconv_ErrRange), ("strconv.ErrSyntax", laid_strconv_ErrSyntax), ("bolthole/isa.rows", laid_bolthole_isa_rows), ("bolthole/isa.sizes", laid_bolthole_isa_sizes), ("unicode/utf8.first", laid_unicode_utf8_first)] }
def OrderChainsSaid : Prop := orderChainsRow.holds Tryz.pinned (OpenSpec.ofChange orderChainsSpec)

/-- ITS FALSE NEIGHBOUR: 'it returns false'. Refute it at one input. -/
def orderChainsWrong : ChangeSpec := { name := "orderChains", fn := fun _ => fun
  | [d1, d2] => { results := [.lit (.bool false)], args := [d1, d2] }
  | _ => none }
def OrderChainsWrongFalsely : Prop := orderChainsRow.holds Tryz.pinned (OpenSpec.ofChange orderChainsWrong)

/-- 'boltholekeep.OrderFuncs': WHATEVER THE INPUT: true; the input reads as it did. -/
def orderFuncsSpec : ChangeSpec := { name := "orderFuncs", fn := fun _ => fun
  | [d1, d2] => { results := [.lit (.bool true)], args := [d1, d2] }
  | _ => none }
def orderFuncsRow : OpenClaim := { program := "ytcdlgjhdbmmomaagreatdoor", sum := "046ba456cf85c6aa91c7a74e67cdea07436977ab6379f57933e596a3c389798f", func := "bolthole/boltholekeep.OrderFuncs", spec := "orderFuncs", inPlace := ["internal/bytealg.IndexByteString", "internal/bytealg.IndexString", "internal/bytealg.CountString"], unfollowed := true, recurses := true, named := ["bolthole/isa.rows", "bolthole/isa.sizes", "internal/strconv.uint64pow10", "math/bits.deBruijn32tab", "math/bits.deBruijn64tab", "internal/bytealg.MaxLen", "unicode/utf8.first", "unicode/utf8.acceptRanges", "strconv.ErrSyntax", "strconv.ErrRange"], plainKeys := false, apart := false, laid := [("math/bits.deBruijn32tab", laid_math_bits_deBruijn32tab), ("math/bits.deBruijn64tab", laid_math_bits_deBruijn64tab), ("internal/strconv.uint64pow10", laid_internal_strconv_uint64pow10), ("unicode/utf8.acceptRanges", laid_unicode_utf8_acceptRanges), ("strconv.ErrRange", laid_strconv_ErrRange), ("strconv.ErrSyntax", laid_strconv_ErrSyntax), ("bolthole/isa.rows", laid_bolthole_isa_rows), ("bolthole/isa.sizes", laid_bolthole_isa_sizes), ("unicode/utf8.first", laid_unicode_utf8_first)] }
def OrderFuncsSaid : Prop := orderFuncsRow.holds Tryz.pinned (OpenSpec.ofChange orderFuncsSpec)

/-- ITS FALSE NEIGHBOUR: 'it returns false'. Refute it at one input. -/
def orderFuncsWrong : ChangeSpec := { name := "orderFuncs", fn := fun _ => fun
  | [d1, d2] => { results := [.lit (.bool false)], args := [d1, d2] }
  | _ => none }
def OrderFuncsWrongFalsely : Prop := orderFuncsRow.holds Tryz.pinned (OpenSpec.ofChange orderFuncsWrong)

/-- 'boltholekeep.OrderScale': WHATEVER THE INPUT: true; the input reads as it did. -/
def orderScaleSpec : ChangeSpec := { name := "orderScale", fn := fun _ => fun
  | [d1, d2] => { results := [.lit (.bool true)], args := [d1, d2] }
  | _ => none }
def orderScaleRow : OpenClaim := { program := "ytcdlgjhdbmmomaagreatdoor", sum := "046ba456cf85c6aa91c7a74e67cdea07436977ab6379f57933e596a3c389798f", func := "bolthole/boltholekeep.OrderScale", spec := "orderScale", inPlace := ["internal/bytealg.IndexByteString", "internal/bytealg.IndexString", "internal/bytealg.CountString"], unfollowed := true, recurses := true, named := ["bolthole/isa.rows", "bolthole/isa.sizes", "internal/strconv.uint64pow10", "math/bits.deBruijn32tab", "math/bits.deBruijn64tab", "internal/bytealg.MaxLen", "unicode/utf8.first", "unicode/utf8.acceptRanges", "strconv.ErrSyntax", "strconv.ErrRange"], plainKeys := false, apart := false, laid := [("math/bits.deBruijn32tab", laid_math_bits_deBruijn32tab), ("math/bits.deBruijn64tab", laid_math_bits_deBruijn64tab), ("internal/strconv.uint64pow10", laid_internal_strconv_uint64pow10), ("unicode/utf8.acceptRanges", laid_unicode_utf8_acceptRanges), ("strconv.ErrRange", laid_strconv_ErrRange), ("strconv.ErrSyntax", laid_strconv_ErrSyntax), ("bolthole/isa.rows", laid_bolthole_isa_rows), ("bolthole/isa.sizes", laid_bolthole_isa_sizes), ("unicode/utf8.first", laid_unicode_utf8_first)] }
def OrderScaleSaid : Prop := orderScaleRow.holds Tryz.pinned (OpenSpec.ofChange orderScaleSpec)

/-- ITS FALSE NEIGHBOUR: 'it returns false'. Refute it at one input. -/
def orderScaleWrong : ChangeSpec := { name := "orderScale", fn := fun _ => fun
  | [d1, d2] => { results := [.lit (.bool false)], args := [d1, d2] }
  | _ => none }
def OrderScaleWrongFalsely : Prop := orderScaleRow.holds Tryz.pinned (OpenSpec.ofChange orderScaleWrong)

/- THE SECOND FORM. 'bulk': how many values and letters a reading holds, each counted each time it is reached (what is shared counts as often as it is met; a slice's spare places count too). A statement '..UptoSaid' is the law's where the arguments, and the package variables that the reading takes, are together of bulk at most 1048576: NARROWER than '..Said'. Prove '..Said' where nothing that the law and all that it calls make is longer than what came in: it says more and counts as full. Else prove '..UptoSaid'. A law counts once. -/
mutual
def uptoBulk {H : Type} : DataW H → Nat
  | .lit (.string bytes) => bytes.length + 1
  | .lit _ => 1
  | .nil => 1
  | .ptr d => uptoBulk d + 1
  | .slice elems spare => uptoBulkAll elems + uptoBulkAll spare + 1
  | .agg parts => uptoBulkAll parts + 1
  | .iface _ d => uptoBulk d + 1
  | .map entries => uptoBulkEntries entries + 1
  | .held _ => 1
def uptoBulkAll {H : Type} : List (DataW H) → Nat
  | [] => 0
  | d :: r => uptoBulk d + uptoBulkAll r
def uptoBulkEntries {H : Type} : List (Lit × DataW H) → Nat
  | [] => 0
  | x :: r => uptoBulkEntry x + uptoBulkEntries r
def uptoBulkEntry {H : Type} : Lit × DataW H → Nat
  | (.string bytes, d) => bytes.length + uptoBulk d + 1
  | (_, d) => uptoBulk d + 1
 end
def uptoSmall : (H : Type) → List (DataW H) → Bool := fun _ ds => decide (uptoBulkAll ds ≤ 1048576)
def OpenSpec.upto (s : _root_.Go.ChangeSpec) : _root_.Go.OpenSpec := { _root_.Go.OpenSpec.ofChange s with cond := some uptoSmall }

/-- 'boltholekeep.MapFits', WHERE WHAT IT READS IS OF BULK AT MOST 1048576: true; the input reads as it did. -/
def mapFitsUptoRow : OpenClaim := { program := "ytcdlgjhdbmmomaagreatdoor", sum := "046ba456cf85c6aa91c7a74e67cdea07436977ab6379f57933e596a3c389798f", func := "bolthole/boltholekeep.MapFits", spec := "mapFits", inPlace := ["internal/bytealg.IndexByteString", "internal/bytealg.IndexString", "internal/bytealg.CountString"], unfollowed := true, recurses := true, named := ["internal/bytealg.MaxLen", "unicode/utf8.first", "unicode/utf8.acceptRanges", "strconv.ErrSyntax", "strconv.ErrRange", "internal/strconv.uint64pow10", "math/bits.deBruijn32tab", "math/bits.deBruijn64tab", "bolthole/isa.rows", "bolthole/isa.sizes"], plainKeys := false, apart := false, laid := [("math/bits.deBruijn32tab", laid_math_bits_deBruijn32tab), ("math/bits.deBruijn64tab", laid_math_bits_deBruijn64tab), ("internal/strconv.uint64pow10", laid_internal_strconv_uint64pow10), ("unicode/utf8.acceptRanges", laid_unicode_utf8_acceptRanges), ("strconv.ErrRange", laid_strconv_ErrRange), ("strconv.ErrSyntax", laid_strconv_ErrSyntax), ("bolthole/isa.rows", laid_bolthole_isa_rows), ("bolthole/isa.sizes", laid_bolthole_isa_sizes), ("unicode/utf8.first", laid_unicode_utf8_first)], narrowed := true }
def MapFitsUptoSaid : Prop := mapFitsUptoRow.holds Tryz.pinned (OpenSpec.upto mapFitsSpec)

/-- 'boltholekeep.MapCapped', WHERE WHAT IT READS IS OF BULK AT MOST 1048576: true; the input reads as it did. -/
def mapCappedUptoRow : OpenClaim := { program := "ytcdlgjhdbmmomaagreatdoor", sum := "046ba456cf85c6aa91c7a74e67cdea07436977ab6379f57933e596a3c389798f", func := "bolthole/boltholekeep.MapCapped", spec := "mapCapped", inPlace := ["internal/bytealg.IndexByteString", "internal/bytealg.IndexString", "internal/bytealg.CountString"], unfollowed := true, recurses := true, named := ["internal/bytealg.MaxLen", "unicode/utf8.first", "unicode/utf8.acceptRanges", "strconv.ErrSyntax", "strconv.ErrRange", "internal/strconv.uint64pow10", "math/bits.deBruijn32tab", "math/bits.deBruijn64tab", "bolthole/isa.rows", "bolthole/isa.sizes"], plainKeys := false, apart := false, laid := [("math/bits.deBruijn32tab", laid_math_bits_deBruijn32tab), ("math/bits.deBruijn64tab", laid_math_bits_deBruijn64tab), ("internal/strconv.uint64pow10", laid_internal_strconv_uint64pow10), ("unicode/utf8.acceptRanges", laid_unicode_utf8_acceptRanges), ("strconv.ErrRange", laid_strconv_ErrRange), ("strconv.ErrSyntax", laid_strconv_ErrSyntax), ("bolthole/isa.rows", laid_bolthole_isa_rows), ("bolthole/isa.sizes", laid_bolthole_isa_sizes), ("unicode/utf8.first", laid_unicode_utf8_first)], narrowed := true }
def MapCappedUptoSaid : Prop := mapCappedUptoRow.holds Tryz.pinned (OpenSpec.upto mapCappedSpec)

/-- 'boltholekeep.MapSums', WHERE WHAT IT READS IS OF BULK AT MOST 1048576: true; the input reads as it did. -/
def mapSumsUptoRow : OpenClaim := { program := "ytcdlgjhdbmmomaagreatdoor", sum := "046ba456cf85c6aa91c7a74e67cdea07436977ab6379f57933e596a3c389798f", func := "bolthole/boltholekeep.MapSums", spec := "mapSums", inPlace := ["internal/bytealg.IndexByteString", "internal/bytealg.IndexString", "internal/bytealg.CountString"], unfollowed := true, recurses := true, named := ["internal/bytealg.MaxLen", "unicode/utf8.first", "unicode/utf8.acceptRanges", "strconv.ErrSyntax", "strconv.ErrRange", "internal/strconv.uint64pow10", "math/bits.deBruijn32tab", "math/bits.deBruijn64tab", "bolthole/isa.rows", "bolthole/isa.sizes"], plainKeys := false, apart := false, laid := [("math/bits.deBruijn32tab", laid_math_bits_deBruijn32tab), ("math/bits.deBruijn64tab", laid_math_bits_deBruijn64tab), ("internal/strconv.uint64pow10", laid_internal_strconv_uint64pow10), ("unicode/utf8.acceptRanges", laid_unicode_utf8_acceptRanges), ("strconv.ErrRange", laid_strconv_ErrRange), ("strconv.ErrSyntax", laid_strconv_ErrSyntax), ("bolthole/isa.rows", laid_bolthole_isa_rows), ("bolthole/isa.sizes", laid_bolthole_isa_sizes), ("unicode/utf8.first", laid_unicode_utf8_first)], narrowed := true }
def MapSumsUptoSaid : Prop := mapSumsUptoRow.holds Tryz.pinned (OpenSpec.upto mapSumsSpec)

/-- 'boltholekeep.OrderAll', WHERE WHAT IT READS IS OF BULK AT MOST 1048576: true; the input reads as it did. -/
def orderAllUptoRow : OpenClaim := { program := "ytcdlgjhdbmmomaagreatdoor", sum := "046ba456cf85c6aa91c7a74e67cdea07436977ab6379f57933e596a3c389798f", func := "bolthole/boltholekeep.OrderAll", spec := "orderAll", inPlace := ["internal/bytealg.IndexByteString", "internal/bytealg.IndexString", "internal/bytealg.CountString"], unfollowed := true, recurses := true, named := ["bolthole/isa.rows", "bolthole/isa.sizes", "internal/strconv.uint64pow10", "math/bits.deBruijn32tab", "math/bits.deBruijn64tab", "internal/bytealg.MaxLen", "unicode/utf8.first", "unicode/utf8.acceptRanges", "strconv.ErrSyntax", "strconv.ErrRange"], plainKeys := false, apart := false, laid := [("math/bits.deBruijn32tab", laid_math_bits_deBruijn32tab), ("math/bits.deBruijn64tab", laid_math_bits_deBruijn64tab), ("internal/strconv.uint64pow10", laid_internal_strconv_uint64pow10), ("unicode/utf8.acceptRanges", laid_unicode_utf8_acceptRanges), ("strconv.ErrRange", laid_strconv_ErrRange), ("strconv.ErrSyntax", laid_strconv_ErrSyntax), ("bolthole/isa.rows", laid_bolthole_isa_rows), ("bolthole/isa.sizes", laid_bolthole_isa_sizes), ("unicode/utf8.first", laid_unicode_utf8_first)], narrowed := true }
def OrderAllUptoSaid : Prop := orderAllUptoRow.holds Tryz.pinned (OpenSpec.upto orderAllSpec)

/-- 'boltholekeep.OrderNone', WHERE WHAT IT READS IS OF BULK AT MOST 1048576: true; the input reads as it did. -/
def orderNoneUptoRow : OpenClaim := { program := "ytcdlgjhdbmmomaagreatdoor", sum := "046ba456cf85c6aa91c7a74e67cdea07436977ab6379f57933e596a3c389798f", func := "bolthole/boltholekeep.OrderNone", spec := "orderNone", inPlace := ["internal/bytealg.IndexByteString", "internal/bytealg.IndexString", "internal/bytealg.CountString"], unfollowed := true, recurses := true, named := ["bolthole/isa.rows", "bolthole/isa.sizes", "internal/strconv.uint64pow10", "math/bits.deBruijn32tab", "math/bits.deBruijn64tab", "internal/bytealg.MaxLen", "unicode/utf8.first", "unicode/utf8.acceptRanges", "strconv.ErrSyntax", "strconv.ErrRange"], plainKeys := false, apart := false, laid := [("math/bits.deBruijn32tab", laid_math_bits_deBruijn32tab), ("math/bits.deBruijn64tab", laid_math_bits_deBruijn64tab), ("internal/strconv.uint64pow10", laid_internal_strconv_uint64pow10), ("unicode/utf8.acceptRanges", laid_unicode_utf8_acceptRanges), ("strconv.ErrRange", laid_strconv_ErrRange), ("strconv.ErrSyntax", laid_strconv_ErrSyntax), ("bolthole/isa.rows", laid_bolthole_isa_rows), ("bolthole/isa.sizes", laid_bolthole_isa_sizes), ("unicode/utf8.first", laid_unicode_utf8_first)], narrowed := true }
def OrderNoneUptoSaid : Prop := orderNoneUptoRow.holds Tryz.pinned (OpenSpec.upto orderNoneSpec)

/-- 'boltholekeep.OrderHot', WHERE WHAT IT READS IS OF BULK AT MOST 1048576: true; the input reads as it did. -/
def orderHotUptoRow : OpenClaim := { program := "ytcdlgjhdbmmomaagreatdoor", sum := "046ba456cf85c6aa91c7a74e67cdea07436977ab6379f57933e596a3c389798f", func := "bolthole/boltholekeep.OrderHot", spec := "orderHot", inPlace := ["internal/bytealg.IndexByteString", "internal/bytealg.IndexString", "internal/bytealg.CountString"], unfollowed := true, recurses := true, named := ["bolthole/isa.rows", "bolthole/isa.sizes", "internal/strconv.uint64pow10", "math/bits.deBruijn32tab", "math/bits.deBruijn64tab", "internal/bytealg.MaxLen", "unicode/utf8.first", "unicode/utf8.acceptRanges", "strconv.ErrSyntax", "strconv.ErrRange"], plainKeys := false, apart := false, laid := [("math/bits.deBruijn32tab", laid_math_bits_deBruijn32tab), ("math/bits.deBruijn64tab", laid_math_bits_deBruijn64tab), ("internal/strconv.uint64pow10", laid_internal_strconv_uint64pow10), ("unicode/utf8.acceptRanges", laid_unicode_utf8_acceptRanges), ("strconv.ErrRange", laid_strconv_ErrRange), ("strconv.ErrSyntax", laid_strconv_ErrSyntax), ("bolthole/isa.rows", laid_bolthole_isa_rows), ("bolthole/isa.sizes", laid_bolthole_isa_sizes), ("unicode/utf8.first", laid_unicode_utf8_first)], narrowed := true }
def OrderHotUptoSaid : Prop := orderHotUptoRow.holds Tryz.pinned (OpenSpec.upto orderHotSpec)

/-- 'boltholekeep.OrderChains', WHERE WHAT IT READS IS OF BULK AT MOST 1048576: true; the input reads as it did. -/
def orderChainsUptoRow : OpenClaim := { program := "ytcdlgjhdbmmomaagreatdoor", sum := "046ba456cf85c6aa91c7a74e67cdea07436977ab6379f57933e596a3c389798f", func := "bolthole/boltholekeep.OrderChains", spec := "orderChains", inPlace := ["internal/bytealg.IndexByteString", "internal/bytealg.IndexString", "internal/bytealg.CountString"], unfollowed := true, recurses := true, named := ["bolthole/isa.rows", "bolthole/isa.sizes", "internal/strconv.uint64pow10", "math/bits.deBruijn32tab", "math/bits.deBruijn64tab", "internal/bytealg.MaxLen", "unicode/utf8.first", "unicode/utf8.acceptRanges", "strconv.ErrSyntax", "strconv.ErrRange"], plainKeys := false, apart := false, laid := [("math/bits.deBruijn32tab", laid_math_bits_deBruijn32tab), ("math/bits.deBruijn64tab", laid_math_bits_deBruijn64tab), ("internal/strconv.uint64pow10", laid_internal_strconv_uint64pow10), ("unicode/utf8.acceptRanges", laid_unicode_utf8_acceptRanges), ("strconv.ErrRange", laid_strconv_ErrRange), ("strconv.ErrSyntax", laid_strconv_ErrSyntax), ("bolthole/isa.rows", laid_bolthole_isa_rows), ("bolthole/isa.sizes", laid_bolthole_isa_sizes), ("unicode/utf8.first", laid_unicode_utf8_first)], narrowed := true }
def OrderChainsUptoSaid : Prop := orderChainsUptoRow.holds Tryz.pinned (OpenSpec.upto orderChainsSpec)

/-- 'boltholekeep.OrderFuncs', WHERE WHAT IT READS IS OF BULK AT MOST 1048576: true; the input reads as it did. -/
def orderFuncsUptoRow : OpenClaim := { program := "ytcdlgjhdbmmomaagreatdoor", sum := "046ba456cf85c6aa91c7a74e67cdea07436977ab6379f57933e596a3c389798f", func := "bolthole/boltholekeep.OrderFuncs", spec := "orderFuncs", inPlace := ["internal/bytealg.IndexByteString", "internal/bytealg.IndexString", "internal/bytealg.CountString"], unfollowed := true, recurses := true, named := ["bolthole/isa.rows", "bolthole/isa.sizes", "internal/strconv.uint64pow10", "math/bits.deBruijn32tab", "math/bits.deBruijn64tab", "internal/bytealg.MaxLen", "unicode/utf8.first", "unicode/utf8.acceptRanges", "strconv.ErrSyntax", "strconv.ErrRange"], plainKeys := false, apart := false, laid := [("math/bits.deBruijn32tab", laid_math_bits_deBruijn32tab), ("math/bits.deBruijn64tab", laid_math_bits_deBruijn64tab), ("internal/strconv.uint64pow10", laid_internal_strconv_uint64pow10), ("unicode/utf8.acceptRanges", laid_unicode_utf8_acceptRanges), ("strconv.ErrRange", laid_strconv_ErrRange), ("strconv.ErrSyntax", laid_strconv_ErrSyntax), ("bolthole/isa.rows", laid_bolthole_isa_rows), ("bolthole/isa.sizes", laid_bolthole_isa_sizes), ("unicode/utf8.first", laid_unicode_utf8_first)], narrowed := true }
def OrderFuncsUptoSaid : Prop := orderFuncsUptoRow.holds Tryz.pinned (OpenSpec.upto orderFuncsSpec)

/-- 'boltholekeep.OrderScale', WHERE WHAT IT READS IS OF BULK AT MOST 1048576: true; the input reads as it did. -/
def orderScaleUptoRow : OpenClaim := { program := "ytcdlgjhdbmmomaagreatdoor", sum := "046ba456cf85c6aa91c7a74e67cdea07436977ab6379f57933e596a3c389798f", func := "bolthole/boltholekeep.OrderScale", spec := "orderScale", inPlace := ["internal/bytealg.IndexByteString", "internal/bytealg.IndexString", "internal/bytealg.CountString"], unfollowed := true, recurses := true, named := ["bolthole/isa.rows", "bolthole/isa.sizes", "internal/strconv.uint64pow10", "math/bits.deBruijn32tab", "math/bits.deBruijn64tab", "internal/bytealg.MaxLen", "unicode/utf8.first", "unicode/utf8.acceptRanges", "strconv.ErrSyntax", "strconv.ErrRange"], plainKeys := false, apart := false, laid := [("math/bits.deBruijn32tab", laid_math_bits_deBruijn32tab), ("math/bits.deBruijn64tab", laid_math_bits_deBruijn64tab), ("internal/strconv.uint64pow10", laid_internal_strconv_uint64pow10), ("unicode/utf8.acceptRanges", laid_unicode_utf8_acceptRanges), ("strconv.ErrRange", laid_strconv_ErrRange), ("strconv.ErrSyntax", laid_strconv_ErrSyntax), ("bolthole/isa.rows", laid_bolthole_isa_rows), ("bolthole/isa.sizes", laid_bolthole_isa_sizes), ("unicode/utf8.first", laid_unicode_utf8_first)], narrowed := true }
def OrderScaleUptoSaid : Prop := orderScaleUptoRow.holds Tryz.pinned (OpenSpec.upto orderScaleSpec)

end Rows
end Go.Proofs.YtcdlgjhdbmmomaaGreatDoor
