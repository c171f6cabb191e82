/- What the listed variables of TallyBad give. -/
import Derived.Test.YtcdlgjhdbmmomaaGreatDoorTlO
import Derived.Test.YtcdlgjhdbmmomaaGreatDoorTlQ
import Derived.Test.YtcdlgjhdbmmomaaGreatDoorTlW
import Derived.Test.YtcdlgjhdbmmomaaGreatDoorFlwR
namespace Go.Proofs.YtcdlgjhdbmmomaaGreatDoor
open Go.ChangeShapes Go.WideShapes Go.ChangeAt Go.RowKit Go.Joins Go.Lib
theorem tlyW_any {W : World} {x y z : String × DataW Unit} {rest : List (String × DataW Unit)} (h : laidMet Tryz.prog (x :: y :: ("internal/strconv.uint64pow10", Rows.laid_internal_strconv_uint64pow10) :: z :: ("strconv.ErrRange", Rows.laid_strconv_ErrRange) :: ("strconv.ErrSyntax", Rows.laid_strconv_ErrSyntax) :: rest) W) (hs : W.ShapedOpen Tryz.prog) : TlyW W := by
 have h3 := h.tail.tail; have h5 := h3.tail.tail; have h6 := h5.tail; obtain ⟨a5, s5, hv5, -, -, -⟩ := laid_sentinel h5 (g := 4) (ti := 124) (tp := 251) (te := 253) (by kernel_rfl) (by kernel_rfl) Tryz.underlying124 rowErr Tryz.underlying251 Tryz.underlying253 rfl rfl Tryz.underlying9 (by kernel_rfl) (by kernel_rfl)
 obtain ⟨a6, s6, hv6, -, -, -⟩ := laid_sentinel h6 (g := 3) (ti := 124) (tp := 251) (te := 253) (by kernel_rfl) (by kernel_rfl) Tryz.underlying124 rowErr Tryz.underlying251 Tryz.underlying253 rfl rfl Tryz.underlying9 (by kernel_rfl) (by kernel_rfl)
 refine ⟨Lib.tabIs_of_head (g := 5) (t := 238) (e := 173) (n := 20) (by kernel_rfl) (by kernel_rfl) Tryz.underlying238 Tryz.underlying173 (by kernel_rfl) (by kernel_rfl) (rest := _) h3, Sh.laysM145.s1_3 W hs, ⟨_, World.var?_cell (g := 3) (by kernel_rfl) hv6 0, .inr ⟨_, _, rfl⟩⟩, ⟨_, World.var?_cell (g := 4) (by kernel_rfl) hv5 0, .inr ⟨_, _, rfl⟩⟩⟩
theorem tabs_any {W : World} {x y z u v t : String × DataW Unit} {rest : List (String × DataW Unit)} (h : laidMet Tryz.prog (x :: y :: z :: u :: v :: t :: ("bolthole/isa.rows", Rows.laid_bolthole_isa_rows) :: ("bolthole/isa.sizes", Rows.laid_bolthole_isa_sizes) :: rest) W) : Tabs W := by
 obtain ⟨ps, h, -⟩ := h.tail.tail.tail.tail.tail.tail; exact tabs_of_vars h
end Go.Proofs.YtcdlgjhdbmmomaaGreatDoor
