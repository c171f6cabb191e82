/- What the listed variables of a tally's laws give. -/
import Derived.Test.YtcafhoobeggmeaaDoorTlN
import Derived.Test.YtcafhoobeggmeaaDoorLawS
import Derived.Stop.LaidErr
import Derived.Lay
namespace Go.Proofs.YtcafhoobeggmeaaDoor
open Go.ChangeShapes Go.WideShapes Go.ChangeAt Go.RowKit Go.Joins Go.Lib
theorem starErr : "*" ++ "errors.errorString" = "*errors.errorString" := by decide
theorem rowErr (u : TypeId) (h : Tryd.prog.typeName? 3 u = some "*errors.errorString") : u = 221 :=
  typeName_ptr_named (nm := "errors.errorString") (by rw [starErr]; kernel_rfl) (by kernel_rfl) (by decide) u (by rw [starErr]; exact h)
theorem tlyW_of {W : World} {x y z u : String × DataW Unit} (h : laidMet Tryd.prog [x, y, ("internal/strconv.uint64pow10", Rows.laid_internal_strconv_uint64pow10), z, ("strconv.ErrRange", Rows.laid_strconv_ErrRange), ("strconv.ErrSyntax", Rows.laid_strconv_ErrSyntax), u] W) (hs : W.ShapedOpen Tryd.prog) : TlyW W := by
  have h3 := h.tail.tail
  have h5 := h3.tail.tail
  have h6 := h5.tail
  obtain ⟨a5, s5, hv5, -, -, -⟩ := laid_sentinel h5 (g := 5) (ti := 110) (tp := 221) (te := 223) (by kernel_rfl) (by kernel_rfl) Tryd.underlying110 rowErr Tryd.underlying221 Tryd.underlying223 rfl rfl Tryd.underlying9 (by kernel_rfl) (by kernel_rfl)
  obtain ⟨a6, s6, hv6, -, -, -⟩ := laid_sentinel h6 (g := 4) (ti := 110) (tp := 221) (te := 223) (by kernel_rfl) (by kernel_rfl) Tryd.underlying110 rowErr Tryd.underlying221 Tryd.underlying223 rfl rfl Tryd.underlying9 (by kernel_rfl) (by kernel_rfl)
  refine ⟨Lib.tabIs_of_head (g := 2) (t := 173) (e := 148) (n := 20) (by kernel_rfl) (by kernel_rfl) Tryd.underlying173 Tryd.underlying148 (by kernel_rfl) (by kernel_rfl) (rest := _) h3, Sh.laysM145.s1_3 W hs, ⟨_, World.var?_cell (g := 4) (by kernel_rfl) hv6 0, .inr ⟨_, _, rfl⟩⟩, ⟨_, World.var?_cell (g := 5) (by kernel_rfl) hv5 0, .inr ⟨_, _, rfl⟩⟩⟩
end Go.Proofs.YtcafhoobeggmeaaDoor
