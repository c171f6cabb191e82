/- What the listed variables of a tally's laws give. -/
import Derived.Test.YtcdlgjhdbmmomaaGreatDoorTlN
import Derived.Test.YtcdlgjhdbmmomaaGreatDoorLawS
import Derived.Stop.LaidErr
import Derived.Lay
namespace Go.Proofs.YtcdlgjhdbmmomaaGreatDoor
open Go.ChangeShapes Go.WideShapes Go.ChangeAt Go.RowKit Go.Joins Go.Lib
theorem starErr : "*" ++ "errors.errorString" = "*errors.errorString" := by decide
theorem rowErr (u : TypeId) (h : Tryz.prog.typeName? 3 u = some "*errors.errorString") : u = 251 :=
 typeName_ptr_named (nm := "errors.errorString") (by rw [starErr]; kernel_rfl) (by kernel_rfl) (by decide) u (by rw [starErr]; exact h)
end Go.Proofs.YtcdlgjhdbmmomaaGreatDoor
