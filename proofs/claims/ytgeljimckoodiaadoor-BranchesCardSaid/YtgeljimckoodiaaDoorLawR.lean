/- A raw thing among a law's arguments, opened; the witness's world. -/
import Derived.Test.YtgeljimckoodiaaDoorLaw
import Derived.Test.YtgeljimckoodiaaDoorKeepA
import Derived.Test.YtgeljimckoodiaaDoorTabs
import Derived.Test.YtgeljimckoodiaaDoorCards
import Derived.Test.YtgeljimckoodiaaDoorTie
namespace Go.Proofs.YtgeljimckoodiaaDoor
open Go.ChangeShapes Go.WideShapes Go.ChangeAt Go.RowKit Go.Joins
theorem i64_of_wf {n : Int} (h : (Lit.int .i64 n).wf = true) : I64 n := by
  simp [Lit.wf, IntKind.min, IntKind.max, IntKind.signed, IntKind.bits] at h
  exact h
theorem raw_cells : Tryd.prog.cellsOf 63 = 4 := by kernel_rfl
set_option maxRecDepth 100000 in
theorem open_raw {H : Type} {enc : TypeId × Value → H} {w : World} {r : Reach} {b0 base : Nat} {spare : Nat → Bool} {held : Bool} {v : Value} {d : DataW H} {p : List MemPlace} (hv : Value.okWide Tryd.prog w r b0 63 v) (h : DataW.Trod enc Tryd.prog w base spare held 63 v d p) :
    ∃ x : RawI, v = .agg #[.int .i64 x.k, .int .i64 x.a, .int .i64 x.b, .int .i64 x.c] ∧ x.ok := by
  obtain ⟨v0, v1, v2, v3, y0, y1, y2, y3, n, rfl, -, -, h0, h1, h2, h3⟩ := open_agg4 Tryd.underlying63 (by kernel_rfl) raw_cells hv h
  obtain ⟨z0, e0, -, w0⟩ := DataW.trod_int Tryd.underlying3 h0
  obtain ⟨z1, e1, -, w1⟩ := DataW.trod_int Tryd.underlying3 h1
  obtain ⟨z2, e2, -, w2⟩ := DataW.trod_int Tryd.underlying3 h2
  obtain ⟨z3, e3, -, w3⟩ := DataW.trod_int Tryd.underlying3 h3
  simp only [List.cons.injEq, and_true] at e0 e1 e2 e3
  subst e0 e1 e2 e3
  exact ⟨⟨z0, z1, z2, z3⟩, rfl, i64_of_wf w0, i64_of_wf w1, i64_of_wf w2, i64_of_wf w3⟩
def refill (cs : Array Value) : Obj → Obj
  | .cells _ t frozen => .cells cs t frozen
  | o => o
/-- the settled world, the listed tables holding what their initialisers lay -/
noncomputable def laidWorld (os : Os) : World :=
  { World.holding Tryd.prog os ⟨#[], #[], []⟩ with heap := ((World.holding Tryd.prog os ⟨#[], #[], []⟩).heap.modify 0 (refill rowsCells.toArray)).modify 1 (refill sizesCells.toArray) }
end Go.Proofs.YtgeljimckoodiaaDoor
