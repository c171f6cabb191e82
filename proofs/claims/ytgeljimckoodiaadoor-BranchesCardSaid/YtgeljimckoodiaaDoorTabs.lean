/- What the laid tables of package isa give: the cells that the walks read. -/
import Derived.Test.YtgeljimckoodiaaDoorIsaC
import Derived.Test.YtgeljimckoodiaaDoorRows
import Derived.OpenShut
import Derived.Deep.Strs
import Derived.Lib.LaidTab
namespace Go.Proofs.YtgeljimckoodiaaDoor
open Go.RowKit
def rowsData {H : Type} : List (DataW H) := rowsT.map fun r => .agg [.lit (.int .u8 r.1), .lit (.int .u8 r.2.1), .lit (.int .i64 r.2.2)]
theorem laid_rows_eq {H : Type} : (Rows.laid_bolthole_isa_rows : DataW H) = .agg rowsData := rfl
theorem laid_sizes_eq {H : Type} : (Rows.laid_bolthole_isa_sizes : DataW H) = Lib.tabData .i64 sizesT := rfl
theorem rowsT_get (i : Nat) (h : i < 25) : rowsT[i]? = some (opT (i : Int), longT (i : Int), shapeT (i : Int)) := by
  have e : rowsT.length = 25 := rfl
  rw [List.getElem?_eq_getElem (by omega)]
  simp [opT, longT, shapeT, List.getD, List.getElem?_eq_getElem (show i < rowsT.length by omega)]
theorem rows_cells {w : World} {fuel : Nat} {cs : List Value} {p : List MemPlace} (h : DataW.trod (fun _ => ()) Tryd.prog w 0 (fun _ => true) false fuel 120 cs = some (Rows.laid_bolthole_isa_rows, p)) (j : Nat) (v : Value) (hv : rowsCells[j]? = some v) : cs[j]? = some v := by
  obtain ⟨xs, m, _, hx, hl, hlen, hf⟩ := DataW.trod_array Tryd.underlying120 h
  have hC : Tryd.prog.cellsOf 119 = 3 := by kernel_rfl
  have h0 : Tryd.prog.cellsOf 5 = 1 := by kernel_rfl
  have h1 : Tryd.prog.cellsOf 117 = 1 := by kernel_rfl
  rw [laid_rows_eq] at hx
  simp only [Prod.mk.injEq, DataW.agg.injEq] at hx
  have hj : j < 75 := by
    rcases Nat.lt_or_ge j 75 with h | h
    · exact h
    · rw [List.getElem?_eq_none (show rowsCells.length ≤ j from h)] at hv; cases hv
  obtain ⟨i, o, rfl, hi, ho⟩ : ∃ i o, j = i * 3 + o ∧ i < 25 ∧ o < 3 := ⟨j / 3, j % 3, by omega, by omega, by omega⟩
  have hfi := hf i hi
  rw [hC] at hfi
  have hxi : xs[i]? = some xs[i] := List.getElem?_eq_getElem (by omega)
  rw [hxi] at hfi
  obtain ⟨y0, y1, y2, n, hy, hl3, k0, k1, k2⟩ := Deep.trod_struct3 Tryd.underlying119 hfi
  have hd : (rowsData (H := Unit))[i]? = some xs[i].1 := by rw [hx.1, List.getElem?_map, hxi]; rfl
  unfold rowsData at hd
  rw [List.getElem?_map, rowsT_get i hi, hy] at hd
  simp only [Option.map_some, Option.some.injEq, DataW.agg.injEq, List.cons.injEq, and_true] at hd
  obtain ⟨d0, d1, d2⟩ := hd
  simp only [h0] at k0 k1
  simp only [h1] at k2
  obtain ⟨z0, c0, e0, _⟩ := DataW.trod_int Tryd.underlying5 k0
  obtain ⟨z1, c1, e1, _⟩ := DataW.trod_int Tryd.underlying5 k1
  obtain ⟨z2, c2, e2, _⟩ := DataW.trod_int Tryd.underlying117 k2
  rw [e0] at d0
  rw [e1] at d1
  rw [e2] at d2
  simp only [DataW.lit.injEq, Lit.int.injEq, true_and] at d0 d1 d2
  have g0 := congrArg (·[0]?) c0
  have g1 := congrArg (·[0]?) c1
  have g2 := congrArg (·[0]?) c2
  simp [List.getElem?_drop] at g0 g1 g2
  rcases (show o = 0 ∨ o = 1 ∨ o = 2 by omega) with rfl | rfl | rfl
  · have := rows_op i hi
    rw [Nat.add_zero] at hv ⊢
    rw [this] at hv
    cases hv
    rw [g0, ← d0]
  · have := rows_long i hi
    rw [this] at hv
    cases hv
    rw [g1, ← d1]
  · have := rows_shape i hi
    rw [this] at hv
    cases hv
    rw [g2, ← d2]
theorem tabs_of_vars {W : World} {rest : List (String × DataW Unit)} {ps : List MemPlace} (h : DataW.LaidVars Tryd.prog W (("bolthole/isa.rows", Rows.laid_bolthole_isa_rows) :: ("bolthole/isa.sizes", Rows.laid_bolthole_isa_sizes) :: rest) ps) : Tabs W := by
  obtain ⟨g, t, cs, fuel, p, q, hg, ht, hvar, hd, ⟨g2, t2, cs2, fuel2, p2, q2, hg2, ht2, hvar2, hd2, _, _⟩, _⟩ := h
  have G1 : Tryd.prog.globalNamed "bolthole/isa.rows" = some 0 := by kernel_rfl
  have G2 : Tryd.prog.globalNamed "bolthole/isa.sizes" = some 1 := by kernel_rfl
  have T1 : (Tryd.prog.globals[0]?).map (·.type) = some 120 := by kernel_rfl
  have T2 : (Tryd.prog.globals[1]?).map (·.type) = some 125 := by kernel_rfl
  obtain rfl := Option.some.inj (G1.symm.trans hg)
  obtain rfl := Option.some.inj (G2.symm.trans hg2)
  obtain rfl := Option.some.inj (T1.symm.trans ht)
  obtain rfl := Option.some.inj (T2.symm.trans ht2)
  rw [laid_sizes_eq] at hd2
  have e2 := Lib.cells_of_tab Tryd.underlying125 Tryd.underlying3 (by kernel_rfl) (by kernel_rfl) hd2
  refine ⟨fun j v hv => ?_, fun j v hv => ?_⟩
  · have := World.var?_cell G1 hvar j
    rw [this, ← Array.getElem?_toList]
    exact rows_cells hd j v hv
  · have := World.var?_cell G2 hvar2 j
    rw [this, ← Array.getElem?_toList, e2]
    exact hv
theorem tabs_of_laid {W : World} {rest : List (String × DataW Unit)} (h : laidMet Tryd.prog (("bolthole/isa.rows", Rows.laid_bolthole_isa_rows) :: ("bolthole/isa.sizes", Rows.laid_bolthole_isa_sizes) :: rest) W) : Tabs W := by
  obtain ⟨ps, h, _⟩ := h
  exact tabs_of_vars h
end Go.Proofs.YtgeljimckoodiaaDoor
