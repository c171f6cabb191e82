/- isa.Decode where it refuses. -/
import Derived.Test.YtgeljimckoodiaaDoorIsaG
import Derived.Test.YtgeljimckoodiaaDoorRd
namespace Go.Proofs.YtgeljimckoodiaaDoor
open Go.RowKit
theorem kindOf_ok (op : Int) (h0 : 0 ≤ op) (h1 : op < 256) : (kindOf op).1 = 0 ∨ (1 ≤ (kindOf op).1 ∧ (kindOf op).1 ≤ 24 ∧ ((kindOf op).2 = true → shapeT (kindOf op).1 = 8 ∨ shapeT (kindOf op).1 = 9)) := by
  have h : ∀ op : Fin 256, (kindOf (op.val : Int)).1 = 0 ∨ (1 ≤ (kindOf (op.val : Int)).1 ∧ (kindOf (op.val : Int)).1 ≤ 24 ∧ ((kindOf (op.val : Int)).2 = true → shapeT (kindOf (op.val : Int)).1 = 8 ∨ shapeT (kindOf (op.val : Int)).1 = 9)) := by decide +kernel
  have := h ⟨op.toNat, by omega⟩
  simpa [Int.toNat_of_nonneg h0] using this
def decV (r : Ins × Int × Int) : Value := .tuple #[.agg r.1.cells, .int .i64 r.2.1, .int .i64 r.2.2]
set_option maxHeartbeats 1000000 in
set_option maxRecDepth 100000 in
theorem decode_out (A : Option Addr) (len cap : Nat) (at_ : Int) (w : World) (h : at_ < 0 ∨ (len : Int) ≤ at_) (hL : len ≤ 140737488355328) : Calls Tryd.prog 33 #[.slice A len cap, .int .i64 at_] w fun e w' =>
    e = .returned (.tuple #[.agg #[.int .i64 0, .int .i64 0, .int .i64 0, .int .i64 0, .int .i64 0, .bool false], .int .i64 0, .int .i64 2]) ∧ Below w.heap.size w w' := by
  have hfin : ∀ X, Below w.heap.size w (w.alloc X) := fun X => (Below.refl _ _).alloc (Nat.le_refl _) _
  rcases h with h | h
  · go_enter Tryd.func33, Tryd.ntmps33
    go_wp2
    refine bodyPost_ret (v := .tuple #[.agg #[.int .i64 0, .int .i64 0, .int .i64 0, .int .i64 0, .int .i64 0, .bool false], .int .i64 0, .int .i64 2]) (by simp [results, Tryd.results33, go_sem]) rfl ⟨rfl, hfin _⟩
  · have h0 : ¬ at_ < 0 := by omega
    go_enter Tryd.func33, Tryd.ntmps33
    go_wp2
    refine bodyPost_ret (v := .tuple #[.agg #[.int .i64 0, .int .i64 0, .int .i64 0, .int .i64 0, .int .i64 0, .bool false], .int .i64 0, .int .i64 2]) (by simp [results, Tryd.results33, go_sem]) rfl ⟨rfl, hfin _⟩
set_option maxHeartbeats 1000000 in
set_option maxRecDepth 100000 in
theorem decode_kind (p tb tof cap len : Nat) (op : Int) (w : World) (hT : Tabs w) (_hL : len ≤ 140737488355328) (hb : tb < w.heap.size) (h0 : w.cell? ⟨tb, tof + p, none⟩ = some (.int .u8 op))
    (hp : p < len) (hk : (kindOf op).1 = 0) :
    Calls Tryd.prog 33 #[.slice (some ⟨tb, tof, none⟩) len cap, .int .i64 p] w fun e w' =>
    e = .returned (.tuple #[.agg #[.int .i64 0, .int .i64 0, .int .i64 0, .int .i64 0, .int .i64 0, .bool false], .int .i64 0, .int .i64 3]) ∧ Below w.heap.size w w' := by
  have hk1 := Lib.hid hk
  clear hk
  go_enter Tryd.func33, Tryd.ntmps33
  go_wp2_with fail
  refine (kind_any _ _ (hT.alloc _)).mono ?_
  rintro e w1 ⟨rfl, hb1⟩
  rw [hk1.out]
  generalize (kindOf op).2 = l
  have hB1 : Below w.heap.size w w1 := ((Below.refl _ _).alloc (Nat.le_refl _) _).trans (hb1.mono (by simp))
  have hlt : w.heap.size < w1.heap.size := by have := hb1.size; simp at this; omega
  have z0 : ∀ j v, Ins.zero.cells[j]? = some v → w1.cell? ⟨w.heap.size, j, none⟩ = some v := fun j v hv => (hb1.cell (p := ⟨w.heap.size, j, none⟩) (by simp)).trans ((cell_of_row _ _ _ _ _ _ (heap_alloc_new w _)).trans hv)
  have zf : ∀ j, w1.frozen? ⟨w.heap.size, j, none⟩ = false := fun j => (hb1.frozen (p := ⟨w.heap.size, j, none⟩) (by simp)).trans (frozen_of_row _ _ _ _ _ (heap_alloc_new w _))
  have c0 := z0 0 _ rfl
  have c1 := z0 1 _ rfl
  have c2 := z0 2 _ rfl
  have c3 := z0 3 _ rfl
  have c4 := z0 4 _ rfl
  have c5 := z0 5 _ rfl
  clear z0 hb1 hT h0
  have hfin : ∀ v0 v1 v2 v3 v4 v5, Below w.heap.size w ((((((w1.setCell ⟨w.heap.size, 0, none⟩ v0).setCell ⟨w.heap.size, 1, none⟩ v1).setCell ⟨w.heap.size, 2, none⟩ v2).setCell ⟨w.heap.size, 3, none⟩ v3).setCell ⟨w.heap.size, 4, none⟩ v4).setCell ⟨w.heap.size, 5, none⟩ v5) := fun _ _ _ _ _ _ => (((((hB1.setCell (Nat.le_refl _) _).setCell (Nat.le_refl _) _).setCell (Nat.le_refl _) _).setCell (Nat.le_refl _) _).setCell (Nat.le_refl _) _).setCell (Nat.le_refl _) _
  go_wp2
  refine bodyPost_ret (v := .tuple #[.agg #[.int .i64 0, .int .i64 0, .int .i64 0, .int .i64 0, .int .i64 0, .bool false], .int .i64 0, .int .i64 3]) (by simp [results, Tryd.results33, go_sem, *]) rfl ⟨rfl, hfin _ _ _ _ _ _⟩
set_option maxHeartbeats 4000000 in
set_option maxRecDepth 100000 in
theorem decode_short (k : Int) (l : Bool) (p tb tof cap len : Nat) (op : Int) (w : World) (hT : Tabs w) (hL : len ≤ 140737488355328) (hb : tb < w.heap.size) (h0 : w.cell? ⟨tb, tof + p, none⟩ = some (.int .u8 op))
    (hp : p < len) (hk : kindOf op = (k, l)) (hk0 : 1 ≤ k ∧ k ≤ 24) (hn : len < p + sizeK k l) :
    Calls Tryd.prog 33 #[.slice (some ⟨tb, tof, none⟩) len cap, .int .i64 p] w fun e w' =>
    e = .returned (.tuple #[.agg #[.int .i64 0, .int .i64 0, .int .i64 0, .int .i64 0, .int .i64 0, .bool false], .int .i64 0, .int .i64 5]) ∧ Below w.heap.size w w' := by
  have hsb := shapeT_bd k hk0.1 hk0.2
  have hzb := sizeT_bd _ hsb.1 hsb.2
  have hk1 := Lib.hid hk
  clear hk
  go_enter Tryd.func33, Tryd.ntmps33
  go_wp2_with fail
  refine (kind_any _ _ (hT.alloc _)).mono ?_
  rintro e w1 ⟨rfl, hb1⟩
  rw [hk1.out]
  have hT1 := (hT.alloc _).below hb1
  have hB1 : Below w.heap.size w w1 := ((Below.refl _ _).alloc (Nat.le_refl _) _).trans (hb1.mono (by simp))
  have hlt : w.heap.size < w1.heap.size := by have := hb1.size; simp at this; omega
  have r0 := hT1.op k (by omega) (by omega)
  have r1 := hT1.long k (by omega) (by omega)
  have r2 := hT1.shape k (by omega) (by omega)
  have r3 := hT1.size (shapeT k) (by omega) (by omega)
  have hgs := hT1.sizes_lt
  have z0 : ∀ j v, Ins.zero.cells[j]? = some v → w1.cell? ⟨w.heap.size, j, none⟩ = some v := fun j v hv => (hb1.cell (p := ⟨w.heap.size, j, none⟩) (by simp)).trans ((cell_of_row _ _ _ _ _ _ (heap_alloc_new w _)).trans hv)
  have zf : ∀ j, w1.frozen? ⟨w.heap.size, j, none⟩ = false := fun j => (hb1.frozen (p := ⟨w.heap.size, j, none⟩) (by simp)).trans (frozen_of_row _ _ _ _ _ (heap_alloc_new w _))
  have c0 := z0 0 _ rfl
  have c1 := z0 1 _ rfl
  have c2 := z0 2 _ rfl
  have c3 := z0 3 _ rfl
  have c4 := z0 4 _ rfl
  have c5 := z0 5 _ rfl
  clear z0 hb1 hT hT1 h0
  have hne1 : ((k == 0) = false) := by simp; omega
  have hfin : ∀ X v0 v1 v2 v3 v4 v5, Below w.heap.size w (((((((w1.setCell ⟨w.heap.size, 0, none⟩ v0).setCell ⟨w.heap.size, 1, none⟩ v1).setCell ⟨w.heap.size, 2, none⟩ v2).setCell ⟨w.heap.size, 3, none⟩ v3).setCell ⟨w.heap.size, 4, none⟩ v4).setCell ⟨w.heap.size, 5, none⟩ v5).alloc X) := fun _ _ _ _ _ _ _ => ((((((hB1.setCell (Nat.le_refl _) _).setCell (Nat.le_refl _) _).setCell (Nat.le_refl _) _).setCell (Nat.le_refl _) _).setCell (Nat.le_refl _) _).setCell (Nat.le_refl _) _).alloc (by simp [World.setCell]; omega) _
  unfold sizeK at hn
  cases l
  · have hn2 : (len : Int) < p + sizeT (shapeT k) := by simpa using hn
    clear hn
    go_wp2
    refine bodyPost_ret (v := .tuple #[.agg #[.int .i64 0, .int .i64 0, .int .i64 0, .int .i64 0, .int .i64 0, .bool false], .int .i64 0, .int .i64 5]) (by simp [results, Tryd.results33, go_sem, *]) rfl ⟨rfl, hfin _ _ _ _ _ _ _⟩
  · have hn2 : (len : Int) < p + (sizeT (shapeT k) + 1) := by simpa using hn
    clear hn
    go_wp2
    refine bodyPost_ret (v := .tuple #[.agg #[.int .i64 0, .int .i64 0, .int .i64 0, .int .i64 0, .int .i64 0, .bool false], .int .i64 0, .int .i64 5]) (by simp [results, Tryd.results33, go_sem, *]) rfl ⟨rfl, hfin _ _ _ _ _ _ _⟩
end Go.Proofs.YtgeljimckoodiaaDoor
