/- boltholekeep.IsaReads, walked. -/
import Derived.Test.YtmcaplgddlbdoaaDoorIsaJ
import Derived.Test.YtmcaplgddlbdoaaDoorPlainC
namespace Go.Proofs.YtmcaplgddlbdoaaDoor
open Go.RowKit
theorem dec_halt : decB [0] 0 = (⟨1, 0, 0, 0, 0, false⟩, 1, 0) := by kernel_rfl
set_option maxHeartbeats 1000000 in
set_option maxRecDepth 100000 in
theorem isaReads_any (w : World) (hT : Tabs w) : Calls Tryd.prog 12 #[] w fun e w' => e = .returned (.bool true) ∧ Below w.heap.size w w' := by
  go_enter Tryd.func12, Tryd.ntmps12
  go_wp2_with fail
  refine (decode_any [0] _ _ _ _ _ (hT.alloc _) rfl ⟨by simp, fun _ => ⟨w.heap.size, 0, rfl, by simp, fun j x hx => ?hc⟩⟩ (by decide) (by decide)).mono ?_
  case hc =>
    match j, hx with
    | 0, hx => cases hx; go_simp
    | j + 1, hx => simp at hx
  rintro e w1 ⟨rfl, hb1⟩
  have hB1 : Below w.heap.size w w1 := ((Below.refl _ _).alloc (Nat.le_refl _) _).trans (hb1.mono (by simp))
  have hfin : ∀ X, Below w.heap.size w (w1.alloc X) := fun X => hB1.alloc hB1.size X
  rw [dec_halt]
  unfold decV Ins.cells
  clear hb1 hT
  go_wp2
  go_ret
  exact ⟨rfl, hfin _⟩
end Go.Proofs.YtmcaplgddlbdoaaDoor
