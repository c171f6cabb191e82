/- Recover, walked: where it finds fault. -/
import Derived.Test.YtcdlgjhdbmmomaaGreatDoorFlowM
import Derived.Test.YtcdlgjhdbmmomaaGreatDoorRegX
import Derived.Deep.DeepCutAuto
import Derived.Deep.CutBlock
import Derived.Deep.LoopGhost
import Derived.Deep.QuietTactic
import Derived.BigQuiet
import Derived.IntWalk
namespace Go.Proofs.YtcdlgjhdbmmomaaGreatDoor
open Go.RowKit Go.Deep
structure RecW (w wr : World) (mc : List Value) : Prop where
 bm : Blk wr w.heap.size 30 mc
 br : Blk wr (w.heap.size + 1) 33 nil3
 bel : Below w.heap.size w wr
 sz : w.heap.size + 2 ≤ wr.heap.size
theorem RecW.below {w wr w' : World} {mc : List Value} (h : RecW w wr mc) (hb : Below (w.heap.size + 2) wr w') : RecW w w' mc :=
 ⟨(hb.block _ (by omega)).trans h.bm, (hb.block _ (by omega)).trans h.br, h.bel.trans (hb.mono (by omega)), Nat.le_trans h.sz hb.size⟩
theorem infoSps : (Tryz.prog.info? 115).map (fun i => (i.zero, i.size, i.bytes)) = some (some (.slice none 0 0), 1, 24) := by kernel_rfl
def BadPost (w : World) (E : Int) (e : Ending) (w' : World) : Prop := e = .returned (.tuple #[.agg #[.slice none 0 0, .slice none 0 0, .slice none 0 0], .int .i64 E]) ∧ Below w.heap.size w w'
theorem recE_C {m : Img} (h : checkE m ≠ 0) : recE m = checkE m := by
 unfold recE; rw [if_pos h]
theorem recE_T {m : Img} (h : checkE m = 0) (ht : 2000 < m.text.length) : recE m = 1 := by
 unfold recE; rw [if_neg (by omega), if_pos ht]
theorem recE_N {m : Img} (h : checkE m = 0) (ht : m.text.length ≤ 2000) (hr : recL m = none) : recE m = 9 := by
 unfold recE; rw [if_neg (by omega), if_neg (by omega), hr]
 rfl
theorem recE_S {m : Img} {d : FlowD} (h : checkE m = 0) (ht : m.text.length ≤ 2000) (hr : recL m = some d) : recE m = 0 := by
 unfold recE; rw [if_neg (by omega), if_neg (by omega), hr]
 rfl
end Go.Proofs.YtcdlgjhdbmmomaaGreatDoor
