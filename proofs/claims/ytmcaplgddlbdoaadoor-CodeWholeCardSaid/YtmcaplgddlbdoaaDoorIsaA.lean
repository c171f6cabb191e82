/- The small functions of package isa, walked. -/
import Derived.Test.YtmcaplgddlbdoaaDoorProg
import Derived.WalkKit
import Derived.BigQuiet
import Derived.Deep.QuietTactic
import Derived.Outline
namespace Go.Proofs.YtmcaplgddlbdoaaDoor
open Go.RowKit
/-- what a call that only makes new memory leaves as it was, as rules -/
theorem bcell {W w1 : World} (hb : Below W.heap.size W w1) : (∀ b o, b < W.heap.size → w1.cell? ⟨b, o, none⟩ = W.cell? ⟨b, o, none⟩) ∧ (∀ b o, b < W.heap.size → w1.frozen? ⟨b, o, none⟩ = W.frozen? ⟨b, o, none⟩) :=
  ⟨fun b o h => hb.cell (p := ⟨b, o, none⟩) h, fun b o h => hb.frozen (p := ⟨b, o, none⟩) h⟩
def isReg (n : Int) : Bool := decide (0 ≤ n) && decide (n < 8)
def inside (n lo hi : Int) : Bool := decide (lo ≤ n) && decide (n ≤ hi)

theorem reg_any (n : Int) (w : World) : Calls Tryd.prog 24 #[.int .i64 n] w fun e w' => e = .returned (.bool (isReg n)) ∧ w = w' := by
  unfold isReg
  by_cases h : 0 ≤ n
  · by_cases h2 : n < 8
    · have e1 : (decide (0 ≤ n) && decide (n < 8)) = true := by simp [h, h2]
      rw [e1]; clear e1
      go_enter Tryd.func24, Tryd.ntmps24
      go_wp2
      go_ret
      exact ⟨rfl, rfl⟩
    · have e1 : (decide (0 ≤ n) && decide (n < 8)) = false := by simp [h2]
      rw [e1]; clear e1
      go_enter Tryd.func24, Tryd.ntmps24
      go_wp2
      go_ret
      exact ⟨rfl, rfl⟩
  · have e1 : (decide (0 ≤ n) && decide (n < 8)) = false := by simp [h]
    rw [e1]; clear e1
    go_enter Tryd.func24, Tryd.ntmps24
    go_wp2
    go_ret
    exact ⟨rfl, rfl⟩
end Go.Proofs.YtmcaplgddlbdoaaDoor
