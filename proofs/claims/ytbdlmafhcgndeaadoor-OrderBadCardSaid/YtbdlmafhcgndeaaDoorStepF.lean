/- step: (*machine).memory, walked. -/
import Derived.Test.YtbdlmafhcgndeaaDoorStepE
import Derived.StillTailTactics
namespace Go.Proofs.YtbdlmafhcgndeaaDoor
open Go.RowKit
theorem regAt_bd {s : MSt} (h : ∀ v ∈ s.regs, N41 v.1) (r : Int) : N41 (regAt s r).1 := by
  unfold regAt
  by_cases hl : r.toNat < s.regs.length
  · have : s.regs.getD r.toNat (0, false) = s.regs[r.toNat] := by simp [List.getD, List.getElem?_eq_getElem hl]
    rw [this]
    exact h _ (List.getElem_mem hl)
  · have : s.regs.getD r.toNat (0, false) = (0, false) := by simp [List.getD, List.getElem?_eq_none (Nat.le_of_not_lt hl)]
    rw [this]
    exact ⟨by decide, by decide⟩
/-- load and store -/
def memS (s : MSt) (k d a b n : Int) : MSt × Int :=
  if (regAt s a).2 = true then (s, 4)
  else if 0 ≤ (regAt s a).1 + n ∧ (regAt s a).1 + n < s.data.length then
    (if k = 14 then ({ s with regs := s.regs.set d.toNat (s.data.getD ((regAt s a).1 + n).toNat (0, false)) }, 0) else ({ s with data := s.data.set ((regAt s a).1 + n).toNat (regAt s b) }, 0))
  else (s, 2)
end Go.Proofs.YtbdlmafhcgndeaaDoor
