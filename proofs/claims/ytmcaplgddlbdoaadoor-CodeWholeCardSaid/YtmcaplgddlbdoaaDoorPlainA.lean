/- Plain law: the instructions of raw numbers may be; their sizes. -/
import Derived.Test.YtmcaplgddlbdoaaDoorKeepB
namespace Go.Proofs.YtmcaplgddlbdoaaDoor
open Go.RowKit
/-- registers that may be -/
def Ins.regs (i : Ins) : Prop := (0 ≤ i.d ∧ i.d < 8) ∧ (0 ≤ i.a ∧ i.a < 8) ∧ (0 ≤ i.b ∧ i.b < 8)
theorem isReg_iff (n : Int) : isReg n = true ↔ 0 ≤ n ∧ n < 8 := by simp [isReg]
theorem inside_iff (n lo hi : Int) : inside n lo hi = true ↔ lo ≤ n ∧ n ≤ hi := by simp [inside]
theorem chk_zero {k d a b n : Int} {l : Bool} : chk k d a b n l = 0 ↔ (1 ≤ k ∧ k ≤ 24) ∧ formBad k d a b n l = false ∧ ((0 ≤ d ∧ d < 8) ∧ (0 ≤ a ∧ a < 8) ∧ (0 ≤ b ∧ b < 8)) ∧ nOk k n l = true := by
  unfold chk
  by_cases h1 : k < 1 ∨ 24 < k
  · rw [if_pos h1]; constructor
    · intro h; cases h
    · intro h; omega
  · rw [if_neg h1]
    by_cases h2 : formBad k d a b n l = true
    · rw [if_pos h2]; simp [h2]
    · rw [if_neg h2]
      rw [Bool.not_eq_true] at h2
      by_cases h3 : (!isReg d || !isReg a || !isReg b) = true
      · rw [if_pos h3]
        simp only [Bool.or_eq_true, Bool.not_eq_true', ← Bool.not_eq_true, isReg_iff] at h3
        constructor
        · intro h; cases h
        · intro h; omega
      · rw [if_neg h3]
        simp only [Bool.or_eq_true, Bool.not_eq_true', ← Bool.not_eq_true, isReg_iff, not_or, Classical.not_not] at h3
        by_cases h4 : nOk k n l = true
        · rw [if_pos h4]; exact ⟨fun _ => ⟨by omega, h2, ⟨h3.1.1, h3.1.2, h3.2⟩, h4⟩, fun _ => rfl⟩
        · rw [if_neg h4]; simp [h4]
theorem ins_chk_zero {i : Ins} : i.chk = 0 ↔ (1 ≤ i.k ∧ i.k ≤ 24) ∧ formBad i.k i.d i.a i.b i.n i.l = false ∧ i.regs ∧ nOk i.k i.n i.l = true := chk_zero
/-- what the tables say of a kind -/
def kindRow (k : Int) (s lo : Int) : Prop := shapeT k = s ∧ longT k = lo
theorem tab_three (k : Int) (h : 7 ≤ k ∧ k ≤ 13) : shapeT k = 4 ∧ longT k = 0 := by
  obtain ⟨n, rfl⟩ := Int.eq_ofNat_of_zero_le (show 0 ≤ k by omega)
  have : ∀ n : Fin 25, 7 ≤ n.val ∧ n.val ≤ 13 → shapeT (n.val : Int) = 4 ∧ longT (n.val : Int) = 0 := by decide +kernel
  exact this ⟨n, by omega⟩ (by simp; omega)
theorem tab_bare (k : Int) (h : 1 ≤ k ∧ k ≤ 4) : shapeT k = 1 ∧ longT k = 0 := by
  obtain ⟨n, rfl⟩ := Int.eq_ofNat_of_zero_le (show 0 ≤ k by omega)
  have : ∀ n : Fin 25, 1 ≤ n.val ∧ n.val ≤ 4 → shapeT (n.val : Int) = 1 ∧ longT (n.val : Int) = 0 := by decide +kernel
  exact this ⟨n, by omega⟩ (by simp; omega)
theorem tab_branch (k : Int) (h : 18 ≤ k ∧ k ≤ 21) : shapeT k = 8 ∧ longT k ≠ 0 := by
  obtain ⟨n, rfl⟩ := Int.eq_ofNat_of_zero_le (show 0 ≤ k by omega)
  have : ∀ n : Fin 25, 18 ≤ n.val ∧ n.val ≤ 21 → shapeT (n.val : Int) = 8 ∧ longT (n.val : Int) ≠ 0 := by decide +kernel
  exact this ⟨n, by omega⟩ (by simp; omega)
theorem tab_5 : shapeT 5 = 2 ∧ longT 5 = 0 := by decide
theorem tab_6 : shapeT 6 = 3 ∧ longT 6 = 0 := by decide
theorem tab_14 : shapeT 14 = 3 ∧ longT 14 = 0 := by decide
theorem tab_15 : shapeT 15 = 5 ∧ longT 15 = 0 := by decide
theorem tab_16 : shapeT 16 = 6 ∧ longT 16 = 0 := by decide
theorem tab_17 : shapeT 17 = 7 ∧ longT 17 = 0 := by decide
theorem tab_22 : shapeT 22 = 9 ∧ longT 22 ≠ 0 := by decide
theorem tab_23 : shapeT 23 = 10 ∧ longT 23 = 0 := by decide
theorem tab_24 : shapeT 24 = 11 ∧ longT 24 = 0 := by decide
theorem tab_4 : shapeT 4 = 1 ∧ longT 4 = 0 := by decide
theorem plainI_ok (r : RawI) : (plainI r).chk = 0 ∧ (plainI r).l = false := by
  have ha := pickL_bd r.a 7 (by decide)
  have hb := pickL_bd r.b 7 (by decide)
  have hc := pickL_bd r.c 7 (by decide)
  have hc6 := pickL_bd r.c 6 (by decide)
  have hc12 := pickL_bd r.c 12 (by decide)
  have hc40 := pickL_bd r.c 40 (by decide)
  have t7 := tab_three (7 + pickL r.c 7) (by omega)
  rw [ins_chk_zero]
  simp only [plainI]
  generalize pickL r.a 7 = A at *
  generalize pickL r.b 7 = B at *
  generalize pickL r.c 7 = C at *
  generalize pickL r.c 6 = C6 at *
  generalize pickL r.c 12 = C12 at *
  generalize pickL r.c 40 = C40 at *
  split
  · simp [Ins.regs, formBad, nOk, tab_5, hasD, hasA, hasB, hasN, inside]; omega
  split
  · simp [Ins.regs, formBad, nOk, tab_6, hasD, hasA, hasB, hasN, inside]; omega
  split
  · simp [Ins.regs, formBad, nOk, t7, hasD, hasA, hasB, hasN, inside]; omega
  split
  · simp [Ins.regs, formBad, nOk, tab_14, hasD, hasA, hasB, hasN, inside]; omega
  split
  · simp [Ins.regs, formBad, nOk, tab_15, hasD, hasA, hasB, hasN, inside]; omega
  split
  · simp [Ins.regs, formBad, nOk, tab_16, hasD, hasA, hasB, hasN, inside]; omega
  split
  · simp [Ins.regs, formBad, nOk, tab_4, hasD, hasA, hasB, hasN, inside]
  · simp [Ins.regs, formBad, nOk, tab_17, hasD, hasA, hasB, hasN, inside]; omega
theorem anyI_ok (r : RawI) (l : Bool) : (anyI r l).chk = 0 := by
  have hb4 := pickL_bd r.b 4 (by decide)
  have hb8 := pickL_bd r.b 8 (by decide)
  have ha8 := pickL_bd r.a 8 (by decide)
  have hc8 := pickL_bd r.c 8 (by decide)
  have hc20 := pickL_bd r.c 20 (by decide)
  have hc250 := pickL_bd r.c 250 (by decide)
  have t1 := tab_bare (1 + pickL r.b 4) (by omega)
  have t18 := tab_branch (18 + pickL r.b 4) (by omega)
  unfold anyI
  split
  · exact (plainI_ok r).1
  rw [ins_chk_zero]
  generalize pickL r.b 4 = B4 at *
  generalize pickL r.b 8 = B8 at *
  generalize pickL r.a 8 = A8 at *
  generalize pickL r.c 8 = C8 at *
  generalize pickL r.c 20 = C20 at *
  generalize pickL r.c 250 = C250 at *
  split
  · cases l <;> simp [Ins.regs, formBad, nOk, tab_22, hasD, hasA, hasB, hasN, inside] <;> omega
  split
  · simp [Ins.regs, formBad, nOk, tab_23, hasD, hasA, hasB, hasN, inside]; omega
  split
  · simp [Ins.regs, formBad, nOk, tab_24, hasD, hasA, hasB, hasN, inside]; omega
  split
  · simp [Ins.regs, formBad, nOk, t1, hasD, hasA, hasB, hasN, inside]; omega
  · cases l <;> simp [Ins.regs, formBad, nOk, t18, hasD, hasA, hasB, hasN, inside] <;> omega
/-- long and short forms of one raw thing -/
theorem any_kinds (r : RawI) : (anyI r false).k = (anyI r true).k ∧ sizeK (anyI r true).k (anyI r true).l = sizeK (anyI r false).k (anyI r false).l + (if (anyI r true).l then 1 else 0) := by
  have hp := (plainI_ok r).2
  have hs : ∀ k l, sizeK k l = sizeK k false + (if l then 1 else 0) := fun k l => by unfold sizeK; simp
  have key : (anyI r false).k = (anyI r true).k ∧ (anyI r false).l = false := by
    unfold anyI
    by_cases h : 0 < pickL r.k 3
    · rw [if_pos h, if_pos h]; exact ⟨rfl, hp⟩
    · rw [if_neg h, if_neg h]
      by_cases h0 : pickL r.a 7 = 0
      · rw [if_pos h0, if_pos h0]; exact ⟨rfl, rfl⟩
      · rw [if_neg h0, if_neg h0]
        by_cases h1 : pickL r.a 7 = 1
        · rw [if_pos h1, if_pos h1]; exact ⟨rfl, rfl⟩
        · rw [if_neg h1, if_neg h1]
          by_cases h2 : pickL r.a 7 = 2
          · rw [if_pos h2, if_pos h2]; exact ⟨rfl, rfl⟩
          · rw [if_neg h2, if_neg h2]
            by_cases h3 : pickL r.a 7 = 3
            · rw [if_pos h3, if_pos h3]; exact ⟨rfl, rfl⟩
            · rw [if_neg h3, if_neg h3]; exact ⟨rfl, rfl⟩
  refine ⟨key.1, ?_⟩
  rw [hs _ (anyI r true).l, ← key.1, key.2]
theorem sizeK_bd {i : Ins} (h : i.chk = 0) : 1 ≤ sizeK i.k i.l ∧ sizeK i.k i.l ≤ 4 := by
  obtain ⟨hk, hf, -, -⟩ := ins_chk_zero.1 h
  have hl : i.l = true → longT i.k ≠ 0 := by
    intro h1 h2
    simp [formBad, h1, h2] at hf
  obtain ⟨n, hn⟩ := Int.eq_ofNat_of_zero_le (show 0 ≤ i.k by omega)
  have h0 : ∀ n : Fin 25, 1 ≤ n.val → (1 ≤ sizeT (shapeT (n.val : Int)) ∧ sizeT (shapeT (n.val : Int)) ≤ 4 ∧ (longT (n.val : Int) ≠ 0 → sizeT (shapeT (n.val : Int)) ≤ 3)) := by decide +kernel
  have := h0 ⟨n, by omega⟩ (by simp; omega)
  simp only at this
  rw [← hn] at this
  unfold sizeK
  cases hh : i.l
  · simp; omega
  · have := hl hh
    simp; omega
end Go.Proofs.YtmcaplgddlbdoaaDoor
