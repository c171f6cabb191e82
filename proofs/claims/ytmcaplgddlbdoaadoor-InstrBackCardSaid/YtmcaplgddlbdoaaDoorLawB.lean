/- A slice of bytes among a law's arguments, opened. -/
import Derived.Test.YtmcaplgddlbdoaaDoorLawR
import Derived.Test.YtmcaplgddlbdoaaDoorRd
import Derived.SizedLaws
namespace Go.Proofs.YtmcaplgddlbdoaaDoor
open Go.ChangeShapes Go.WideShapes Go.ChangeAt Go.RowKit Go.Joins
/-- a slice of bytes among a law's arguments, opened -/
theorem open_bytes {H : Type} {enc : TypeId × Value → H} {w : World} {r : Reach} {b0 : Nat} {v : Value} {d : DataW H} {p : List MemPlace} (hv : Value.okWide Tryd.prog w r b0 31 v) (h : DataW.Trod enc Tryd.prog w 0 (fun _ => true) true 31 v d p) :
    ∃ (A : Option Addr) (cap : Nat) (L : List Int), v = .slice A L.length cap ∧ L.length ≤ cap ∧ RdB w w.heap.size A L ∧ (A = none ∧ L = [] ∧ cap = 0 ∨ ∃ elems spare : List (DataW H), d = .slice elems spare ∧ elems.length = L.length) := by
  obtain ⟨a0, len, cap, rfl⟩ := okWide_slice Tryd.underlying31 hv
  obtain ⟨fuel, hf⟩ := h
  rcases open_ints Tryd.underlying31 Tryd.underlying5 (by kernel_rfl) hf with ⟨hcs, hx⟩ | ⟨a, len', cap', zs, hcs, _, hl, hm, hz, hx, hcell, hwz⟩
  · simp only [Value.cells, List.cons.injEq, Value.slice.injEq, and_true] at hcs
    obtain ⟨rfl, rfl, rfl⟩ := hcs
    exact ⟨none, 0, [], rfl, Nat.le_refl _, RdB.nil _ _ _, .inl ⟨rfl, rfl, rfl⟩⟩
  · simp only [Value.cells, List.cons.injEq, Value.slice.injEq, and_true] at hcs
    obtain ⟨rfl, rfl, rfl⟩ := hcs
    simp only [Prod.mk.injEq] at hx
    obtain ⟨rfl, -⟩ := hx
    have hzl : zs.length = cap := by simpa using hz
    have hlen : (zs.take len).length = len := by simp; omega
    refine ⟨some a, cap, zs.take len, by rw [hlen], by omega, ⟨fun x hx => ?_, fun hn => ?_⟩, .inr ⟨_, _, rfl, by simp [lits]⟩⟩
    · have := bounds_u8 (hwz x (List.mem_of_mem_take hx))
      omega
    · have h0 : 0 < zs.length := by
        rcases Nat.eq_zero_or_pos zs.length with h | h
        · rw [List.length_eq_zero_iff.1 h] at hn; simp at hn
        · exact h
      obtain ⟨b, off, rfl, hc⟩ := ints_at hcell h0
      refine ⟨b, off, rfl, ?_, fun j x hx => ?_⟩
      · exact lt_of_cell (hc 0 h0)
      · rw [List.getElem?_take] at hx
        split at hx
        · obtain ⟨hj, rfl⟩ := List.getElem?_eq_some_iff.1 hx
          have := hc j hj
          rw [this]
          simp [List.getD, List.getElem?_eq_getElem hj]
        · cases hx
end Go.Proofs.YtmcaplgddlbdoaaDoor
