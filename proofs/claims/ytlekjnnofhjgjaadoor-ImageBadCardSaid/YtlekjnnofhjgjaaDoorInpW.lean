/- A slice of numbers among a law's arguments, opened; the keep's inputs, walked. -/
import Derived.Test.YtlekjnnofhjgjaaDoorLawS
import Derived.Test.YtlekjnnofhjgjaaDoorIsaG
import Derived.Test.YtlekjnnofhjgjaaDoorAppG
import Derived.Test.YtlekjnnofhjgjaaDoorPgmA
import Derived.Deep.LoopGhost
import Derived.Deep.DeepCutAuto
import Derived.IntWalk
import Derived.WalkLawsBesides
namespace Go.Proofs.YtlekjnnofhjgjaaDoor
open Go.ChangeShapes Go.WideShapes Go.ChangeAt Go.RowKit Go.Joins Go.Deep
set_option maxRecDepth 100000 in
theorem open_nums {H : Type} {enc : TypeId × Value → H} {w : World} {r : Reach} {b0 : Nat} {v : Value} {d : DataW H} {p : List MemPlace} (hv : Value.okWide Tryd.prog w r b0 28 v) (h : DataW.Trod enc Tryd.prog w 0 (fun _ => true) true 28 v d p) :
    ∃ (A : Option Addr) (cap : Nat) (L : List Int), v = .slice A L.length cap ∧ L.length ≤ cap ∧ cap ≤ maxLen ∧ (∀ x ∈ L, N64 x) ∧ RdG w w.heap.size A (intsV .i64 L) ∧ (A = none ∧ L = [] ∧ cap = 0 ∨ ∃ elems spare : List (DataW H), d = .slice elems spare ∧ elems.length = L.length) := by
  obtain ⟨a0, len, cap, rfl⟩ := okWide_slice Tryd.underlying28 hv
  obtain ⟨fuel, hf⟩ := h
  rcases open_ints Tryd.underlying28 Tryd.underlying3 (by kernel_rfl) hf with ⟨hcs, hx⟩ | ⟨a, len', cap', zs, hcs, _, hl, hm, hmm, hx, hcell, hwf⟩
  · simp only [Value.cells, List.cons.injEq, Value.slice.injEq, and_true] at hcs
    obtain ⟨rfl, rfl, rfl⟩ := hcs
    exact ⟨none, 0, [], rfl, Nat.le_refl _, by decide, by simp, RdG.nil _ _ _, .inl ⟨rfl, rfl, rfl⟩⟩
  · simp only [Value.cells, List.cons.injEq, Value.slice.injEq, and_true] at hcs
    obtain ⟨rfl, rfl, rfl⟩ := hcs
    simp only [Prod.mk.injEq] at hx
    obtain ⟨rfl, -⟩ := hx
    have hmc : zs.length = cap := by simpa using hmm
    have hlen : (zs.take len).length = len := by rw [List.length_take]; omega
    refine ⟨some a, cap, zs.take len, by rw [hlen], by rw [hlen]; exact hl, hm, fun x hx => i64_of_wf (hwf x (List.mem_of_mem_take hx)), fun hn => ?_, .inr ⟨_, _, rfl, by simp [lits]⟩⟩
    have h0 : 0 < len := by
      rcases Nat.eq_zero_or_pos len with h | h
      · subst h; exact absurd rfl hn
      · exact h
    have hc0 := hcell 0 (by omega)
    obtain ⟨b, off, spot⟩ := a
    have hspot : spot = none := by simpa [Addr.add] using World.cell?_spot hc0
    subst hspot
    refine ⟨b, off, rfl, ?_, fun j u hu => ?_⟩
    · have := lt_of_cell hc0
      simpa [Addr.add] using this
    · simp only [intsV, List.getElem?_map, Option.map_eq_some_iff] at hu
      obtain ⟨x, hx, rfl⟩ := hu
      have hj := (List.getElem?_eq_some_iff.1 hx).1
      rw [hlen] at hj
      have hx2 : zs[j]? = some x := by
        rw [List.getElem?_take] at hx
        simpa [hj] using hx
      have := hcell j (by omega)
      rw [List.getD_eq_getElem?_getD, hx2] at this
      simpa only [add_plain, Option.getD_some] using this
/-- what inputs makes of some numbers -/
def inpL (l : List Int) : List Int := (l.take 8).map fun x => pickL x 20 - 5
theorem inpL_len (l : List Int) : (inpL l).length ≤ 8 := by unfold inpL; rw [List.length_map, List.length_take]; omega
theorem inpL_bd (l : List Int) : ∀ x ∈ inpL l, -5 ≤ x ∧ x ≤ 14 := by
  intro x hx
  unfold inpL at hx
  obtain ⟨y, _, rfl⟩ := List.mem_map.1 hx
  have := pickL_bd y 20 (by decide)
  omega
theorem infoIntI : (Tryd.prog.info? 3).map (fun i => (i.zero, i.size, i.bytes)) = some (some (.int .i64 0), 1, 8) := by kernel_rfl
def InpPost (w : World) (l : List Int) (e : Ending) (w' : World) : Prop :=
  Below w.heap.size w w' ∧ ∃ A c, e = .returned (.slice A (inpL l).length c) ∧ w'.ownsRow w.heap.size 3 1 (.slice A (inpL l).length c) (inpL l).length (intsV .i64 (inpL l))
end Go.Proofs.YtlekjnnofhjgjaaDoor
