/- Appends onto rows of the call's own: bytes, instructions; where the new row lies. -/
import Derived.Test.YtbdlmafhcgndeaaDoorIsaG
import Derived.Test.YtbdlmafhcgndeaaDoorIsaF
import Derived.Deep.AppendLies
namespace Go.Proofs.YtbdlmafhcgndeaaDoor
open Go.RowKit
theorem infoI : (Tryd.prog.info? 40).map (fun i => (i.zero, i.size, i.bytes)) = some (some (.agg #[.int .i64 0, .int .i64 0, .int .i64 0, .int .i64 0, .int .i64 0, .bool false]), 6, 48) := by kernel_rfl
theorem addr_add0 (b j : Nat) : ((⟨b, 0, none⟩ : Addr).add j) = ⟨b, 0 + j, none⟩ := by unfold Addr.add; split <;> simp_all
theorem app_bytes_lies {w : World} {ops : Array Oper} {rest : List Oper} {o : Oper} {a : Act} {Q : Exit → Act → World → Prop} (hgd : o.guard = none) (s x : Operand)
    (ho : o.op = .call { callee := .builtin .append, args := #[s, x], argTypes := #[24, 24] }) (base : Nat) (v : Value) (L0 L : List Int) (hs : a.eval s = v) (hown : OwnB w base v L0)
    (g m c : Nat) (hx : a.eval x = .slice (some ⟨g, 0, none⟩) m c) (hm : L.length = m) (hm0 : 0 < m) (hc : ∀ j x, L[j]? = some x → w.cell? ⟨g, 0 + j, none⟩ = some (.int .u8 x)) (hn : L0.length + m ≤ 140737488355328) (hbase : base ≤ w.heap.size)
    (h : ∀ g' cap' w', OwnB w' base (.slice (some ⟨g', 0, none⟩) (L0 ++ L).length cap') (L0 ++ L) → w.grownBy w' v.ownBlock → (v.ownBlock = some g' ∨ g' = w.heap.size) → g' < w'.heap.size → wpList Tryd.prog ops Q rest (a.put o.dst (.slice (some ⟨g', 0, none⟩) (L0 ++ L).length cap')) w') : wpList Tryd.prog ops Q (o :: rest) a w := by
  obtain ⟨i0, hi, hz0, hz1, hz2⟩ := info_parts infoU8
  refine wpList_append_lies w hgd s x 24 ho base 5 i0 (.int .u8 0) 1 1 Tryd.underlying24 hi hz0 hz1 hz2 rfl (by decide) v _ _ hs hown ⟨g, 0, none⟩ m c (bytesV L) hx (by simp [bytesV, hm]) ?_ ?_ hm0 (by unfold maxLen; omega) (by omega) hbase _ rfl (fun g' cap' w' h2 h3 h4 h5 => ?_)
  · intro j u hu
    simp only [bytesV, List.getElem?_map, Option.map_eq_some_iff] at hu
    obtain ⟨x, hx, rfl⟩ := hu
    rw [addr_add0]
    exact hc j x hx
  · intro u hu
    simp only [bytesV, List.mem_map] at hu
    obtain ⟨x, _, rfl⟩ := hu
    rfl
  · have hll : (L0 ++ L).length = L0.length + m := by rw [List.length_append, hm]
    have := h g' cap' w'
    rw [hll] at this
    refine this ?_ h3 h4 h5
    unfold OwnB
    rw [hll]
    simpa [bytesV] using h2
theorem app_ins_lies {w : World} {ops : Array Oper} {rest : List Oper} {o : Oper} {a : Act} {Q : Exit → Act → World → Prop} (hgd : o.guard = none) (s x : Operand)
    (ho : o.op = .call { callee := .builtin .append, args := #[s, x], argTypes := #[38, 38] }) (base : Nat) (v : Value) (n : Nat) (xs : List Value) (hs : a.eval s = v) (hown : w.ownsRow base 40 6 v n xs)
    (g c : Nat) (hx : a.eval x = .slice (some ⟨g, 0, none⟩) 1 c) (v0 v1 v2 v3 v4 v5 : Value) (fr : Nat × Nat) (hb : w.heap[g]? = some (.cells #[v0, v1, v2, v3, v4, v5] 40 fr)) (h1 : ∀ u ∈ [v0, v1, v2, v3, v4, v5], u.oneCell' = true)
    (hn : n ≤ 1000000000000) (hbase : base ≤ w.heap.size)
    (h : ∀ g' cap' w', w'.ownsRow base 40 6 (.slice (some ⟨g', 0, none⟩) (n + 1) cap') (n + 1) (xs ++ [v0, v1, v2, v3, v4, v5]) → w.grownBy w' v.ownBlock → (v.ownBlock = some g' ∨ g' = w.heap.size) → g' < w'.heap.size → wpList Tryd.prog ops Q rest (a.put o.dst (.slice (some ⟨g', 0, none⟩) (n + 1) cap')) w') : wpList Tryd.prog ops Q (o :: rest) a w := by
  obtain ⟨i0, hi, hz0, hz1, hz2⟩ := info_parts infoI
  exact wpList_append_lies w hgd s x 38 ho base 40 i0 _ 6 48 Tryd.underlying38 hi hz0 hz1 hz2 rfl (by decide) v _ _ hs hown ⟨g, 0, none⟩ 1 c [v0, v1, v2, v3, v4, v5] hx rfl (World.news_of_block hb) h1 (by decide) (by unfold maxLen; omega) (by omega) hbase _ rfl h
end Go.Proofs.YtbdlmafhcgndeaaDoor
