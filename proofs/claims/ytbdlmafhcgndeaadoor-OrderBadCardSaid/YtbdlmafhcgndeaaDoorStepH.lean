/- step: (*machine).do, walked: all but memory. step: (*machine).do, walked: memory, inputs, outputs; the whole. -/
import Derived.Test.YtbdlmafhcgndeaaDoorStepF
import Derived.Deep.AppendLies
import Derived.Deep.RegionHeld3
import Derived.Test.YtbdlmafhcgndeaaDoorAppG
namespace Go.Proofs.YtbdlmafhcgndeaaDoor
open Go.RowKit
/-- one instruction that is followed by the next one -/
def doS (s : MSt) (k d a b n : Int) : MSt × Int :=
  if k = 4 then (s, 0)
  else if k = 5 then ({ s with regs := s.regs.set d.toNat (n, false) }, 0)
  else if k = 6 then (if (regAt s a).2 = true then (s, 4) else ({ s with regs := s.regs.set d.toNat (bal ((regAt s a).1 + n), false) }, 0))
  else if k = 14 ∨ k = 15 then memS s k d a b n
  else if k = 16 then ({ s with inp := s.inp.tail, regs := s.regs.set d.toNat (s.inp.headD 0, false) }, 0)
  else if k = 17 then (if (regAt s a).2 = true then (s, 4) else ({ s with told := s.told ++ [(regAt s a).1] }, 0))
  else if (regAt s a).2 = true ∨ (regAt s b).2 = true then (s, 4) else ({ s with regs := s.regs.set d.toNat (arithN k (regAt s a).1 (regAt s b).1, false) }, 0)
end Go.Proofs.YtbdlmafhcgndeaaDoor
namespace Go.Proofs.YtbdlmafhcgndeaaDoor
open Go.RowKit
theorem inp_tail {w : World} {B : Nat} {A : Option Addr} {x : Int} {r : List Int} {c : Nat} (h : RdG w B A (intsV .i64 (x :: r))) (_hc : r.length + 1 ≤ c) : ∃ b o, A = some ⟨b, o, none⟩ ∧ b < B ∧ w.cell? ⟨b, o, none⟩ = some (.int .i64 x) ∧ (c ≠ 1 → RdG w B (some ⟨b, o + 1, none⟩) (intsV .i64 r)) := by
  obtain ⟨b, o, e, hb, hcell⟩ := h (by simp [intsV])
  refine ⟨b, o, e, hb, hcell 0 _ rfl, fun _ hn => ⟨b, o + 1, rfl, hb, fun j v hv => ?_⟩⟩
  have := hcell (j + 1) v (by simpa [intsV] using hv)
  rw [show o + 1 + j = o + (j + 1) by omega]
  exact this
theorem infoInt : (Tryd.prog.info? 3).map (fun i => (i.zero, i.size, i.bytes)) = some (some (.int .i64 0), 1, 8) := by kernel_rfl
theorem app_int_lies {w : World} {ops : Array Oper} {rest : List Oper} {o : Oper} {a : Act} {Q : Exit → Act → World → Prop} (hgd : o.guard = none) (s x : Operand)
    (ho : o.op = .call { callee := .builtin .append, args := #[s, x], argTypes := #[27, 27] }) (base : Nat) (v : Value) (n : Nat) (L : List Int) (hs : a.eval s = v) (hown : w.ownsRow base 3 1 v n (intsV .i64 L))
    (g c : Nat) (hx : a.eval x = .slice (some ⟨g, 0, none⟩) 1 c) (z : Int) (fr : Nat × Nat) (hb : w.heap[g]? = some (.cells #[.int .i64 z] 3 fr)) (hn : n ≤ 1000000000000) (hbase : base ≤ w.heap.size)
    (h : ∀ g' cap' w', w'.ownsRow base 3 1 (.slice (some ⟨g', 0, none⟩) (n + 1) cap') (n + 1) (intsV .i64 (L ++ [z])) → w.grownBy w' v.ownBlock → (v.ownBlock = some g' ∨ g' = w.heap.size) → g' < w'.heap.size → wpList Tryd.prog ops Q rest (a.put o.dst (.slice (some ⟨g', 0, none⟩) (n + 1) cap')) w') : wpList Tryd.prog ops Q (o :: rest) a w := by
  obtain ⟨i0, hi, hz0, hz1, hz2⟩ := info_parts infoInt
  refine wpList_append_lies w hgd s x 27 ho base 3 i0 _ 1 8 Tryd.underlying27 hi hz0 hz1 hz2 rfl (by decide) v _ _ hs hown ⟨g, 0, none⟩ 1 c [.int .i64 z] hx rfl (World.news_of_block hb) (by simp [Value.oneCell']) (by decide) (by unfold maxLen; omega) (by omega) hbase _ rfl (fun g' c' w' h1 => h g' c' w' ?_)
  simpa [intsV] using h1
end Go.Proofs.YtbdlmafhcgndeaaDoor
