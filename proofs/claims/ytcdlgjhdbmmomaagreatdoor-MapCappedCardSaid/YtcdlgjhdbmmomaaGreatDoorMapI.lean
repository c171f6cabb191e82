/- Maps of the call's own from numbers to numbers, and from numbers to truths. -/
import Derived.Test.YtcdlgjhdbmmomaaGreatDoorAppG
import Derived.Maps.OwnSet
import Derived.Maps.OwnOps
namespace Go.Proofs.YtcdlgjhdbmmomaaGreatDoor
open Go.RowKit Go.Maps
theorem keyI : Keyed Tryz.prog 3 := int_keyed Tryz.underlying3
theorem zeroI (w : World) : (zeroValue 3).run Tryz.prog w = .ok (.int .i64 0) w := by kernel_rfl
theorem zeroB (w : World) : (zeroValue 4).run Tryz.prog w = .ok (.bool false) w := by kernel_rfl
theorem wf64 {n : Int} (h : N64 n) : (Lit.int .i64 n).wf = true := WalkArith.wf_i64 (by obtain ⟨h1, h2⟩ := h; omega)
theorem keyI_of {n : Int} (h : N64 n) : keyOf Tryz.prog 3 (.int .i64 n) = some (.int .i64 n) := keyOf_int_mk Tryz.underlying3 (wf64 h)
def MapI (w : World) (b n : Nat) (f : Int → Option Int) : Prop :=
 ∃ D : DataW Unit, w.ownsMap Tryz.prog 3 (plainElem Tryz.prog 3) b n D ∧ ∀ k, Maps.has D (.int .i64 k) = (f k).isSome ∧ D.atKey (.int .i64 k) (.lit (.int .i64 0)) = .lit (.int .i64 ((f k).getD 0))
def MapB (w : World) (b n : Nat) (f : Int → Bool) : Prop :=
 ∃ D : DataW Unit, w.ownsMap Tryz.prog 3 (plainElem Tryz.prog 4) b n D ∧ ∀ k, D.atKey (.int .i64 k) (.lit (.bool false)) = .lit (.bool (f k))
def upF {α : Type} (f : Int → α) (k : Int) (v : α) : Int → α := fun x => if x = k then v else f x
theorem MapI.lt {w : World} {b n : Nat} {f : Int → Option Int} (h : MapI w b n f) : b < w.heap.size := by obtain ⟨D, h, _⟩ := h; exact h.lt
theorem MapB.lt {w : World} {b n : Nat} {f : Int → Bool} (h : MapB w b n f) : b < w.heap.size := by obtain ⟨D, h, _⟩ := h; exact h.lt
theorem MapI.gb {w w' : World} {b n : Nat} {row : Option Nat} {f : Int → Option Int} (h : MapI w b n f) (hg : w.grownBy w' row) (hne : row ≠ some b) : MapI w' b n f := by
 obtain ⟨D, h, hf⟩ := h; exact ⟨D, h.kept hg (fun e => hne e.symm), hf⟩
theorem MapB.gb {w w' : World} {b n : Nat} {row : Option Nat} {f : Int → Bool} (h : MapB w b n f) (hg : w.grownBy w' row) (hne : row ≠ some b) : MapB w' b n f := by
 obtain ⟨D, h, hf⟩ := h; exact ⟨D, h.kept hg (fun e => hne e.symm), hf⟩
theorem MapI.keep {w w' : World} {b n : Nat} {f : Int → Option Int} (h : MapI w b n f) (hb : Below w.heap.size w w') : MapI w' b n f := h.gb (row := none) (gb_below hb) (by simp)
theorem MapB.keep {w w' : World} {b n : Nat} {f : Int → Bool} (h : MapB w b n f) (hb : Below w.heap.size w w') : MapB w' b n f := h.gb (row := none) (gb_below hb) (by simp)
theorem MapI.mono {w : World} {b n n' : Nat} {f : Int → Option Int} (h : MapI w b n f) (hn : n ≤ n') : MapI w b n' f := by
 obtain ⟨D, h, hf⟩ := h; exact ⟨D, h.mono hn, hf⟩
theorem MapB.mono {w : World} {b n n' : Nat} {f : Int → Bool} (h : MapB w b n f) (hn : n ≤ n') : MapB w b n' f := by
 obtain ⟨D, h, hf⟩ := h; exact ⟨D, h.mono hn, hf⟩
theorem MapI.made (w : World) : MapI (w.alloc (.map #[] 0)) w.heap.size 0 (fun _ => none) :=
 ⟨.map [], World.ownsMap_made w _ _ _, fun _ => ⟨rfl, rfl⟩⟩
theorem MapB.made (w : World) : MapB (w.alloc (.map #[] 0)) w.heap.size 0 (fun _ => false) :=
 ⟨.map [], World.ownsMap_made w _ _ _, fun _ => rfl⟩
theorem MapI.look_ok {w : World} {b n : Nat} {f : Int → Option Int} (h : MapI w b n f) {k : Int} (hk : N64 k) :
 (Instr.lookup 87 (.map (some b)) (.int .i64 k) true).run Tryz.prog w = .ok (.tuple #[.int .i64 ((f k).getD 0), .bool (f k).isSome]) w := by
 obtain ⟨D, ho, hf⟩ := h; obtain ⟨v, ps, hrun, hv⟩ := ho.look_ok keyI Tryz.underlying87 (zeroI w) (plainElem_int (q := .i64) Tryz.underlying3 (by decide)) (keyI_of hk); obtain ⟨c, rfl, hc, hwc⟩ := plainElem_int_inv Tryz.underlying3 hv; rw [hrun, (hf k).1]; have := congrArg Prod.fst hc; rw [(hf k).2] at this; simp only [DataW.lit.injEq, Lit.int.injEq, true_and] at this; rw [this]
theorem MapI.look {w : World} {b n : Nat} {f : Int → Option Int} (h : MapI w b n f) {k : Int} (hk : N64 k) :
 (Instr.lookup 87 (.map (some b)) (.int .i64 k) false).run Tryz.prog w = .ok (.int .i64 ((f k).getD 0)) w := by
 obtain ⟨D, ho, hf⟩ := h; obtain ⟨c, hrun, hc, hwc⟩ := ho.lookup_int keyI Tryz.underlying87 Tryz.underlying3 (zeroI w) (keyI_of hk); rw [hrun]; rw [(hf k).2] at hc; simp only [DataW.lit.injEq, Lit.int.injEq, true_and] at hc; rw [hc]
theorem plainElem_bool_inv {P : Program} {e : TypeId} (he : P.underlying e = some .bool) {v : Value} {z : DataW Unit × List MemPlace} (h : plainElem P e v = some z) : ∃ x, v = .bool x ∧ z = (.lit (.bool x), []) := by
 cases v <;> simp [plainElem, he] at h
 exact ⟨_, rfl, h.symm⟩
theorem MapB.look {w : World} {b n : Nat} {f : Int → Bool} (h : MapB w b n f) {k : Int} (hk : N64 k) :
 (Instr.lookup 109 (.map (some b)) (.int .i64 k) false).run Tryz.prog w = .ok (.bool (f k)) w := by
 obtain ⟨D, ho, hf⟩ := h; obtain ⟨v, ps, hrun, hv⟩ := ho.lookup keyI Tryz.underlying109 (zeroB w) (plainElem_bool Tryz.underlying4 false) (keyI_of hk); obtain ⟨x, rfl, hx⟩ := plainElem_bool_inv Tryz.underlying4 hv; rw [hrun]; have := congrArg Prod.fst hx; rw [hf k] at this; simp only [DataW.lit.injEq, Lit.bool.injEq] at this; rw [this]
theorem lit_ne {j k : Int} (h : j ≠ k) : (Lit.int .i64 j) ≠ .int .i64 k := fun e => by injection e; contradiction
theorem lit_key (k : Int) : WideAt.IsKeyLit (.int .i64 k) := by simp [WideAt.IsKeyLit]
theorem MapI.update {w : World} {b n : Nat} {f : Int → Option Int} (h : MapI w b n f) (hn : n < 1000000000000) {k v : Int} (hk : N64 k) (hv : N64 v) :
 ∃ w', (Instr.mapUpdate 87 (.map (some b)) (.int .i64 k) (.int .i64 v)).run Tryz.prog w = .ok () w' ∧ MapI w' b (n + 1) (upF f k (some v)) ∧ w.grownBy w' (some b) := by
 obtain ⟨D, ho, hf⟩ := h; obtain ⟨w', hrun, ho', hg⟩ := ho.update keyI Tryz.underlying87 (by unfold maxLen; omega) (keyI_of hk) (plainElem_int (q := .i64) Tryz.underlying3 (wf64 hv)); refine ⟨w', hrun, ⟨_, ho', fun j => ?_⟩, hg⟩; have hm := ho.isMap; unfold upF
 by_cases e : j = k
 · subst e; rw [if_pos rfl]; exact ⟨has_put_same hm (lit_key j) _, atKey_put_same hm (lit_key j) _ _⟩
 · rw [if_neg e]; exact ⟨(has_put_other (lit_ne e) _).trans (hf j).1, (atKey_put_other (lit_ne e) _ _).trans (hf j).2⟩
theorem MapB.update {w : World} {b n : Nat} {f : Int → Bool} (h : MapB w b n f) (hn : n < 1000000000000) {k : Int} (hk : N64 k) (v : Bool) :
 ∃ w', (Instr.mapUpdate 109 (.map (some b)) (.int .i64 k) (.bool v)).run Tryz.prog w = .ok () w' ∧ MapB w' b (n + 1) (upF f k v) ∧ w.grownBy w' (some b) := by
 obtain ⟨D, ho, hf⟩ := h; obtain ⟨w', hrun, ho', hg⟩ := ho.update keyI Tryz.underlying109 (by unfold maxLen; omega) (keyI_of hk) (plainElem_bool Tryz.underlying4 v); refine ⟨w', hrun, ⟨_, ho', fun j => ?_⟩, hg⟩; have hm := ho.isMap; unfold upF
 by_cases e : j = k
 · subst e; rw [if_pos rfl]; exact atKey_put_same hm (lit_key j) _ _
 · rw [if_neg e]; exact (atKey_put_other (lit_ne e) _ _).trans (hf j)
section
variable {w : World} {ops : Array Oper} {rest : List Oper} {o : Oper} {a : Act} {K : Act → World → Prop} {Q : Exit → Act → World → Prop} {E : Prop}
theorem wpl_upI (hg : o.guard = none) (m x v : Operand) (hop : o.op = Op.mapUpdate 87 m x v) (b n : Nat) (f : Int → Option Int) (hm : a.eval m = .map (some b)) (hown : MapI w b n f) (hn : n < 1000000000000)
 (k y : Int) (hx : a.eval x = .int .i64 k) (hv : a.eval v = .int .i64 y) (hk : N64 k) (hy : N64 y) (hK : ∀ w', MapI w' b (n + 1) (upF f k (some y)) → w.grownBy w' (some b) → wpList Tryz.prog ops Q rest (a.put o.dst undef) w') :
 wpList Tryz.prog ops Q (o :: rest) a w := by
 refine wpList_plain hg fun K' hK' => ?_
 obtain ⟨w', hrun, r1, r2⟩ := hown.update hn hk hy; unfold Oper.wp; simp [execOp, hop, hm, hx, hv, hrun, Result.andThen]; exact hK' _ _ (hK w' r1 r2)
theorem wpl_upB (hg : o.guard = none) (m x v : Operand) (hop : o.op = Op.mapUpdate 109 m x v) (b n : Nat) (f : Int → Bool) (hm : a.eval m = .map (some b)) (hown : MapB w b n f) (hn : n < 1000000000000)
 (k : Int) (y : Bool) (hx : a.eval x = .int .i64 k) (hv : a.eval v = .bool y) (hk : N64 k) (hK : ∀ w', MapB w' b (n + 1) (upF f k y) → w.grownBy w' (some b) → wpList Tryz.prog ops Q rest (a.put o.dst undef) w') :
 wpList Tryz.prog ops Q (o :: rest) a w := by
 refine wpList_plain hg fun K' hK' => ?_
 obtain ⟨w', hrun, r1, r2⟩ := hown.update hn hk y; unfold Oper.wp; simp [execOp, hop, hm, hx, hv, hrun, Result.andThen]; exact hK' _ _ (hK w' r1 r2)
theorem step_upI (hg : o.guard = none) (m x v : Operand) (hop : o.op = Op.mapUpdate 87 m x v) (b n : Nat) (f : Int → Option Int) (hm : a.eval m = .map (some b)) (hown : MapI w b n f) (hn : n < 1000000000000)
 (k y : Int) (hx : a.eval x = .int .i64 k) (hv : a.eval v = .int .i64 y) (hk : N64 k) (hy : N64 y) (hK : ∀ w', MapI w' b (n + 1) (upF f k (some y)) → w.grownBy w' (some b) → K (a.put o.dst undef) w') :
 if Region.wanted o (yielded ops a.tmps) = true then Oper.wp Tryz.prog o a w K Q else E := by
 have hw : Region.wanted o (yielded ops a.tmps) = true := by simp [Region.wanted, hg]
 rw [if_pos hw]; obtain ⟨w', hrun, r1, r2⟩ := hown.update hn hk hy; unfold Oper.wp; simp [execOp, hop, hm, hx, hv, hrun, Result.andThen]; exact hK w' r1 r2
theorem step_upB (hg : o.guard = none) (m x v : Operand) (hop : o.op = Op.mapUpdate 109 m x v) (b n : Nat) (f : Int → Bool) (hm : a.eval m = .map (some b)) (hown : MapB w b n f) (hn : n < 1000000000000)
 (k : Int) (y : Bool) (hx : a.eval x = .int .i64 k) (hv : a.eval v = .bool y) (hk : N64 k) (hK : ∀ w', MapB w' b (n + 1) (upF f k y) → w.grownBy w' (some b) → K (a.put o.dst undef) w') :
 if Region.wanted o (yielded ops a.tmps) = true then Oper.wp Tryz.prog o a w K Q else E := by
 have hw : Region.wanted o (yielded ops a.tmps) = true := by simp [Region.wanted, hg]
 rw [if_pos hw]; obtain ⟨w', hrun, r1, r2⟩ := hown.update hn hk y; unfold Oper.wp; simp [execOp, hop, hm, hx, hv, hrun, Result.andThen]; exact hK w' r1 r2
end
end Go.Proofs.YtcdlgjhdbmmomaaGreatDoor
