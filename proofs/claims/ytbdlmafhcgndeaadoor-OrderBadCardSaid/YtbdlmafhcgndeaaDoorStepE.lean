/- step: the machine in memory; number, numbers, address, walked. step: what writes to the machine's block leaves alone. step: (*machine).flow, walked. -/
import Derived.Test.YtbdlmafhcgndeaaDoorAppG
import Derived.Test.YtbdlmafhcgndeaaDoorStepA
import Derived.Test.YtbdlmafhcgndeaaDoorImgC
import Derived.Deep.QuietTactic
import Derived.BigQuiet
namespace Go.Proofs.YtbdlmafhcgndeaaDoor
open Go.RowKit
def valC (v : Int × Bool) : List Value := [.int .i64 v.1, .bool v.2]
def valsC (L : List (Int × Bool)) : List Value := L.flatMap valC
/-- a machine -/
structure MSt where
  regs : List (Int × Bool)
  data : List (Int × Bool)
  inp : List Int
  pc : Int
  told : List Int
  en : Int
  steps : Int
/-- where its lists lie -/
structure MAd where
  dA : Option Addr
  dc : Nat
  iA : Option Addr
  ic : Nat
  tA : Option Addr
  tc : Nat
def machC (iv : List Value) (s : MSt) (d : MAd) : List Value :=
  iv ++ valsC s.regs ++ [.slice d.dA s.data.length d.dc, .slice d.iA s.inp.length d.ic, .int .i64 s.pc, .slice d.tA s.told.length d.tc, .int .i64 s.en, .int .i64 s.steps, .int .i64 0]
theorem valsC_len (L : List (Int × Bool)) : (valsC L).length = L.length * 2 := flat_len valC 2 (fun _ => rfl) L
def regAt (s : MSt) (r : Int) : Int × Bool := s.regs.getD r.toNat (0, false)
theorem drewN_add (w : World) (a b : Nat) : (w.drewN a).drewN b = w.drewN (a + b) := World.drewN_drewN w a b
end Go.Proofs.YtbdlmafhcgndeaaDoor
namespace Go.Proofs.YtbdlmafhcgndeaaDoor
open Go.RowKit
theorem valsC_set : ∀ (L : List (Int × Bool)) (r : Nat) (v : Int × Bool), valsC (L.set r v) = ((valsC L).set (r * 2) (.int .i64 v.1)).set (r * 2 + 1) (.bool v.2)
  | [], r, v => by simp [valsC]
  | u :: L, 0, v => by simp [valsC, valC]
  | u :: L, r + 1, v => by
    have ih := valsC_set L r v
    have e : ∀ L' : List (Int × Bool), valsC (u :: L') = .int .i64 u.1 :: .bool u.2 :: valsC L' := fun L' => rfl
    rw [List.set_cons_succ, e, e, ih, show (r + 1) * 2 = r * 2 + 1 + 1 by omega]
    rfl
theorem set_mid (a m r : List Value) (j : Nat) (v : Value) (h : j < m.length) : (a ++ m ++ r).set (a.length + j) v = a ++ m.set j v ++ r := by
  rw [List.append_assoc, List.set_append_right _ _ (Nat.le_add_right _ _), Nat.add_sub_cancel_left, List.set_append_left _ _ h, List.append_assoc]
theorem machC_reg (iv : List Value) (s : MSt) (d : MAd) (hi : iv.length = 6) (hr : s.regs.length = 8) (r : Nat) (h : r < 8) (v : Int × Bool) :
    ((machC iv s d).set (6 + r * 2) (.int .i64 v.1)).set (6 + r * 2 + 1) (.bool v.2) = machC iv { s with regs := s.regs.set r v } d := by
  have hv := valsC_len s.regs
  unfold machC
  rw [valsC_set]
  have h1 := set_mid iv (valsC s.regs) [Value.slice d.dA s.data.length d.dc, .slice d.iA s.inp.length d.ic, .int .i64 s.pc, .slice d.tA s.told.length d.tc, .int .i64 s.en, .int .i64 s.steps, .int .i64 0] (r * 2) (.int .i64 v.1) (by omega)
  have h2 := set_mid iv ((valsC s.regs).set (r * 2) (.int .i64 v.1)) [Value.slice d.dA s.data.length d.dc, .slice d.iA s.inp.length d.ic, .int .i64 s.pc, .slice d.tA s.told.length d.tc, .int .i64 s.en, .int .i64 s.steps, .int .i64 0] (r * 2 + 1) (.bool v.2) (by rw [List.length_set]; omega)
  rw [hi] at h1 h2
  rw [h1, Nat.add_assoc, h2]
theorem machC_rest (iv : List Value) (s : MSt) (d : MAd) (hi : iv.length = 6) (hr : s.regs.length = 8) (q : Nat) (v : Value) :
    (machC iv s d).set (22 + q) v = iv ++ valsC s.regs ++ [Value.slice d.dA s.data.length d.dc, .slice d.iA s.inp.length d.ic, .int .i64 s.pc, .slice d.tA s.told.length d.tc, .int .i64 s.en, .int .i64 s.steps, .int .i64 0].set q v := by
  have hv := valsC_len s.regs
  unfold machC
  rw [List.set_append_right _ _ (by rw [List.length_append]; omega), List.length_append, hi, hv, hr, show 22 + q - (6 + 8 * 2) = q by omega]
end Go.Proofs.YtbdlmafhcgndeaaDoor
namespace Go.Proofs.YtbdlmafhcgndeaaDoor
open Go.RowKit
/-- an instruction's parts -/
def insV (k d a b n : Int) (l : Bool) : Value := .agg #[.int .i64 k, .int .i64 d, .int .i64 a, .int .i64 b, .int .i64 n, .bool l]
/-- where a run goes on: the machine, how it ends, where -/
def flowS (ts : List (List Int)) (s : MSt) (k a b n next : Int) : MSt × Int × Int :=
  if k = 1 then (s, 1, next) else if k = 2 then (s, 2, next)
  else if k = 3 then (if (regAt s 7).2 = false then (s, 4, next) else (s, 0, (regAt s 7).1))
  else if k = 22 then (s, 0, s.pc + n)
  else if k = 23 then ({ s with regs := s.regs.set 7 (next, true) }, 0, s.pc + n)
  else if k = 24 then (if (regAt s a).2 = true then (s, 4, next) else if (ts.length : Int) ≤ n ∨ (regAt s a).1 < 0 ∨ ((ts.getD n.toNat []).length : Int) ≤ (regAt s a).1 then (s, 2, next) else (s, 0, (ts.getD n.toNat []).getD (regAt s a).1.toNat 0))
  else if (regAt s a).2 = true ∨ (regAt s b).2 = true then (s, 4, next) else if takenB k (regAt s a).1 (regAt s b).1 = true then (s, 0, s.pc + n) else (s, 0, next)
end Go.Proofs.YtbdlmafhcgndeaaDoor
