/- step: fold, product, taken, flows, arithmetic, walked. step.arithmetic, walked. -/
import Derived.Test.YtbdlmafhcgndeaaDoorStepP
import Derived.WalkLawsBesides
import Derived.Outline
namespace Go.Proofs.YtbdlmafhcgndeaaDoor
open Go.RowKit
/-- is a branch taken? -/
def takenB (k a b : Int) : Bool := if k = 18 then a == b else if k = 19 then a != b else if k = 20 then decide (a < b) else decide (b ≤ a)
/-- does an instruction say where it goes on? -/
def flowsB (k : Int) : Bool := decide (k ≤ 3) || decide (18 ≤ k)
theorem turn_odd (o x y a B t D k1 k2 : Int) (h : o + x * y = a * B + 2199023255553 * t) (hy : y = 2 * D + 1) : (o + x + 2199023255553 * k1) + (x + x + 2199023255553 * k2) * D = a * B + 2199023255553 * (t + k1 + k2 * D) := by
  subst hy
  grind
theorem turn_even (o x y a B t D k2 : Int) (h : o + x * y = a * B + 2199023255553 * t) (hy : y = 2 * D) : o + (x + x + 2199023255553 * k2) * D = a * B + 2199023255553 * (t + k2 * D) := by
  subst hy
  grind
/-- what an operation on two numbers gives -/
def arithN (k a b : Int) : Int :=
  if k = 7 then bal (a + b) else if k = 8 then bal (a - b) else if k = 9 then bal (a * b) else if k = 10 then bal (bits BinOp.and .i64 a b) else if k = 11 then bal (bits BinOp.or .i64 a b) else if k = 12 then bal (bits BinOp.xor .i64 a b)
  else if a < b then 1 else 0
theorem arithN_bd (k a b : Int) : N41 (arithN k a b) := by
  unfold arithN
  repeat' split
  all_goals first | exact bal_bd _ | (unfold N41; omega)
end Go.Proofs.YtbdlmafhcgndeaaDoor
namespace Go.Proofs.YtbdlmafhcgndeaaDoor
open Go.RowKit
end Go.Proofs.YtbdlmafhcgndeaaDoor
