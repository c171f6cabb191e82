/- The small functions of package isa, walked: within, near, far, operands. -/
import Derived.Test.YtmcaplgddlbdoaaDoorIsaA
namespace Go.Proofs.YtmcaplgddlbdoaaDoor
open Go.RowKit
theorem results_tmp4 {fn : Func} {t u v x : Tmp} (h : fn.results = #[.tmp t, .tmp u, .tmp v, .tmp x]) (tmps : Array Value) (P : Program) (w : World) :
    (results fn tmps).run P w = .ok (.tuple #[tmps.getD t undef, tmps.getD u undef, tmps.getD v undef, tmps.getD x undef]) w := by simp [results, h]
theorem inside_any (n lo hi : Int) (w : World) : Calls Tryd.prog 26 #[.int .i64 n, .int .i64 lo, .int .i64 hi] w fun e w' => e = .returned (.bool (inside n lo hi)) ∧ w = w' := by
  unfold inside
  by_cases h : lo ≤ n
  · by_cases h2 : n ≤ hi
    · have e1 : (decide (lo ≤ n) && decide (n ≤ hi)) = true := by simp [h, h2]
      rw [e1]; clear e1
      go_enter Tryd.func26, Tryd.ntmps26
      go_wp2
      go_ret
      exact ⟨rfl, rfl⟩
    · have e1 : (decide (lo ≤ n) && decide (n ≤ hi)) = false := by simp [h2]
      rw [e1]; clear e1
      go_enter Tryd.func26, Tryd.ntmps26
      go_wp2
      go_ret
      exact ⟨rfl, rfl⟩
  · have e1 : (decide (lo ≤ n) && decide (n ≤ hi)) = false := by simp [h]
    rw [e1]; clear e1
    go_enter Tryd.func26, Tryd.ntmps26
    go_wp2
    go_ret
    exact ⟨rfl, rfl⟩
theorem near_any (n : Int) (w : World) : Calls Tryd.prog 27 #[.int .i64 n] w fun e w' => e = .returned (.bool (inside n (-128) 127)) ∧ w = w' := by
  go_enter Tryd.func27, Tryd.ntmps27
  go_wp2_with (go_at_call 26; refine (inside_any _ _ _ _).mono ?_; rintro e w' ⟨rfl, rfl⟩)
  go_ret
  exact ⟨rfl, rfl⟩
theorem far_any (n : Int) (w : World) : Calls Tryd.prog 25 #[.int .i64 n] w fun e w' => e = .returned (.bool (inside n (-32768) 32767)) ∧ w = w' := by
  go_enter Tryd.func25, Tryd.ntmps25
  go_wp2_with (go_at_call 26; refine (inside_any _ _ _ _).mono ?_; rintro e w' ⟨rfl, rfl⟩)
  go_ret
  exact ⟨rfl, rfl⟩
def hasD (s : Int) : Bool := s == 2 || s == 3 || s == 4 || s == 6
def hasA (s : Int) : Bool := s == 3 || s == 4 || s == 5 || s == 8 || s == 7 || s == 11
def hasB (s : Int) : Bool := s == 4 || s == 5 || s == 8
def hasN (s : Int) : Bool := s == 2 || s == 3 || s == 5 || s == 8 || s == 9 || s == 10 || s == 11
set_option maxHeartbeats 1000000 in
theorem operands_any (i : Array Value) (s : Int) (w : World) : Calls Tryd.prog 23 #[.agg i, .int .i64 s] w fun e w' =>
    e = .returned (.tuple #[.bool (hasD s), .bool (hasA s), .bool (hasB s), .bool (hasN s)]) ∧ Below w.heap.size w w' := by
  go_enter Tryd.func23, Tryd.ntmps23
  go_wp2
  all_goals
    refine bodyPost_ret (results_tmp4 rfl _ _ _) rfl ?_
    refine ⟨?_, (Below.refl _ _).alloc (Nat.le_refl _) _⟩
    simp_all [hasD, hasA, hasB, hasN]
end Go.Proofs.YtmcaplgddlbdoaaDoor
