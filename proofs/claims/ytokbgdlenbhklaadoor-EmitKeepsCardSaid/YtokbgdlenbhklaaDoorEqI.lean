/- slices.Equal at numbers. -/
import Derived.Test.YtokbgdlenbhklaaDoorAppG
import Derived.WalkLawsBesides
import Derived.Deep.QuietTactic
import Derived.BigQuiet
namespace Go.Proofs.YtokbgdlenbhklaaDoor
open Go.RowKit
set_option maxHeartbeats 1000000 in
set_option maxRecDepth 100000 in
theorem eqi_any (L M : List Int) (A B : Option Addr) (n c m d : Nat) (w : World) (hA : RdG w w.heap.size A (intsV .i64 L)) (hB : RdG w w.heap.size B (intsV .i64 M)) (hn : n = L.length) (hm : m = M.length) (hnl : n ≤ 140737488355328) :
 Calls Tryd.prog 25 #[.slice A n c, .slice B m d] w fun e w' => e = .returned (.bool (decide (L = M))) ∧ ∃ q, w' = w.drewN q := by
 have HA := Lib.hid hA; have HB := Lib.hid hB; have HN := Lib.hid hn; have HM := Lib.hid hm; obtain ⟨r, hr⟩ : ∃ r, decide (L = M) = r := ⟨_, rfl⟩
 rw [hr]; have HR := Lib.hid hr; clear hA hB hr
 by_cases hne : n = m
 · subst hne; clear hn hm
   go_enter Tryd.func25, Tryd.ntmps25
   go_wp2
   go_loopw [13] (fun i wr => ∃ k : Nat, k ≤ n ∧ i = .int .i64 k ∧ Hid (∀ j, j < k → L[j]? = M[j]?) ∧ ∃ q, wr = w.drewN q) (fun i _ => n - (intOf i).toNat)
   case atStart => exact ⟨0, Nat.zero_le _, rfl, fun j h => absurd h (Nat.not_lt_zero _), 0, rfl⟩
   case round =>
    obtain ⟨k, hk, rfl, hj, q, rfl⟩ := hrel
    by_cases hlt : k < n
    · have hx : L[k]? = some (L[k]'(by have := HN.out; omega)) := List.getElem?_eq_getElem _; have hy : M[k]? = some (M[k]'(by have := HM.out; omega)) := List.getElem?_eq_getElem _; generalize L[k]'(by have := HN.out; omega) = x at hx; generalize M[k]'(by have := HM.out; omega) = y at hy; obtain ⟨b1, o1, rfl, hb1, hc1⟩ := HA.out.at (intsV_at .i64 hx); obtain ⟨b2, o2, rfl, hb2, hc2⟩ := HB.out.at (intsV_at .i64 hy); have HX := Lib.hid hx; have HY := Lib.hid hy; clear hx hy
      by_cases hxy : x = y
      · subst hxy
        go_wp2
        go_quiet (fail)
        go_wp2
        go_roundw
        case rel =>
         refine ⟨k + 1, by omega, by go_num, fun j h => ?_, _, rfl⟩; rcases Nat.lt_or_ge j k with h' | h'
         · exact hj.out j h'
         · obtain rfl : j = k := by omega
           rw [HX.out, HY.out]
        case measure => simp [intOf]; omega
      · have hb : (x != y) = true := by simpa using hxy
        have hf : r = false := by
         rw [← HR.out, decide_eq_false_iff_not]; intro e; have h1 := HX.out; rw [e, HY.out] at h1; exact hxy (Option.some.inj h1).symm
        subst hf; clear hxy
        go_wp2
        go_quiet (fail)
        go_wp2
        go_ret
        exact ⟨rfl, _, World.drewN_drewN _ _ _⟩
    · obtain rfl : k = n := by omega
      have hf : r = true := by
       rw [← HR.out, decide_eq_true_iff]; apply List.ext_getElem?; intro j; rcases Nat.lt_or_ge j k with h | h
       · exact hj.out j h
       · rw [List.getElem?_eq_none (by have := HN.out; omega), List.getElem?_eq_none (by have := HM.out; omega)]
      subst hf
      go_wp2
      go_ret
      exact ⟨rfl, q, rfl⟩
 · have hf : r = false := by
    rw [← HR.out, decide_eq_false_iff_not]; intro e; rw [e] at hn; omega
   subst hf; have hb : ((n : Int) != (m : Int)) = true := by simpa using (by omega : ¬ (n : Int) = m)
   clear hn hm
   go_enter Tryd.func25, Tryd.ntmps25
   go_wp2
   go_ret
   exact ⟨rfl, 0, rfl⟩
end Go.Proofs.YtokbgdlenbhklaaDoor
