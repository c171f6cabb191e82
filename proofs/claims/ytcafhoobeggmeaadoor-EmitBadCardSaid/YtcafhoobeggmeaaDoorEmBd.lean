/- Orders that are none: what EmitBad makes of a good one. -/
import Derived.Test.YtcafhoobeggmeaaDoorEmW
namespace Go.Proofs.YtcafhoobeggmeaaDoor
open Go.RowKit
theorem ordOk_len {d : FlowD} {l : List PartD} (h : l.length ≠ d.firsts.length) : ordOk d l = false := by
 unfold ordOk; have : (l.length == d.firsts.length) = false := by simpa using h
 rw [this, Bool.false_and]
theorem ordOk_cons {d : FlowD} {p : PartD} {r : List PartD} (h : ordP d (p :: r) [] [] = false) : ordOk d (p :: r) = false := by
 unfold ordOk; rw [h, Bool.and_false]
theorem ordOk_first {d : FlowD} {p : PartD} {r : List PartD} (h : (d.firsts.length : Int) ≤ p.fn ∨ p.bs.head? ≠ some (d.firsts.getD p.fn.toNat 0)) : ordOk d (p :: r) = false := by
 refine ordOk_cons ?_; unfold ordP; rw [if_pos]; rcases h with h | h
 · exact .inr (.inl h)
 · exact .inr (.inr (.inr h))
theorem ordB_dup (d : FlowD) (fn b : Int) : ∀ (l acc : List Int), b ∈ l ∨ b ∈ acc → ordB d fn (l ++ [b]) acc = none
 | [], acc, h => by
  have hb : b ∈ acc := by simpa using h
  show ordB d fn [b] acc = none; unfold ordB; rw [if_pos]; exact .inr (.inr (.inl (by simpa using hb)))
 | x :: r, acc, h => by
  show ordB d fn (x :: (r ++ [b])) acc = none; unfold ordB
  split
  · rfl
  · refine ordB_dup d fn b r (x :: acc) ?_; rcases h with h | h
    · rcases List.mem_cons.1 h with e | h
      · exact .inr (by rw [e]; exact List.mem_cons_self)
      · exact .inl h
    · exact .inr (List.mem_cons_of_mem _ h)
theorem ordOk_dup {d : FlowD} {fn b : Int} {bs : List Int} {r : List PartD} (h : b ∈ bs) : ordOk d (⟨fn, bs ++ [b]⟩ :: r) = false := by
 refine ordOk_cons ?_; unfold ordP
 split
 · rfl
 · rw [ordB_dup d fn b bs [] (.inl h)]
end Go.Proofs.YtcafhoobeggmeaaDoor
