/- The blocks of a program: its groups of spots. -/
import Derived.Test.YtlekjnnofhjgjaaDoorRcvT
namespace Go.Proofs.YtlekjnnofhjgjaaDoor
open Go.RowKit
/-- spots that stand one behind the other -/
def ChainS : Int → List Sp → Prop
  | _, [] => True
  | p, s :: r => s.p = p ∧ 1 ≤ s.z ∧ ChainS (p + s.z) r
theorem ChainS.at {x : Sp} {r : List Sp} : ∀ {d : List Sp} {p : Int}, ChainS p (d ++ x :: r) → p ≤ x.p ∧ (∀ y ∈ d, y.p + y.z ≤ x.p ∧ 1 ≤ y.z) ∧ 1 ≤ x.z ∧ ChainS (x.p + x.z) r
  | [], p, h => by
    obtain ⟨h1, h2, h3⟩ := h
    exact ⟨by omega, (fun y hy => by cases hy), h2, by rw [h1]; exact h3⟩
  | s :: d, p, h => by
    obtain ⟨h1, h2, h3⟩ := h
    obtain ⟨k1, k2, k3, k4⟩ := ChainS.at (d := d) h3
    refine ⟨by omega, fun y hy => ?_, k3, k4⟩
    rcases List.mem_cons.1 hy with rfl | hy
    · exact ⟨by omega, h2⟩
    · exact k2 y hy
theorem planS_chain {bs : List (List Spot)} {fs : List Int} : ∀ (l : List Spot) (p : Int), (∀ q ∈ l, 1 ≤ szS q) → ChainS p (planS bs fs p l)
  | [], p, _ => trivial
  | q :: r, p, h => ⟨rfl, h q (by simp), planS_chain r (p + szS q) fun u hu => h u (by simp [hu])⟩
theorem tagS_snd : ∀ (ls : List (List Sp)) (f : Int), (tagS f ls).map Prod.snd = ls.flatten
  | [], f => rfl
  | l :: r, f => by
    show (l.map (fun s => (f, s)) ++ tagS (f + 1) r).map Prod.snd = l ++ r.flatten
    rw [List.map_append, tagS_snd r, List.map_map]
    congr 1
    exact List.map_id l
theorem tagS_split {x : FSp} {r : List FSp} : ∀ (ls : List (List Sp)) (f : Int) (d : List FSp), tagS f ls = d ++ x :: r →
    (∃ (j : Nat) (l : List Sp), ls[j]? = some l ∧ x.1 = f + j ∧ l.head? = some x.2) ∨ ∃ d' y, d = d' ++ [y] ∧ y.1 = x.1
  | [], f, d, h => by
    have h' : ([] : List FSp) = d ++ x :: r := h
    simp at h'
  | l :: ls, f, d, h => by
    have h' : l.map (fun s => (f, s)) ++ tagS (f + 1) ls = d ++ x :: r := h
    rcases List.append_eq_append_iff.1 h' with ⟨u, h1, h2⟩ | ⟨u, h1, h2⟩
    · rcases tagS_split ls (f + 1) u h2 with ⟨j, l', k1, k2, k3⟩ | ⟨d', y, k1, k2⟩
      · exact .inl ⟨j + 1, l', by rw [List.getElem?_cons_succ]; exact k1, by omega, k3⟩
      · exact .inr ⟨l.map (fun s => (f, s)) ++ d', y, by rw [h1, k1, List.append_assoc], k2⟩
    · cases u with
      | nil =>
        rw [List.nil_append] at h2
        rw [List.append_nil] at h1
        rcases tagS_split ls (f + 1) [] (by rw [List.nil_append]; exact h2.symm) with ⟨j, l', k1, k2, k3⟩ | ⟨d', y, k1, k2⟩
        · exact .inl ⟨j + 1, l', by rw [List.getElem?_cons_succ]; exact k1, by omega, k3⟩
        · simp at k1
      | cons z u =>
        have hz : x = z := by
          have : x :: r = z :: (u ++ tagS (f + 1) ls) := h2
          injection this
        subst hz
        have hx : x.1 = f := by
          have : x ∈ l.map (fun s => (f, s)) := by rw [h1]; simp
          obtain ⟨s, -, e⟩ := List.mem_map.1 this
          rw [← e]
        rcases List.eq_nil_or_concat d with e | ⟨d', y, e⟩
        · left
          refine ⟨0, l, rfl, by rw [hx]; simp, ?_⟩
          rw [e, List.nil_append] at h1
          cases l with
          | nil => cases h1
          | cons s l =>
            have : (f, s) = x := by
              have h3 : (f, s) :: l.map (fun s => (f, s)) = x :: u := h1
              injection h3
            rw [← this]
            rfl
        · right
          rw [List.concat_eq_append] at e
          refine ⟨d', y, e, ?_⟩
          have : y ∈ l.map (fun s => (f, s)) := by rw [h1, e]; simp
          obtain ⟨s, -, e2⟩ := List.mem_map.1 this
          rw [hx, ← e2]
theorem tagS_mem {x : FSp} : ∀ (ls : List (List Sp)) (f : Int), x ∈ tagS f ls → ∃ (j : Nat) (l : List Sp), ls[j]? = some l ∧ x.1 = f + j ∧ x.2 ∈ l
  | [], f, h => by cases h
  | l :: ls, f, h => by
    rcases List.mem_append.1 (show x ∈ l.map (fun s => (f, s)) ++ tagS (f + 1) ls from h) with h | h
    · obtain ⟨s, hs, rfl⟩ := List.mem_map.1 h
      exact ⟨0, l, rfl, by simp, hs⟩
    · obtain ⟨j, l', k1, k2, k3⟩ := tagS_mem ls (f + 1) h
      exact ⟨j + 1, l', by rw [List.getElem?_cons_succ]; exact k1, by omega, k3⟩
/-- the block where function i begins; behind the last one: all blocks -/
def fnB (bs : List (List Spot)) (fs : List Int) (i : Nat) : Nat := if i < fs.length then fnA fs i else bs.length
theorem fnZ_next {bs : List (List Spot)} {fs : List Int} (h : PlanOk bs fs) {i : Nat} (hi : i < fs.length) : fnZ bs fs i = fnB bs fs (i + 1) := by
  obtain ⟨h1, h2, h3, h4⟩ := fn_az h hi
  unfold fnB
  unfold endB at h2
  split
  · rename_i hl
    obtain ⟨k1, -, -, -⟩ := fn_az h hl
    rw [if_pos (by omega), show ((i : Int) + 1).toNat = i + 1 by omega, List.getD_eq_getElem?_getD, k1] at h2
    simp only [Option.getD_some] at h2
    omega
  · rw [if_neg (by omega)] at h2
    omega
theorem allP_flat {bs : List (List Spot)} {fs : List Int} (h : PlanOk bs fs) : ∀ i, i ≤ fs.length → ((allP bs fs).take i).flatten = planS bs fs 0 (bs.take (fnB bs fs i)).flatten
  | 0, _ => by
    have e : fnB bs fs 0 = 0 := by
      unfold fnB
      rw [if_pos (by have := h.nf; omega)]
      unfold fnA
      rw [List.getD_eq_getElem?_getD, h.f0]
      rfl
    rw [e]
    rfl
  | i + 1, hi => by
    have ih := allP_flat h i (by omega)
    have hl : i < fs.length := by omega
    obtain ⟨h1, h2, h3, h4⟩ := fn_az h hl
    have e : fnB bs fs i = fnA fs i := by unfold fnB; rw [if_pos hl]
    rw [List.take_add_one, allP_is hl, List.flatten_append, ih, e, ← fnZ_next h hl]
    have e1 : bs.take (fnZ bs fs i) = bs.take (fnA fs i) ++ (bs.take (fnZ bs fs i)).drop (fnA fs i) := by
      conv => lhs; rw [← List.take_append_drop (fnA fs i) (bs.take (fnZ bs fs i))]
      rw [List.take_take, Nat.min_eq_left (by omega)]
    conv => rhs; rw [e1]
    rw [List.flatten_append, planS_app, Int.zero_add, ← atB_nat]
    simp [fnS]
theorem allP_all {bs : List (List Spot)} {fs : List Int} (h : PlanOk bs fs) : (allP bs fs).flatten = planS bs fs 0 bs.flatten := by
  have h1 := allP_flat h fs.length (Nat.le_refl _)
  have e : fnB bs fs fs.length = bs.length := by unfold fnB; rw [if_neg (by omega)]
  rw [e, List.take_length, List.take_of_length_le (by simp [allP])] at h1
  exact h1
theorem prog_chain {bs : List (List Spot)} {fs : List Int} (h : PlanOk bs fs) : ChainS 0 ((tagS 0 (allP bs fs)).map Prod.snd) := by
  rw [tagS_snd, allP_all h]
  exact planS_chain _ _ fun q hq => by
    obtain ⟨b, hb, hq⟩ := List.mem_flatten.1 hq
    exact (szS_bd (h.ok b hb q hq)).1
/-- a spot of function j has been marked -/
theorem markGo_mark {m : Img} {own : Int → Option Int} {f : Int} {s : Sp} : ∀ {l : List Sp} {ld ld' : Int → Bool}, markGo m own f l ld = some ld' → s ∈ l → ∃ l1 l2, markS m own f s l1 = some l2 ∧ ∀ q, l2 q = true → ld' q = true
  | [], ld, ld', h, hs => by cases hs
  | t :: r, ld, ld', h, hs => by
    have h' : (markS m own f t ld).bind (markGo m own f r) = some ld' := h
    cases ht : markS m own f t ld with
    | none => rw [ht] at h'; cases h'
    | some x =>
      rw [ht] at h'
      rcases List.mem_cons.1 hs with rfl | hs
      · exact ⟨ld, x, ht, fun q hq => markGo_keep (l := r) h' hq⟩
      · exact markGo_mark (l := r) h' hs
theorem markAll_mark {m : Img} {own : Int → Option Int} {s : Sp} : ∀ {l : List (FnD × List Sp)} {f : Int} {ld ld' : Int → Bool}, markAll m own l f ld = some ld' → ∀ (j : Nat) (x : FnD × List Sp), l[j]? = some x → s ∈ x.2 → ∃ l1 l2, markS m own (f + j) s l1 = some l2 ∧ ∀ q, l2 q = true → ld' q = true
  | [], f, ld, ld', h, j, x, hx, hs => by simp at hx
  | y :: r, f, ld, ld', h, j, x, hx, hs => by
    have h' : (markGo m own f y.2 (upF ld y.1.start true)).bind (markAll m own r (f + 1)) = some ld' := h
    cases hy : markGo m own f y.2 (upF ld y.1.start true) with
    | none => rw [hy] at h'; cases h'
    | some z =>
      rw [hy] at h'
      cases j with
      | zero =>
        simp only [List.getElem?_cons_zero, Option.some.injEq] at hx
        subst hx
        obtain ⟨l1, l2, k1, k2⟩ := markGo_mark hy hs
        refine ⟨l1, l2, ?_, fun q hq => markAll_keep (l := r) h' (k2 q hq)⟩
        rw [show f + ((0 : Nat) : Int) = f by omega]
        exact k1
      | succ j =>
        rw [List.getElem?_cons_succ] at hx
        have := markAll_mark (l := r) h' j x hx hs
        rw [show f + 1 + (j : Int) = f + ((j + 1 : Nat) : Int) by omega] at this
        exact this
theorem prog_sok {bs : List (List Spot)} {fs : List Int} (h : PlanOk bs fs) (L : List RawI) {own : Int → Option Int} {ld0 ld : Int → Bool} (hm : markAll (imgOf bs fs L) own ((imgOf bs fs L).funcs.zip (allP bs fs)) 0 ld0 = some ld) : SOk ld (tagS 0 (allP bs fs)) := by
  refine ⟨fun d x r e => ?_, fun d x r e y hy => ?_⟩
  · rcases tagS_split _ _ _ e with ⟨j, l, k1, k2, k3⟩ | h2
    · left
      obtain ⟨hj, rfl⟩ := allP_at k1
      have hp : x.2.p = atB bs (fnA fs j) := by
        rcases hf : fnS bs fs j with _ | ⟨q, rr⟩
        · rw [hf] at k3
          cases k3
        · rw [hf] at k3
          have : (⟨atB bs (fnA fs j), szS q, resI bs fs (atB bs (fnA fs j)) q⟩ : Sp) = x.2 := by
            have h3 : some (⟨atB bs (fnA fs j), szS q, resI bs fs (atB bs (fnA fs j)) q⟩ : Sp) = some x.2 := k3
            injection h3
          rw [← this]
      have hz : ((imgOf bs fs L).funcs.zip (allP bs fs))[j]? = some (fnAt bs fs j, planS bs fs (atB bs (fnA fs j)) (fnS bs fs j)) := by
        rw [List.getElem?_zip_eq_some]
        refine ⟨?_, k1⟩
        show ((List.range fs.length).map (fnAt bs fs))[j]? = _
        rw [List.getElem?_map, List.getElem?_eq_getElem (by simpa using hj), List.getElem_range]
        rfl
      have := markAll_first hm _ (List.mem_of_getElem? hz)
      rw [hp]
      rw [fnAt_is h hj] at this
      exact this
    · exact .inr h2
  · have hc := prog_chain h
    rw [e, List.map_append, List.map_cons] at hc
    have := (ChainS.at hc).2.1 y.2 (List.mem_map_of_mem hy)
    omega
end Go.Proofs.YtlekjnnofhjgjaaDoor
