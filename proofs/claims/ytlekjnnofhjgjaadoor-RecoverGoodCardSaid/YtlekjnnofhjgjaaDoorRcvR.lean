/- A program recovers: what sweeping finds in it. -/
import Derived.Test.YtlekjnnofhjgjaaDoorPlanR
namespace Go.Proofs.YtlekjnnofhjgjaaDoor
open Go.RowKit
/-- the spots of a part of a plan, from p on -/
def planS (bs : List (List Spot)) (fs : List Int) : Int → List Spot → List Sp
  | _, [] => []
  | p, s :: r => ⟨p, szS s, resI bs fs p s⟩ :: planS bs fs (p + szS s) r
theorem planS_app (bs : List (List Spot)) (fs : List Int) (y : List Spot) : ∀ (x : List Spot) (p : Int), planS bs fs p (x ++ y) = planS bs fs p x ++ planS bs fs (p + szL x) y
  | [], p => by
    show planS bs fs p y = planS bs fs (p + 0) y
    rw [Int.add_zero]
  | s :: r, p => by
    show ⟨p, szS s, resI bs fs p s⟩ :: planS bs fs (p + szS s) (r ++ y) = ⟨p, szS s, resI bs fs p s⟩ :: (planS bs fs (p + szS s) r ++ planS bs fs (p + (szS s + szL r)) y)
    rw [planS_app bs fs y r, Int.add_assoc]
theorem resL_app (bs : List (List Spot)) (fs : List Int) (y : List Spot) : ∀ (x : List Spot) (p : Int), resL bs fs p (x ++ y) = resL bs fs p x ++ resL bs fs (p + szL x) y
  | [], p => by
    show resL bs fs p y = resL bs fs (p + 0) y
    rw [Int.add_zero]
  | s :: r, p => by
    show resI bs fs p s :: resL bs fs (p + szS s) (r ++ y) = resI bs fs p s :: (resL bs fs (p + szS s) r ++ resL bs fs (p + (szS s + szL r)) y)
    rw [resL_app bs fs y r, Int.add_assoc]
theorem resI_size {bs : List (List Spot)} {fs : List Int} {p : Int} {s : Spot} (h : (resI bs fs p s).chk = 0) : ((resI bs fs p s).enc.length : Int) = szS s := enc_len h
theorem planS_spots (bs : List (List Spot)) (fs : List Int) : ∀ (x : List Spot) (p : Int), (∀ i ∈ resL bs fs p x, i.chk = 0) → spotsOf p (resL bs fs p x) = planS bs fs p x
  | [], p, _ => rfl
  | s :: r, p, h => by
    have h1 := resI_size (h (resI bs fs p s) (by simp [resL]))
    show ⟨p, ((resI bs fs p s).enc.length : Int), resI bs fs p s⟩ :: spotsOf (p + (resI bs fs p s).enc.length) (resL bs fs (p + szS s) r) = ⟨p, szS s, resI bs fs p s⟩ :: planS bs fs (p + szS s) r
    rw [h1, planS_spots bs fs r (p + szS s) (fun i hi => h i (by simp [resL, hi]))]
theorem resL_enc (bs : List (List Spot)) (fs : List Int) : ∀ (x : List Spot) (p : Int), (∀ i ∈ resL bs fs p x, i.chk = 0) → ((encAll (resL bs fs p x)).length : Int) = szL x
  | [], p, _ => rfl
  | s :: r, p, h => by
    have h1 := resI_size (h (resI bs fs p s) (by simp [resL]))
    have h2 := resL_enc bs fs r (p + szS s) (fun i hi => h i (by simp [resL, hi]))
    show (((resI bs fs p s).enc ++ encAll (resL bs fs (p + szS s) r)).length : Int) = szS s + szL r
    rw [List.length_append]
    omega
/-- a function's first block, the block behind its last one, its spots -/
def fnA (fs : List Int) (i : Nat) : Nat := (fs.getD i 0).toNat
def fnZ (bs : List (List Spot)) (fs : List Int) (i : Nat) : Nat := (endB bs fs i).toNat
def fnS (bs : List (List Spot)) (fs : List Int) (i : Nat) : List Spot := ((bs.take (fnZ bs fs i)).drop (fnA fs i)).flatten
theorem fn_az {bs : List (List Spot)} {fs : List Int} (h : PlanOk bs fs) {i : Nat} (hi : i < fs.length) : fs[i]? = some (fnA fs i : Int) ∧ endB bs fs i = (fnZ bs fs i : Int) ∧ fnA fs i < fnZ bs fs i ∧ fnZ bs fs i ≤ bs.length := by
  have hx : fs[i]? = some (fs[i]'hi) := List.getElem?_eq_getElem hi
  have hb := h.fb i _ hx
  have e : fs.getD i 0 = fs[i]'hi := by rw [List.getD_eq_getElem?_getD, hx]; rfl
  have ha : (fnA fs i : Int) = fs[i]'hi := by unfold fnA; rw [e]; omega
  have hz : fs[i]'hi < endB bs fs i ∧ endB bs fs i ≤ bs.length := by
    unfold endB
    split
    · rename_i h1
      have hi1 : i + 1 < fs.length := by omega
      have e1 : ((i : Int) + 1).toNat = i + 1 := by omega
      have hx1 : fs[i + 1]? = some (fs[i + 1]'hi1) := List.getElem?_eq_getElem hi1
      have e2 : fs.getD ((i : Int) + 1).toNat 0 = fs[i + 1]'hi1 := by rw [e1, List.getD_eq_getElem?_getD, hx1]; rfl
      rw [e2]
      have := h.fi i _ _ hx hx1
      have := h.fb (i + 1) _ hx1
      omega
    · omega
  have hzz : (fnZ bs fs i : Int) = endB bs fs i := by unfold fnZ; omega
  exact ⟨by rw [hx, ha], hzz.symm, by omega, by omega⟩
theorem flat_split (bs : List (List Spot)) {a z : Nat} (h : a ≤ z) : bs.flatten = (bs.take a).flatten ++ (((bs.take z).drop a).flatten ++ (bs.drop z).flatten) := by
  have e1 : bs.take z = bs.take a ++ (bs.take z).drop a := by
    conv => lhs; rw [← List.take_append_drop a (bs.take z)]
    rw [List.take_take, Nat.min_eq_left h]
  conv => lhs; rw [← List.take_append_drop z bs, e1]
  rw [List.flatten_append, List.flatten_append, List.append_assoc]
theorem atB_nat (bs : List (List Spot)) (k : Nat) : atB bs (k : Int) = szL (bs.take k).flatten := by unfold atB; rw [Int.toNat_natCast]
theorem szL_fn (bs : List (List Spot)) {a z : Nat} (h : a ≤ z) : szL ((bs.take z).drop a).flatten = atB bs z - atB bs a := by
  have e1 : bs.take z = bs.take a ++ (bs.take z).drop a := by
    conv => lhs; rw [← List.take_append_drop a (bs.take z)]
    rw [List.take_take, Nat.min_eq_left h]
  rw [atB_nat, atB_nat]
  have e2 : szL (bs.take z).flatten = szL (bs.take a).flatten + szL ((bs.take z).drop a).flatten := by
    conv => lhs; rw [e1]
    rw [List.flatten_append, szL_app]
  omega
theorem fnAt_is {bs : List (List Spot)} {fs : List Int} (h : PlanOk bs fs) {i : Nat} (hi : i < fs.length) : fnAt bs fs i = ⟨⟨#[102, (48 + i).toUInt8]⟩, atB bs (fnA fs i), szL (fnS bs fs i)⟩ := by
  obtain ⟨h1, h2, h3, h4⟩ := fn_az h hi
  have e : fs.getD i 0 = (fnA fs i : Int) := by rw [List.getD_eq_getElem?_getD, h1]; rfl
  unfold fnAt fnS
  rw [e, szL_fn bs (by omega), ← h2]
  congr 1
  unfold endB
  by_cases hc : i + 1 < fs.length
  · rw [if_pos hc, if_pos (by omega), show ((i : Int) + 1).toNat = i + 1 by omega]
  · rw [if_neg hc, if_neg (by omega), atB_end]
/-- the last spot of a function -/
theorem fnS_last {bs : List (List Spot)} {fs : List Int} (h : PlanOk bs fs) (hin : PlanIn bs fs) {i : Nat} (hi : i < fs.length) : ∃ x s, fnS bs fs i = x ++ [s] ∧ (stopsI s.i = true ∨ s.i.k = 22) := by
  obtain ⟨h1, h2, h3, h4⟩ := fn_az h hi
  obtain ⟨q, hq⟩ : ∃ q, fnZ bs fs i = q + 1 := ⟨fnZ bs fs i - 1, by omega⟩
  have hb : bs[q]? = some (bs[q]'(by omega)) := List.getElem?_eq_getElem _
  have hne := h.ne _ (List.mem_of_getElem? hb)
  obtain ⟨b', s, hbs⟩ : ∃ b' s, bs[q]'(by omega) = b' ++ [s] := by
    rcases List.eq_nil_or_concat (bs[q]'(by omega)) with e | ⟨l, x, e⟩
    · exact absurd e hne
    · exact ⟨l, x, by rw [e, List.concat_eq_append]⟩
  have hs := hin.lst i _ h1 q _ hb (by rw [h2]; omega) (bs[q]'(by omega)).length.pred s (by rw [hbs]; simp) (by rw [hbs]; simp)
  refine ⟨((bs.take q).drop (fnA fs i)).flatten ++ b', s, ?_, hs⟩
  unfold fnS
  rw [hq, List.take_add_one, hb, List.drop_append_of_le_length (by rw [List.length_take]; omega), List.flatten_append]
  simp [hbs]
theorem fn_sweep {bs : List (List Spot)} {fs : List Int} (h : PlanOk bs fs) (hin : PlanIn bs fs) (hk : ∀ i ∈ progI bs fs, i.chk = 0) {i : Nat} (hi : i < fs.length) :
    sweepL (encAll (progI bs fs)) (fnAt bs fs i) = some (planS bs fs (atB bs (fnA fs i)) (fnS bs fs i)) := by
  obtain ⟨h1, h2, h3, h4⟩ := fn_az h hi
  have hsp := flat_split bs (a := fnA fs i) (z := fnZ bs fs i) (by omega)
  have hat := atB_nat bs (fnA fs i)
  have hr : progI bs fs = resL bs fs 0 (bs.take (fnA fs i)).flatten ++ (resL bs fs (atB bs (fnA fs i)) (fnS bs fs i) ++ resL bs fs (atB bs (fnA fs i) + szL (fnS bs fs i)) (bs.drop (fnZ bs fs i)).flatten) := by
    unfold progI
    rw [hsp, resL_app, resL_app, Int.zero_add, ← hat]
    rfl
  rw [hr] at hk
  have hk0 := fun j hj => hk j (List.mem_append.2 (.inl hj))
  have hk1 := fun j hj => hk j (List.mem_append.2 (.inr (List.mem_append.2 (.inl hj))))
  have hl0 := resL_enc bs fs _ 0 hk0
  have hl1 := resL_enc bs fs _ _ hk1
  have hsw := sweepGo_enc (encAll (resL bs fs (atB bs (fnA fs i) + szL (fnS bs fs i)) (bs.drop (fnZ bs fs i)).flatten)) (resL bs fs (atB bs (fnA fs i)) (fnS bs fs i)) (encAll (resL bs fs 0 (bs.take (fnA fs i)).flatten)) (szL (fnS bs fs i)).toNat hk1 (by omega)
  rw [hl0, hl1, ← hat, planS_spots bs fs _ _ hk1] at hsw
  rw [fnAt_is h hi]
  unfold sweepL
  simp only
  have ht : encAll (progI bs fs) = encAll (resL bs fs 0 (bs.take (fnA fs i)).flatten) ++ encAll (resL bs fs (atB bs (fnA fs i)) (fnS bs fs i)) ++ encAll (resL bs fs (atB bs (fnA fs i) + szL (fnS bs fs i)) (bs.drop (fnZ bs fs i)).flatten) := by
    rw [hr]
    simp [encAll]
  rw [ht, hsw]
  simp only
  obtain ⟨x, s, hx, hs⟩ := fnS_last h hin hi
  have hlast : lastOk (planS bs fs (atB bs (fnA fs i)) (fnS bs fs i)) = true := by
    unfold lastOk
    rw [hx, planS_app]
    simp only [planS, List.getLast?_append, List.getLast?_singleton, Option.some_or]
    rcases hs with hs | hs
    · have e : stopsI (resI bs fs (atB bs (fnA fs i) + szL x) s) = stopsI s.i := rfl
      rw [e, hs]
      rfl
    · have e : (resI bs fs (atB bs (fnA fs i) + szL x) s).k = 22 := hs
      rw [e]
      simp
  rw [if_pos hlast]
end Go.Proofs.YtlekjnnofhjgjaaDoor
