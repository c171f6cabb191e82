/- A program recovers: what sweeping finds in it. A program recovers: the owners, the marks. The blocks that the cutting makes, as groups of spots. The blocks of a program: its groups of spots. What a program's flow is. -/
import Derived.Test.YtcdlgjhdbmmomaaGreatDoorPlanR
import Derived.Test.YtcdlgjhdbmmomaaGreatDoorPgmG
import Derived.Test.YtcdlgjhdbmmomaaGreatDoorFlowT
namespace Go.Proofs.YtcdlgjhdbmmomaaGreatDoor
open Go.RowKit
def planS (bs : List (List Spot)) (fs : List Int) : Int → List Spot → List Sp
 | _, [] => []
 | p, s :: r => ⟨p, szS s, resI bs fs p s⟩ :: planS bs fs (p + szS s) r
theorem planS_app (bs : List (List Spot)) (fs : List Int) (y : List Spot) : ∀ (x : List Spot) (p : Int), planS bs fs p (x ++ y) = planS bs fs p x ++ planS bs fs (p + szL x) y
 | [], p => by
  show planS bs fs p y = planS bs fs (p + 0) y; rw [Int.add_zero]
 | s :: r, p => by
  show ⟨p, szS s, resI bs fs p s⟩ :: planS bs fs (p + szS s) (r ++ y) = ⟨p, szS s, resI bs fs p s⟩ :: (planS bs fs (p + szS s) r ++ planS bs fs (p + (szS s + szL r)) y); rw [planS_app bs fs y r, Int.add_assoc]
theorem resL_app (bs : List (List Spot)) (fs : List Int) (y : List Spot) : ∀ (x : List Spot) (p : Int), resL bs fs p (x ++ y) = resL bs fs p x ++ resL bs fs (p + szL x) y
 | [], p => by
  show resL bs fs p y = resL bs fs (p + 0) y; rw [Int.add_zero]
 | s :: r, p => by
  show resI bs fs p s :: resL bs fs (p + szS s) (r ++ y) = resI bs fs p s :: (resL bs fs (p + szS s) r ++ resL bs fs (p + (szS s + szL r)) y); rw [resL_app bs fs y r, Int.add_assoc]
theorem resI_size {bs : List (List Spot)} {fs : List Int} {p : Int} {s : Spot} (h : (resI bs fs p s).chk = 0) : ((resI bs fs p s).enc.length : Int) = szS s := enc_len h
theorem planS_spots (bs : List (List Spot)) (fs : List Int) : ∀ (x : List Spot) (p : Int), (∀ i ∈ resL bs fs p x, i.chk = 0) → spotsOf p (resL bs fs p x) = planS bs fs p x
 | [], p, _ => rfl
 | s :: r, p, h => by
  have h1 := resI_size (h (resI bs fs p s) (by simp [resL])); show ⟨p, ((resI bs fs p s).enc.length : Int), resI bs fs p s⟩ :: spotsOf (p + (resI bs fs p s).enc.length) (resL bs fs (p + szS s) r) = ⟨p, szS s, resI bs fs p s⟩ :: planS bs fs (p + szS s) r; rw [h1, planS_spots bs fs r (p + szS s) (fun i hi => h i (by simp [resL, hi]))]
theorem resL_enc (bs : List (List Spot)) (fs : List Int) : ∀ (x : List Spot) (p : Int), (∀ i ∈ resL bs fs p x, i.chk = 0) → ((encAll (resL bs fs p x)).length : Int) = szL x
 | [], p, _ => rfl
 | s :: r, p, h => by
  have h1 := resI_size (h (resI bs fs p s) (by simp [resL])); have h2 := resL_enc bs fs r (p + szS s) (fun i hi => h i (by simp [resL, hi])); show (((resI bs fs p s).enc ++ encAll (resL bs fs (p + szS s) r)).length : Int) = szS s + szL r; rw [List.length_append]; omega
def fnA (fs : List Int) (i : Nat) : Nat := (fs.getD i 0).toNat
def fnZ (bs : List (List Spot)) (fs : List Int) (i : Nat) : Nat := (endB bs fs i).toNat
def fnS (bs : List (List Spot)) (fs : List Int) (i : Nat) : List Spot := ((bs.take (fnZ bs fs i)).drop (fnA fs i)).flatten
theorem fn_az {bs : List (List Spot)} {fs : List Int} (h : PlanOk bs fs) {i : Nat} (hi : i < fs.length) : fs[i]? = some (fnA fs i : Int) ∧ endB bs fs i = (fnZ bs fs i : Int) ∧ fnA fs i < fnZ bs fs i ∧ fnZ bs fs i ≤ bs.length := by
 have hx : fs[i]? = some (fs[i]'hi) := gE' hi; have hb := h.fb i _ hx; have e : fs.getD i 0 = fs[i]'hi := by rw [List.getD_eq_getElem?_getD, hx]; rfl
 have ha : (fnA fs i : Int) = fs[i]'hi := by unfold fnA; rw [e]; omega
 have hz : fs[i]'hi < endB bs fs i ∧ endB bs fs i ≤ bs.length := by
  unfold endB
  split
  · rename_i h1
    have hi1 : i + 1 < fs.length := by omega
    have e1 : ((i : Int) + 1).toNat = i + 1 := by omega
    have hx1 : fs[i + 1]? = some (fs[i + 1]'hi1) := gE' hi1; have e2 : fs.getD ((i : Int) + 1).toNat 0 = fs[i + 1]'hi1 := by rw [e1, List.getD_eq_getElem?_getD, hx1]; rfl
    rw [e2]; have := h.fi i _ _ hx hx1; have := h.fb (i + 1) _ hx1; omega
  · omega
 have hzz : (fnZ bs fs i : Int) = endB bs fs i := by unfold fnZ; omega
 exact ⟨by rw [hx, ha], hzz.symm, by omega, by omega⟩
theorem flat_split (bs : List (List Spot)) {a z : Nat} (h : a ≤ z) : bs.flatten = (bs.take a).flatten ++ (((bs.take z).drop a).flatten ++ (bs.drop z).flatten) := by
 have e1 : bs.take z = bs.take a ++ (bs.take z).drop a := by
  conv => lhs; rw [← List.take_append_drop a (bs.take z)]
  rw [List.take_take, Nat.min_eq_left h]
 conv => lhs; rw [← List.take_append_drop z bs, e1]
 rw [List.flatten_append, List.flatten_append, List.append_assoc]
theorem atB_nat (bs : List (List Spot)) (k : Nat) : atB bs (k : Int) = szL (bs.take k).flatten := by unfold atB; rw [Int.toNat_natCast]
theorem szL_fn (bs : List (List Spot)) {a z : Nat} (h : a ≤ z) : szL ((bs.take z).drop a).flatten = atB bs z - atB bs a := by
 have e1 : bs.take z = bs.take a ++ (bs.take z).drop a := by
  conv => lhs; rw [← List.take_append_drop a (bs.take z)]
  rw [List.take_take, Nat.min_eq_left h]
 rw [atB_nat, atB_nat]
 have e2 : szL (bs.take z).flatten = szL (bs.take a).flatten + szL ((bs.take z).drop a).flatten := by
  conv => lhs; rw [e1]
  rw [List.flatten_append, szL_app]
 omega
theorem fnAt_is {bs : List (List Spot)} {fs : List Int} (h : PlanOk bs fs) {i : Nat} (hi : i < fs.length) : fnAt bs fs i = ⟨⟨#[102, (48 + i).toUInt8]⟩, atB bs (fnA fs i), szL (fnS bs fs i)⟩ := by
 obtain ⟨h1, h2, h3, h4⟩ := fn_az h hi; have e : fs.getD i 0 = (fnA fs i : Int) := by rw [List.getD_eq_getElem?_getD, h1]; rfl
 unfold fnAt fnS; rw [e, szL_fn bs (by omega), ← h2]
 congr 1
 unfold endB
 by_cases hc : i + 1 < fs.length
 · rw [if_pos hc, if_pos (by omega), show ((i : Int) + 1).toNat = i + 1 by omega]
 · rw [if_neg hc, if_neg (by omega), atB_end]
theorem fnS_last {bs : List (List Spot)} {fs : List Int} (h : PlanOk bs fs) (hin : PlanIn bs fs) {i : Nat} (hi : i < fs.length) : ∃ x s, fnS bs fs i = x ++ [s] ∧ (stopsI s.i = true ∨ s.i.k = 22) := by
 obtain ⟨h1, h2, h3, h4⟩ := fn_az h hi; obtain ⟨q, hq⟩ : ∃ q, fnZ bs fs i = q + 1 := ⟨fnZ bs fs i - 1, by omega⟩
 have hb : bs[q]? = some (bs[q]'(by omega)) := gE' _; have hne := h.ne _ (mG' hb)
 obtain ⟨b', s, hbs⟩ : ∃ b' s, bs[q]'(by omega) = b' ++ [s] := by
  rcases List.eq_nil_or_concat (bs[q]'(by omega)) with e | ⟨l, x, e⟩
  · exact absurd e hne
  · exact ⟨l, x, by rw [e, List.concat_eq_append]⟩
 have hs := hin.lst i _ h1 q _ hb (by rw [h2]; omega) (bs[q]'(by omega)).length.pred s (by rw [hbs]; simp) (by rw [hbs]; simp); refine ⟨((bs.take q).drop (fnA fs i)).flatten ++ b', s, ?_, hs⟩; unfold fnS; rw [hq, List.take_add_one, hb, List.drop_append_of_le_length (by rw [List.length_take]; omega), List.flatten_append]; simp [hbs]
theorem fn_sweep {bs : List (List Spot)} {fs : List Int} (h : PlanOk bs fs) (hin : PlanIn bs fs) (hk : ∀ i ∈ progI bs fs, i.chk = 0) {i : Nat} (hi : i < fs.length) :
 sweepL (encAll (progI bs fs)) (fnAt bs fs i) = some (planS bs fs (atB bs (fnA fs i)) (fnS bs fs i)) := by
 obtain ⟨h1, h2, h3, h4⟩ := fn_az h hi; have hsp := flat_split bs (a := fnA fs i) (z := fnZ bs fs i) (by omega); have hat := atB_nat bs (fnA fs i)
 have hr : progI bs fs = resL bs fs 0 (bs.take (fnA fs i)).flatten ++ (resL bs fs (atB bs (fnA fs i)) (fnS bs fs i) ++ resL bs fs (atB bs (fnA fs i) + szL (fnS bs fs i)) (bs.drop (fnZ bs fs i)).flatten) := by
  unfold progI; rw [hsp, resL_app, resL_app, Int.zero_add, ← hat]
  rfl
 rw [hr] at hk; have hk0 := fun j hj => hk j (List.mem_append.2 (.inl hj))
 have hk1 := fun j hj => hk j (List.mem_append.2 (.inr (List.mem_append.2 (.inl hj))))
 have hl0 := resL_enc bs fs _ 0 hk0; have hl1 := resL_enc bs fs _ _ hk1; have hsw := sweepGo_enc (encAll (resL bs fs (atB bs (fnA fs i) + szL (fnS bs fs i)) (bs.drop (fnZ bs fs i)).flatten)) (resL bs fs (atB bs (fnA fs i)) (fnS bs fs i)) (encAll (resL bs fs 0 (bs.take (fnA fs i)).flatten)) (szL (fnS bs fs i)).toNat hk1 (by omega); rw [hl0, hl1, ← hat, planS_spots bs fs _ _ hk1] at hsw; rw [fnAt_is h hi]; unfold sweepL; simp only
 have ht : encAll (progI bs fs) = encAll (resL bs fs 0 (bs.take (fnA fs i)).flatten) ++ encAll (resL bs fs (atB bs (fnA fs i)) (fnS bs fs i)) ++ encAll (resL bs fs (atB bs (fnA fs i) + szL (fnS bs fs i)) (bs.drop (fnZ bs fs i)).flatten) := by
  rw [hr]; simp [encAll]
 rw [ht, hsw]; simp only; obtain ⟨x, s, hx, hs⟩ := fnS_last h hin hi
 have hlast : lastOk (planS bs fs (atB bs (fnA fs i)) (fnS bs fs i)) = true := by
  unfold lastOk; rw [hx, planS_app]; simp only [planS, List.getLast?_append, List.getLast?_singleton, Option.some_or]; rcases hs with hs | hs
  · have e : stopsI (resI bs fs (atB bs (fnA fs i) + szL x) s) = stopsI s.i := rfl; rw [e, hs]
    rfl
  · have e : (resI bs fs (atB bs (fnA fs i) + szL x) s).k = 22 := hs; rw [e]; simp
 rw [if_pos hlast]
theorem planS_mem {bs : List (List Spot)} {fs : List Int} {s : Sp} : ∀ {l : List Spot} {p : Int}, s ∈ planS bs fs p l → ∃ x q y, l = x ++ q :: y ∧ s = ⟨p + szL x, szS q, resI bs fs (p + szL x) q⟩
 | [], p, h => by cases h
 | q :: r, p, h => by
  rcases List.mem_cons.1 (show s ∈ ⟨p, szS q, resI bs fs p q⟩ :: planS bs fs (p + szS q) r from h) with rfl | h
  · exact ⟨[], q, r, rfl, by simp [szL]⟩
  · obtain ⟨x, q', y, rfl, rfl⟩ := planS_mem h; have e : p + szS q + szL x = p + szL (q :: x) := by simp only [szL]; omega
    exact ⟨q :: x, q', y, rfl, by rw [e]⟩
theorem fnS_mem {bs : List (List Spot)} {fs : List Int} {i : Nat} {q : Spot} (h : q ∈ fnS bs fs i) : ∃ (k : Nat) (b : List Spot), bs[k]? = some b ∧ fnA fs i ≤ k ∧ k < fnZ bs fs i ∧ q ∈ b := by
 unfold fnS at h; obtain ⟨b, hb, hq⟩ := List.mem_flatten.1 h; obtain ⟨j, hj⟩ := List.getElem?_of_mem hb; rw [List.getElem?_drop, List.getElem?_take] at hj
 split at hj
 · exact ⟨_, b, hj, by omega, by omega, hq⟩
 · cases hj
theorem fnS_ok {bs : List (List Spot)} {fs : List Int} (h : PlanOk bs fs) {i : Nat} : ∀ q ∈ fnS bs fs i, SpotOk bs.length fs.length q := by
 intro q hq; obtain ⟨k, b, h1, -, -, h2⟩ := fnS_mem hq; exact h.ok b (mG' h1) q h2
theorem fn_place {bs : List (List Spot)} {fs : List Int} (h : PlanOk bs fs) {i : Nat} (hi : i < fs.length) {s : Sp} (hs : s ∈ planS bs fs (atB bs (fnA fs i)) (fnS bs fs i)) : atB bs (fnA fs i) ≤ s.p ∧ s.p + s.z ≤ atB bs (fnZ bs fs i) ∧ 1 ≤ s.z := by
 obtain ⟨x, q, y, hx, rfl⟩ := planS_mem hs; have hok := fnS_ok h (i := i); have h0 := szL_bd x (fun u hu => hok u (by rw [hx]; simp [hu])); have h1 := szL_bd y (fun u hu => hok u (by rw [hx]; simp [hu])); have h2 := szS_bd (hok q (by rw [hx]; simp)); have h3 := szL_fn bs (a := fnA fs i) (z := fnZ bs fs i) (by have := fn_az h hi; omega); have h4 : szL (fnS bs fs i) = szL x + (szS q + szL y) := by rw [hx, szL_app]; rfl
 unfold fnS at h4; simp only; omega
theorem fn_order {bs : List (List Spot)} {fs : List Int} (h : PlanOk bs fs) {i : Nat} : ∀ d, i + 1 + d < fs.length → fnZ bs fs i ≤ fnA fs (i + 1 + d)
 | 0, hd => by
  obtain ⟨h1, h2, h3, h4⟩ := fn_az h (i := i) (by omega); obtain ⟨k1, k2, k3, k4⟩ := fn_az h (i := i + 1 + 0) hd
  have e : endB bs fs i = (fnA fs (i + 1 + 0) : Int) := by
   unfold endB; rw [if_pos (by omega), show ((i : Int) + 1).toNat = i + 1 + 0 by omega, List.getD_eq_getElem?_getD, k1]
   rfl
  omega
 | d + 1, hd => by
  have ih := fn_order h (i := i) d (by omega); obtain ⟨k1, k2, k3, k4⟩ := fn_az h (i := i + 1 + d) (by omega); obtain ⟨j1, j2, j3, j4⟩ := fn_az h (i := i + 1 + (d + 1)) hd; have := h.fi (i + 1 + d) _ _ k1 j1; omega
theorem atB_le2 {bs : List (List Spot)} {fs : List Int} (h : PlanOk bs fs) {a b : Nat} (hab : a ≤ b) (hb : b ≤ bs.length) : atB bs a ≤ atB bs b := by
 rcases Nat.lt_or_ge a b with h1 | h1
 · have := atB_lt2 h (a := a) (b := b) (by omega) (by omega) (by omega); omega
 · rw [show a = b by omega]; exact Int.le_refl _
def allP (bs : List (List Spot)) (fs : List Int) : List (List Sp) := (List.range fs.length).map fun i => planS bs fs (atB bs (fnA fs i)) (fnS bs fs i)
theorem allP_at {bs : List (List Spot)} {fs : List Int} {i : Nat} {l : List Sp} (h : (allP bs fs)[i]? = some l) : i < fs.length ∧ l = planS bs fs (atB bs (fnA fs i)) (fnS bs fs i) := by
 unfold allP at h; rw [List.getElem?_map, Option.map_eq_some_iff] at h; obtain ⟨x, hx, rfl⟩ := h; obtain ⟨h1, h2⟩ := List.getElem?_eq_some_iff.1 hx; rw [List.length_range] at h1; rw [List.getElem_range] at h2; subst h2; exact ⟨h1, rfl⟩
theorem allP_is {bs : List (List Spot)} {fs : List Int} {i : Nat} (h : i < fs.length) : (allP bs fs)[i]? = some (planS bs fs (atB bs (fnA fs i)) (fnS bs fs i)) := by
 unfold allP; rw [List.getElem?_map, gE' (by simpa using h), List.getElem_range]
 rfl
theorem sweepAll_map {α : Type} (text : List Int) (g : α → FnD) (k : α → List Sp) : ∀ (l : List α), (∀ x ∈ l, sweepL text (g x) = some (k x)) → sweepAll text (l.map g) = some (l.map k)
 | [], _ => rfl
 | x :: r, h => by
  show (sweepL text (g x)).bind (fun l => (sweepAll text (r.map g)).map (l :: ·)) = _; rw [h x (by simp), sweepAll_map text g k r fun y hy => h y (by simp [hy])]
  rfl
theorem prog_sweep {bs : List (List Spot)} {fs : List Int} (h : PlanOk bs fs) (hin : PlanIn bs fs) (hk : ∀ i ∈ progI bs fs, i.chk = 0) : sweepAll (encAll (progI bs fs)) (fnL bs fs) = some (allP bs fs) := by
 unfold fnL allP; exact sweepAll_map _ _ _ _ fun i hi => fn_sweep h hin hk (by simpa using hi)
theorem foldUp_at (g : Int) (q : Int) : ∀ (l : List Sp) (own : Int → Option Int), ((∃ s ∈ l, s.p = q) ∨ own q = some g) → l.foldl (fun o s => upF o s.p (some g)) own q = some g
 | [], own, h => by
  rcases h with ⟨s, hs, -⟩ | h
  · cases hs
  · exact h
 | a :: r, own, h => by
  refine foldUp_at g q r _ ?_
  by_cases e : a.p = q
  · right
    show (if q = a.p then some g else own q) = some g; rw [if_pos e.symm]
  · rcases h with ⟨s, hs, h2⟩ | h
    · rcases List.mem_cons.1 hs with rfl | hs
      · exact absurd h2 e
      · exact .inl ⟨s, hs, h2⟩
    · right
      show (if q = a.p then some g else own q) = some g
      split
      · rfl
      · exact h
theorem finOwn_at (q : Int) : ∀ (ls : List (List Sp)) (f : Int) (own : Int → Option Int) (x : Int), own q = some x → (∀ (j : Nat) (l : List Sp), ls[j]? = some l → ∀ s ∈ l, s.p = q → x = f + j) → finOwn ls f own q = some x
 | [], f, own, x, h, _ => h
 | a :: r, f, own, x, h, hu => by
  refine finOwn_at q r (f + 1) _ x ?_ (fun j l hl s hs e => ?_)
  · by_cases e : ∃ s ∈ a, s.p = q
    · obtain ⟨s, hs, hq⟩ := e; have := hu 0 a rfl s hs hq; have h2 := foldUp_at f q a own (.inl ⟨s, hs, hq⟩); rw [h2, this]
      congr 1
      omega
    · rcases hh : a.foldl (fun o s => upF o s.p (some f)) own q with _ | y
      · have : ∀ (l : List Sp) (own : Int → Option Int), own q = some x → (l.foldl (fun o s => upF o s.p (some f)) own q).isSome = true := by
         intro l
         induction l with
         | nil => intro own h; rw [List.foldl_nil, h]; rfl
         | cons s r ih =>
          intro own h
          by_cases es : s.p = q
          · have := foldUp_at f q (s :: r) own (.inl ⟨s, by simp, es⟩); rw [this]
            rfl
          · refine ih _ ?_; show (if q = s.p then some f else own q) = some x; rw [if_neg (fun e => es e.symm), h]
        have h2 := this a own h; rw [hh] at h2
        cases h2
      · rcases foldUp_in f q y a own hh with ⟨-, hs⟩ | h2
        · exact absurd hs e
        · rw [h] at h2; exact hh.trans h2.symm
  · have := hu (j + 1) l (by rw [List.getElem?_cons_succ]; exact hl) s hs e; omega
theorem finOwn_first (q : Int) : ∀ (ls : List (List Sp)) (f : Int) (own : Int → Option Int) (j : Nat) (l : List Sp), ls[j]? = some l → (∃ s ∈ l, s.p = q) → (∀ (j' : Nat) (l' : List Sp), ls[j']? = some l' → ∀ s ∈ l', s.p = q → j = j') → finOwn ls f own q = some (f + j)
 | [], f, own, j, l, h, _, _ => by simp at h
 | a :: r, f, own, j, l, h, hs, hu => by
  cases j with
  | zero =>
   simp only [List.getElem?_cons_zero, Option.some.injEq] at h; subst h; refine finOwn_at q r (f + 1) _ _ ?_ (fun j' l' hl' s hs' e => ?_)
   · rw [foldUp_at f q a own (.inl hs)]; simp
   · have := hu (j' + 1) l' (by rw [List.getElem?_cons_succ]; exact hl') s hs' e; omega
  | succ j =>
   rw [List.getElem?_cons_succ] at h
   have ih := finOwn_first q r (f + 1) (a.foldl (fun o s => upF o s.p (some f)) own) j l h hs (fun j' l' hl' s hs' e => by
    have := hu (j' + 1) l' (by rw [List.getElem?_cons_succ]; exact hl') s hs' e
    omega)
   show finOwn r (f + 1) _ q = _; rw [ih]
   congr 1
   omega
theorem own_fn {bs : List (List Spot)} {fs : List Int} (h : PlanOk bs fs) {i : Nat} (hi : i < fs.length) {s : Sp} (hs : s ∈ planS bs fs (atB bs (fnA fs i)) (fnS bs fs i)) : ownA (allP bs fs) s.p = some (i : Int) := by
 have h1 := finOwn_first s.p (allP bs fs) 0 (fun _ => none) i _ (allP_is hi) ⟨s, hs, rfl⟩ (fun j l hl t ht e => by
  obtain ⟨hj, rfl⟩ := allP_at hl; have p1 := fn_place h hi hs; have p2 := fn_place h hj ht; have a1 := fn_az h hi; have a2 := fn_az h hj; rcases Nat.lt_trichotomy i j with hij | hij | hij
  · have := fn_order h (i := i) (j - i - 1) (by omega); rw [show i + 1 + (j - i - 1) = j by omega] at this; have := atB_le2 h this (by omega); omega
  · exact hij
  · have := fn_order h (i := j) (i - j - 1) (by omega); rw [show j + 1 + (i - j - 1) = i by omega] at this; have := atB_le2 h this (by omega)
    omega)
 unfold ownA; rw [h1]; simp
theorem block_spot {bs : List (List Spot)} {fs : List Int} (h : PlanOk bs fs) {i : Nat} (hi : i < fs.length) {k : Nat} (h1 : fnA fs i ≤ k) (h2 : k < fnZ bs fs i) : ∃ s ∈ planS bs fs (atB bs (fnA fs i)) (fnS bs fs i), s.p = atB bs (k : Int) := by
 obtain ⟨a1, a2, a3, a4⟩ := fn_az h hi; have hb : bs[k]? = some (bs[k]'(by omega)) := gE' _; have hne := h.ne _ (mG' hb); obtain ⟨q, r, hq⟩ : ∃ q r, bs[k]'(by omega) = q :: r := List.exists_cons_of_ne_nil hne
 have e : fnS bs fs i = ((bs.take k).drop (fnA fs i)).flatten ++ (q :: (r ++ ((bs.take (fnZ bs fs i)).drop (k + 1)).flatten)) := by
  unfold fnS
  have e1 : (bs.take (fnZ bs fs i)).drop (fnA fs i) = (bs.take k).drop (fnA fs i) ++ (bs.take (fnZ bs fs i)).drop k := by
   have e2 : bs.take (fnZ bs fs i) = bs.take k ++ (bs.take (fnZ bs fs i)).drop k := by
    conv => lhs; rw [← List.take_append_drop k (bs.take (fnZ bs fs i))]
    rw [List.take_take, Nat.min_eq_left (by omega)]
   conv => lhs; rw [e2]
   rw [List.drop_append_of_le_length (by rw [List.length_take]; omega)]
  have e3 : (bs.take (fnZ bs fs i)).drop k = (q :: r) :: (bs.take (fnZ bs fs i)).drop (k + 1) := by
   rw [List.drop_eq_getElem_cons (by rw [List.length_take]; omega)]
   congr 1
   rw [List.getElem_take]; exact hq
  rw [e1, List.flatten_append, e3]
  rfl
 have hat := szL_fn bs (a := fnA fs i) (z := k) h1; refine ⟨⟨atB bs (k : Int), szS q, resI bs fs (atB bs (k : Int)) q⟩, ?_, rfl⟩; rw [e, planS_app]; apply List.mem_append.2
 right
 rw [show atB bs (fnA fs i) + szL ((bs.take k).drop (fnA fs i)).flatten = atB bs (k : Int) by omega]; exact List.mem_cons_self
theorem own_block {bs : List (List Spot)} {fs : List Int} (h : PlanOk bs fs) {i : Nat} (hi : i < fs.length) {k : Int} (h1 : (fnA fs i : Int) ≤ k) (h2 : k < (fnZ bs fs i : Int)) : ownA (allP bs fs) (atB bs k) = some (i : Int) := by
 obtain ⟨q, rfl⟩ := Int.eq_ofNat_of_zero_le (show 0 ≤ k by omega); obtain ⟨s, hs, e⟩ := block_spot h hi (k := q) (by omega) (by omega); rw [← e]; exact own_fn h hi hs
theorem ownGo_is (bs : List (List Spot)) (fs : List Int) (t : Int) : ∀ (F : Nat) (o : Int), ownGo bs fs t F = some o → ∀ i, i < F → ((bs.take (fnZ bs fs i)).drop (fnA fs i)).any (endsT · t) = true → o = i
 | 0, o, h, i, hi, _ => by omega
 | F + 1, o, h, i, hi, hb => by
  simp only [ownGo] at h
  split at h
  · cases h
  · rename_i o' ho'
    rcases Nat.lt_or_ge i F with hl | hl
    · have := ownGo_is bs fs t F o' ho' i hl hb
      split at h
      · rw [if_pos (by omega)] at h
        cases h
      · simp only [Option.some.injEq] at h; omega
    · have : i = F := by omega
      subst this; have hb' : ((bs.take (endB bs fs i).toNat).drop (fs.getD i 0).toNat).any (endsT · t) = true := hb; rw [if_pos hb'] at h
      split at h
      · cases h
      · simp only [Option.some.injEq] at h; omega
theorem tab_own {bs : List (List Spot)} {fs : List Int} (h : PlanOk bs fs) (L : List RawI) (t : Nat) {x : Int} (hx : x ∈ tabAt bs fs L t) : 0 ≤ ownerF bs fs t ∧ ownA (allP bs fs) x = some (ownerF bs fs t) := by
 unfold tabAt at hx
 split at hx
 · rename_i h0
   refine ⟨h0, ?_⟩; have hb := owner_bd bs fs t; obtain ⟨o, ho⟩ := Int.eq_ofNat_of_zero_le h0; rw [ho] at hx hb ⊢; have hi : o < fs.length := by omega
   obtain ⟨a1, a2, a3, a4⟩ := fn_az h hi; obtain ⟨j, -, rfl⟩ := List.mem_map.1 hx; have e : fs.getD ((o : Nat) : Int).toNat 0 = (fnA fs o : Int) := by rw [Int.toNat_natCast, List.getD_eq_getElem?_getD, a1]; rfl
   rw [e, a2]; have hp := pickL_bd (rawAt L (t + j)).a ((fnZ bs fs o : Int) - fnA fs o) (by omega); exact own_block h hi (by omega) (by omega)
 · cases hx
theorem tabsLd_some (own : Int → Option Int) : ∀ (l : List Int) (ld : Int → Bool), (∀ x ∈ l, (own x).isSome = true) → ∃ ld', tabsLd own l ld = some ld'
 | [], ld, _ => ⟨ld, rfl⟩
 | x :: r, ld, h => by
  obtain ⟨ld', e⟩ := tabsLd_some own r (upF ld x true) fun y hy => h y (by simp [hy])
  refine ⟨ld', ?_⟩; show (if (own x).isSome = true then tabsLd own r (upF ld x true) else none) = _; rw [if_pos (h x (by simp)), e]
theorem markGo_some {m : Img} {own : Int → Option Int} {f : Int} : ∀ (l : List Sp) (ld : Int → Bool), (∀ s ∈ l, ∀ ld, ∃ ld', markS m own f s ld = some ld') → ∃ ld', markGo m own f l ld = some ld'
 | [], ld, _ => ⟨ld, rfl⟩
 | s :: r, ld, h => by
  obtain ⟨l1, e1⟩ := h s (by simp) ld; obtain ⟨l2, e2⟩ := markGo_some r l1 fun t ht => h t (by simp [ht])
  refine ⟨l2, ?_⟩; show (markS m own f s ld).bind (markGo m own f r) = _; rw [e1]; exact e2
theorem markAll_some {m : Img} {own : Int → Option Int} : ∀ (l : List (FnD × List Sp)) (f : Int) (ld : Int → Bool), (∀ (j : Nat) (x : FnD × List Sp), l[j]? = some x → ∀ ld, ∃ ld', markGo m own (f + j) x.2 ld = some ld') → ∃ ld', markAll m own l f ld = some ld'
 | [], f, ld, _ => ⟨ld, rfl⟩
 | x :: r, f, ld, h => by
  obtain ⟨l1, e1⟩ := h 0 x rfl (upF ld x.1.start true)
  obtain ⟨l2, e2⟩ := markAll_some r (f + 1) l1 fun j y hy ld => by
   have := h (j + 1) y (by rw [List.getElem?_cons_succ]; exact hy) ld; rw [show f + 1 + (j : Int) = f + ((j + 1 : Nat) : Int) by omega]; exact this
  refine ⟨l2, ?_⟩; show (markGo m own f x.2 (upF ld x.1.start true)).bind (markAll m own r (f + 1)) = _; rw [show f + ((0 : Nat) : Int) = f by omega] at e1; rw [e1]; exact e2
theorem mark_plan {bs : List (List Spot)} {fs : List Int} (h : PlanOk bs fs) (hin : PlanIn bs fs) (L : List RawI) {i : Nat} (hi : i < fs.length) {s : Sp} (hs : s ∈ planS bs fs (atB bs (fnA fs i)) (fnS bs fs i)) (ld : Int → Bool) :
 ∃ ld', markS (imgOf bs fs L) (ownA (allP bs fs)) i s ld = some ld' := by
 obtain ⟨a1, a2, a3, a4⟩ := fn_az h hi; obtain ⟨x, q, y, hx, rfl⟩ := planS_mem hs; have hq : q ∈ fnS bs fs i := by rw [hx]; simp
 obtain ⟨k, b, hb, k1, k2, hqb⟩ := fnS_mem hq; obtain ⟨j, hj⟩ := List.getElem?_of_mem hqb; obtain ⟨c1, c2, c3, c4, c5, c6, c7⟩ := fnS_ok h q hq; obtain ⟨p, hp⟩ := ex' (atB bs (fnA fs i) + szL x)
 rw [hp]; have ek : (resI bs fs p q).k = q.i.k := rfl; unfold markS; simp only
 by_cases g1 : (branchI (resI bs fs p q) || (resI bs fs p q).k == 22) = true
 · rw [if_pos g1]
   have hk18 : 18 ≤ q.i.k ∧ q.i.k ≤ 22 := by
    rw [Bool.or_eq_true, beq_iff_eq, ek] at g1; unfold branchI at g1; rw [Bool.and_eq_true, decide_eq_true_eq, decide_eq_true_eq, ek] at g1; omega
   have hblk : 0 ≤ q.blk := by
    rcases Int.lt_or_le q.blk 0 with hn | hn
    · rcases Int.lt_or_le q.fn 0 with hf | hf
      · have := c7 hn hf; omega
      · have := (c6 hf).1; omega
    · exact hn
   have hfn : q.fn = -1 := (c5 hblk).2.2.2
   have hn : (resI bs fs p q).n = atB bs q.blk - p := by
    show (if 0 ≤ q.fn then _ else if 0 ≤ q.blk then atB bs q.blk - p else q.i.n) = _; rw [if_neg (by omega), if_pos hblk]
   have hto := hin.inn i _ a1 k b hb (by omega) (by rw [a2]; omega) j q hj hblk; rw [a2] at hto; rw [hn, show p + (atB bs q.blk - p) = atB bs q.blk by omega, own_block h hi hto.1 hto.2, if_pos (by simp)]; exact ⟨_, rfl⟩
 · rw [if_neg g1]
   by_cases g2 : stopsI (resI bs fs p q) = true
   · rw [if_pos g2]
     by_cases g3 : q.i.k = 24
     · have hblk : q.blk = -1 := by
        rcases Int.lt_or_le q.blk 0 with hn | hn
        · omega
        · have := (c5 hn)
          omega
       have hfn : q.fn = -1 := by
        rcases Int.lt_or_le q.fn 0 with hn | hn
        · omega
        · have := (c6 hn).1; omega
       have hn : (resI bs fs p q).n = q.i.n := by
        show (if 0 ≤ q.fn then _ else if 0 ≤ q.blk then atB bs q.blk - p else q.i.n) = _; rw [if_neg (by omega), if_neg (by omega)]
       have hn0 := (chk_n c1).2 g3; obtain ⟨t, ht⟩ := Int.eq_ofNat_of_zero_le hn0; rw [ek, hn, ht, Int.toNat_natCast]; rw [if_neg]
       · exact ⟨_, rfl⟩
       · intro hc; rw [Bool.and_eq_true, Bool.and_eq_true] at hc; obtain ⟨⟨-, hc1⟩, hc2⟩ := hc; rw [decide_eq_true_eq] at hc1
         have ht3 : t < 3 := by
          have e : (imgOf bs fs L).tables.length = 3 := by simp [imgOf, tabL]
          rw [e] at hc1; omega
         obtain ⟨v, hv, hv2⟩ := List.any_eq_true.1 hc2
         have e : (imgOf bs fs L).tables.getD t [] = tabAt bs fs L t := by
          show ((List.range 3).map (tabAt bs fs L)).getD t [] = _; rw [List.getD_eq_getElem?_getD, List.getElem?_map, gE' (by simpa using ht3), List.getElem_range]
          rfl
         rw [e] at hv; obtain ⟨o1, o2⟩ := tab_own h L t hv
         have hend : ((bs.take (fnZ bs fs i)).drop (fnA fs i)).any (endsT · (t : Int)) = true := by
          rw [List.any_eq_true]; refine ⟨b, ?_, ?_⟩
          · refine mG' (i := k - fnA fs i) ?_; rw [List.getElem?_drop, show fnA fs i + (k - fnA fs i) = k by omega, List.getElem?_take, if_pos k2, hb]
          · have hjl := (List.getElem?_eq_some_iff.1 hj).1
            have hlast : j + 1 = b.length := by
             rcases Nat.lt_or_ge (j + 1) b.length with hl | hl
             · have := hin.mid k b hb j q hl hj; omega
             · omega
            rw [endsT_last hlast.symm hj, g3, ht]; simp
         have howner : ownerF bs fs (t : Int) = (i : Int) := by
          unfold ownerF at o1 ⊢; rcases hg : ownGo bs fs (t : Int) fs.length with _ | o
          · rw [hg] at o1; simp only [Option.getD_none] at o1; omega
          · exact ownGo_is bs fs (t : Int) fs.length o hg i hi hend
         rw [o2, howner] at hv2; simp at hv2
     · rw [if_neg]
       · exact ⟨_, rfl⟩
       · intro hc; rw [Bool.and_eq_true, Bool.and_eq_true, beq_iff_eq, ek] at hc; exact g3 hc.1.1
   · rw [if_neg g2]
     by_cases g3 : q.i.k = 23
     · rw [ek, if_pos g3]
       have hfn : 0 ≤ q.fn := by
        rcases Int.lt_or_le q.fn 0 with hn | hn
        · rcases Int.lt_or_le q.blk 0 with hb0 | hb0
          · have := c7 hb0 hn; omega
          · have := c5 hb0; omega
        · exact hn
       have hn : (resI bs fs p q).n = atB bs (fs.getD q.fn.toNat 0) - p := by
        show (if 0 ≤ q.fn then atB bs (fs.getD q.fn.toNat 0) - p else _) = _; rw [if_pos hfn]
       rw [hn, show p + (atB bs (fs.getD q.fn.toNat 0) - p) = atB bs (fs.getD q.fn.toNat 0) by omega, if_pos]
       · exact ⟨_, rfl⟩
       · rw [List.any_eq_true]; refine ⟨fnAt bs fs q.fn.toNat, ?_, ?_⟩
         · show fnAt bs fs q.fn.toNat ∈ (List.range fs.length).map (fnAt bs fs); exact List.mem_map_of_mem (by rw [List.mem_range]; omega)
         · simp [fnAt]
     · rw [ek, if_neg g3]; exact ⟨_, rfl⟩
theorem prog_rec {bs : List (List Spot)} {fs : List Int} (h : PlanOk bs fs) (hin : PlanIn bs fs) (hk : ∀ i ∈ progI bs fs, i.chk = 0) (L : List RawI) :
 ∃ ld0 ld, sweepAll (imgOf bs fs L).text (imgOf bs fs L).funcs = some (allP bs fs) ∧ tabsLd (ownA (allP bs fs)) (imgOf bs fs L).tables.flatten (fun _ => false) = some ld0 ∧
  markAll (imgOf bs fs L) (ownA (allP bs fs)) ((imgOf bs fs L).funcs.zip (allP bs fs)) 0 ld0 = some ld := by
 have h1 := prog_sweep h hin hk
 obtain ⟨ld0, h2⟩ := tabsLd_some (ownA (allP bs fs)) (imgOf bs fs L).tables.flatten (fun _ => false) (fun x hx => by
  obtain ⟨t, ht, hxt⟩ := List.mem_flatten.1 hx; obtain ⟨q, -, rfl⟩ := List.mem_map.1 (show t ∈ (List.range 3).map (tabAt bs fs L) from ht); rw [(tab_own h L q hxt).2]
  rfl)
 obtain ⟨ld, h3⟩ := markAll_some (m := imgOf bs fs L) (own := ownA (allP bs fs)) ((imgOf bs fs L).funcs.zip (allP bs fs)) 0 ld0 (fun j x hx ld => by
  obtain ⟨f, l⟩ := x
  have hl : (allP bs fs)[j]? = some l := by
   rw [List.getElem?_zip_eq_some] at hx; exact hx.2
  obtain ⟨hj, rfl⟩ := allP_at hl; rw [Int.zero_add]
  exact markGo_some _ ld fun s hs ld => mark_plan h hin L hj hs ld)
 exact ⟨ld0, ld, h1, h2, h3⟩
theorem IsPgm.rec {l : List RawI} {m : Img} (h : IsPgm l m) : ∃ d, recL m = some d := by
 obtain ⟨bs', h1, h2, h3, rfl⟩ := h; have hin : PlanIn bs' _ := (progP_in l).same h2; obtain ⟨ld0, ld, a1, a2, a3⟩ := prog_rec h1 hin h3 (progL l); exact ⟨_, rec_some a1 a2 a3⟩
theorem IsPgm.recE {l : List RawI} {m : Img} (h : IsPgm l m) : recE m = 0 := by
 obtain ⟨d, hd⟩ := h.rec; have ht := h.text; unfold Go.Proofs.YtcdlgjhdbmmomaaGreatDoor.recE; rw [h.check, if_neg (by simp), if_neg (by omega), hd]
 rfl
abbrev FSp := Int × Sp
def blkOf (m : Img) : List FSp → BlkD
 | [] => newB 0 0
 | x :: r => (x :: r).foldl (fun b y => addB m y.2 b) (newB x.1 x.2.p)
theorem blkOf_snoc (m : Img) {g : List FSp} (h : g ≠ []) (x : FSp) : blkOf m (g ++ [x]) = addB m x.2 (blkOf m g) := by
 cases g with
 | nil => exact absurd rfl h
 | cons y r =>
  show ((y :: r) ++ [x]).foldl (fun b y => addB m y.2 b) (newB y.1 y.2.p) = _; rw [List.foldl_append]
  rfl
def cut1 (m : Img) (ld : Int → Bool) (c : CutD) (x : FSp) : CutD := cutS m ld x.1 c x.2
def tagS : Int → List (List Sp) → List FSp
 | _, [] => []
 | f, l :: r => l.map (fun s => (f, s)) ++ tagS (f + 1) r
theorem finCut_tag (m : Img) (ld : Int → Bool) (f : Int) : ∀ (l : List Sp) (c : CutD), finCut m ld f l c = (l.map fun s => (f, s)).foldl (cut1 m ld) c
 | [], _ => rfl
 | s :: r, c => finCut_tag m ld f r (cutS m ld f c s)
theorem cutAll_tag (m : Img) (ld : Int → Bool) : ∀ (ls : List (List Sp)) (f : Int) (c : CutD) (fs : List Int), (cutAll m ld ls f c fs).1 = (tagS f ls).foldl (cut1 m ld) c
 | [], f, c, fs => rfl
 | l :: r, f, c, fs => by
  show (cutAll m ld r (f + 1) (finCut m ld f l c) (fs ++ [(c.bs.length : Int)])).1 = (l.map (fun s => (f, s)) ++ tagS (f + 1) r).foldl (cut1 m ld) c; rw [cutAll_tag m ld r, List.foldl_append, finCut_tag]
theorem tagS_app (b : List (List Sp)) : ∀ (a : List (List Sp)) (f : Int), tagS f (a ++ b) = tagS f a ++ tagS (f + a.length) b
 | [], f => by
  have e : f + (([] : List (List Sp)).length : Int) = f := by simp
  rw [e]
  rfl
 | l :: r, f => by
  have e : f + 1 + (r.length : Int) = f + ((l :: r).length : Int) := by rw [List.length_cons]; omega
  show l.map (fun s => (f, s)) ++ tagS (f + 1) (r ++ b) = l.map (fun s => (f, s)) ++ tagS (f + 1) r ++ tagS (f + ((l :: r).length : Int)) b; rw [tagS_app b r, e, List.append_assoc]
def GrpOk (ld : Int → Bool) (g : List FSp) : Prop := ∃ x r, g = x :: r ∧ ld x.2.p = true ∧ (∀ y ∈ r, ld y.2.p = false) ∧ ∀ y ∈ r, y.1 = x.1
structure CInv (m : Img) (ld : Int → Bool) (done : List FSp) (gs : List (List FSp)) (c : CutD) : Prop where
 bs : c.bs = gs.map (blkOf m)
 flat : gs.flatten = done
 ok : ∀ g ∈ gs, GrpOk ld g
 bm : ∀ (j : Nat) (x : FSp) (r : List FSp), gs[j]? = some (x :: r) → c.bm x.2.p = some (j : Int)
theorem CInv.step {m : Img} {ld : Int → Bool} {done : List FSp} {gs : List (List FSp)} {c : CutD} (h : CInv m ld done gs c) {x : FSp} (hx : ld x.2.p = true ∨ ∃ d y, done = d ++ [y] ∧ y.1 = x.1) (hd : ∀ y ∈ done, y.2.p ≠ x.2.p) :
 ∃ gs', CInv m ld (done ++ [x]) gs' (cut1 m ld c x) ∧ (ld x.2.p = true → gs' = gs ++ [[x]]) ∧ ∀ (j : Nat) (y : FSp) (r : List FSp), gs[j]? = some (y :: r) → ∃ r', gs'[j]? = some (y :: r') := by
 by_cases hl : ld x.2.p = true
 · have hb : beginS ld x.1 x.2 c = ⟨c.bs ++ [newB x.1 x.2.p], upF c.bm x.2.p (some c.bs.length)⟩ := by unfold beginS; rw [if_pos hl]
   refine ⟨gs ++ [[x]], ⟨?_, ?_, ?_, ?_⟩, fun _ => rfl, fun j y r hj => ⟨r, ?_⟩⟩
   · show modLast (addB m x.2) (beginS ld x.1 x.2 c).bs = _; rw [hb, h.bs]; show modLast (addB m x.2) (gs.map (blkOf m) ++ [newB x.1 x.2.p]) = _; rw [modLast_snoc, List.map_append]
     rfl
   · rw [List.flatten_append, h.flat]; simp
   · intro g hg; rcases List.mem_append.1 hg with hg | hg
     · exact h.ok g hg
     · rw [List.mem_singleton] at hg; subst hg; exact ⟨x, [], rfl, hl, (fun y hy => by cases hy), (fun y hy => by cases hy)⟩
   · intro j y r hj; show (beginS ld x.1 x.2 c).bm y.2.p = _; rw [hb]; show (if y.2.p = x.2.p then some (c.bs.length : Int) else c.bm y.2.p) = _; rcases Nat.lt_or_ge j gs.length with hjl | hjl
     · rw [List.getElem?_append_left hjl] at hj; rw [if_neg, h.bm j y r hj]; refine hd y ?_; rw [← h.flat]; exact List.mem_flatten.2 ⟨_, mG' hj, by simp⟩
     · rw [List.getElem?_append_right hjl] at hj
       have hj0 : j - gs.length = 0 := by
        rcases Nat.eq_zero_or_pos (j - gs.length) with h | h
        · exact h
        · rw [List.getElem?_eq_none (by simp; omega)] at hj
          cases hj
       rw [hj0] at hj; simp only [List.getElem?_cons_zero, Option.some.injEq] at hj; have he : x = y := by injection hj
       subst he; rw [if_pos rfl, h.bs, List.length_map]
       congr 1
       omega
   · rw [List.getElem?_append_left (List.getElem?_eq_some_iff.1 hj).1]; exact hj
 · have hl' : ld x.2.p = false := by simpa using hl
   have hb : beginS ld x.1 x.2 c = c := by unfold beginS; rw [if_neg hl]
   obtain ⟨d, y, hdn, hy⟩ : ∃ d y, done = d ++ [y] ∧ y.1 = x.1 := by
    rcases hx with h | h
    · exact absurd h hl
    · exact h
   have hne : gs ≠ [] := by
    intro e; have := h.flat; rw [e, hdn] at this; simp at this
   obtain ⟨gi, g, hg⟩ : ∃ gi g, gs = gi ++ [g] := by
    rcases List.eq_nil_or_concat gs with e | ⟨l, x, e⟩
    · exact absurd e hne
    · exact ⟨l, x, by rw [e, List.concat_eq_append]⟩
   obtain ⟨x0, r0, hgr, g1, g2, g3⟩ := h.ok g (by rw [hg]; simp)
   have hx01 : x0.1 = x.1 := by
    have hf := h.flat; rw [hg, List.flatten_append, hdn] at hf
    have hm : y ∈ g := by
     have h1 : (gi.flatten ++ [g].flatten).getLast? = some y := by rw [hf]; simp
     have h2 : [g].flatten = g := by simp
     rw [h2, List.getLast?_append, hgr] at h1
     have h3 : (x0 :: r0).getLast? = some y := by
      rw [List.getLast?_eq_some_getLast (by simp)] at h1 ⊢; simpa using h1
     rw [hgr]; exact List.mem_of_getLast? h3
    rw [hgr] at hm; rcases List.mem_cons.1 hm with e | e
    · rw [← e, hy]
    · rw [← g3 y e, hy]
   have hgne : g ≠ [] := by rw [hgr]; simp
   refine ⟨gi ++ [g ++ [x]], ⟨?_, ?_, ?_, ?_⟩, fun e => absurd e hl, fun j y r hj => ?_⟩
   · show modLast (addB m x.2) (beginS ld x.1 x.2 c).bs = _; rw [hb, h.bs, hg, List.map_append]; show modLast (addB m x.2) (gi.map (blkOf m) ++ [blkOf m g]) = _; rw [modLast_snoc, List.map_append, ← blkOf_snoc m hgne]
     rfl
   · have hf := h.flat; rw [hg, List.flatten_append] at hf; rw [← hf, List.flatten_append]; simp
   · intro g' hg'; rcases List.mem_append.1 hg' with hm | hm
     · exact h.ok g' (by rw [hg]; simp [hm])
     · rw [List.mem_singleton] at hm; subst hm; refine ⟨x0, r0 ++ [x], by rw [hgr]; rfl, g1, fun z hz => ?_, fun z hz => ?_⟩
       · rcases List.mem_append.1 hz with hz | hz
         · exact g2 z hz
         · rw [List.mem_singleton] at hz; subst hz; exact hl'
       · rcases List.mem_append.1 hz with hz | hz
         · exact g3 z hz
         · rw [List.mem_singleton] at hz; subst hz; exact hx01.symm
   · intro j z r hj; show (beginS ld x.1 x.2 c).bm z.2.p = _; rw [hb]; rcases Nat.lt_or_ge j gi.length with hjl | hjl
     · rw [List.getElem?_append_left hjl] at hj; exact h.bm j z r (by rw [hg, List.getElem?_append_left hjl]; exact hj)
     · rw [List.getElem?_append_right hjl] at hj
       have hj0 : j - gi.length = 0 := by
        rcases Nat.eq_zero_or_pos (j - gi.length) with h | h
        · exact h
        · rw [List.getElem?_eq_none (by simp; omega)] at hj
          cases hj
       rw [hj0] at hj; simp only [List.getElem?_cons_zero, Option.some.injEq] at hj; rw [hgr] at hj; have he : x0 = z := by injection hj
       subst he; exact h.bm j x0 r0 (by rw [hg, List.getElem?_append_right hjl, hj0, hgr]; rfl)
   · rcases Nat.lt_or_ge j gi.length with hjl | hjl
     · rw [hg, List.getElem?_append_left hjl] at hj; exact ⟨r, by rw [List.getElem?_append_left hjl]; exact hj⟩
     · rw [hg, List.getElem?_append_right hjl] at hj
       have hj0 : j - gi.length = 0 := by
        rcases Nat.eq_zero_or_pos (j - gi.length) with h | h
        · exact h
        · rw [List.getElem?_eq_none (by simp; omega)] at hj
          cases hj
       rw [hj0] at hj; simp only [List.getElem?_cons_zero, Option.some.injEq] at hj; exact ⟨r ++ [x], by rw [List.getElem?_append_right hjl, hj0, hj]; rfl⟩
structure SOk (ld : Int → Bool) (S : List FSp) : Prop where
 st : ∀ d x r, S = d ++ x :: r → ld x.2.p = true ∨ ∃ d' y, d = d' ++ [y] ∧ y.1 = x.1
 ap : ∀ d x r, S = d ++ x :: r → ∀ y ∈ d, y.2.p ≠ x.2.p
theorem CInv.run {m : Img} {ld : Int → Bool} : ∀ (S done : List FSp) (gs : List (List FSp)) (c : CutD), CInv m ld done gs c → SOk ld (done ++ S) →
 ∃ gs', CInv m ld (done ++ S) gs' (S.foldl (cut1 m ld) c) ∧ ∀ (j : Nat) (y : FSp) (r : List FSp), gs[j]? = some (y :: r) → ∃ r', gs'[j]? = some (y :: r')
 | [], done, gs, c, h, _ => ⟨gs, by rw [List.append_nil]; exact h, fun j y r hj => ⟨r, hj⟩⟩
 | x :: S, done, gs, c, h, hS => by
  obtain ⟨g1, h1, -, k1⟩ := h.step (hS.st done x S rfl) (hS.ap done x S rfl); obtain ⟨g2, h2, k2⟩ := CInv.run S (done ++ [x]) g1 _ h1 (by rw [List.append_assoc]; exact hS); rw [List.append_assoc] at h2; refine ⟨g2, h2, fun j y r hj => ?_⟩; obtain ⟨r1, e1⟩ := k1 j y r hj; exact k2 j y r1 e1
theorem CInv.start (m : Img) (ld : Int → Bool) : CInv m ld [] [] ⟨[], fun _ => none⟩ := ⟨rfl, rfl, (fun g hg => by cases hg), (fun j x r hj => by simp at hj)⟩
def ChainS : Int → List Sp → Prop
 | _, [] => True
 | p, s :: r => s.p = p ∧ 1 ≤ s.z ∧ ChainS (p + s.z) r
theorem ChainS.at {x : Sp} {r : List Sp} : ∀ {d : List Sp} {p : Int}, ChainS p (d ++ x :: r) → p ≤ x.p ∧ (∀ y ∈ d, y.p + y.z ≤ x.p ∧ 1 ≤ y.z) ∧ 1 ≤ x.z ∧ ChainS (x.p + x.z) r
 | [], p, h => by
  obtain ⟨h1, h2, h3⟩ := h; exact ⟨by omega, (fun y hy => by cases hy), h2, by rw [h1]; exact h3⟩
 | s :: d, p, h => by
  obtain ⟨h1, h2, h3⟩ := h; obtain ⟨k1, k2, k3, k4⟩ := ChainS.at (d := d) h3; refine ⟨by omega, fun y hy => ?_, k3, k4⟩; rcases List.mem_cons.1 hy with rfl | hy
  · exact ⟨by omega, h2⟩
  · exact k2 y hy
theorem planS_chain {bs : List (List Spot)} {fs : List Int} : ∀ (l : List Spot) (p : Int), (∀ q ∈ l, 1 ≤ szS q) → ChainS p (planS bs fs p l)
 | [], p, _ => trivial
 | q :: r, p, h => ⟨rfl, h q (by simp), planS_chain r (p + szS q) fun u hu => h u (by simp [hu])⟩
theorem tagS_snd : ∀ (ls : List (List Sp)) (f : Int), (tagS f ls).map Prod.snd = ls.flatten
 | [], f => rfl
 | l :: r, f => by
  show (l.map (fun s => (f, s)) ++ tagS (f + 1) r).map Prod.snd = l ++ r.flatten; rw [List.map_append, tagS_snd r, List.map_map]
  congr 1
  exact List.map_id l
theorem tagS_split {x : FSp} {r : List FSp} : ∀ (ls : List (List Sp)) (f : Int) (d : List FSp), tagS f ls = d ++ x :: r →
 (∃ (j : Nat) (l : List Sp), ls[j]? = some l ∧ x.1 = f + j ∧ l.head? = some x.2) ∨ ∃ d' y, d = d' ++ [y] ∧ y.1 = x.1
 | [], f, d, h => by
  have h' : ([] : List FSp) = d ++ x :: r := h; simp at h'
 | l :: ls, f, d, h => by
  have h' : l.map (fun s => (f, s)) ++ tagS (f + 1) ls = d ++ x :: r := h; rcases List.append_eq_append_iff.1 h' with ⟨u, h1, h2⟩ | ⟨u, h1, h2⟩
  · rcases tagS_split ls (f + 1) u h2 with ⟨j, l', k1, k2, k3⟩ | ⟨d', y, k1, k2⟩
    · exact .inl ⟨j + 1, l', by rw [List.getElem?_cons_succ]; exact k1, by omega, k3⟩
    · exact .inr ⟨l.map (fun s => (f, s)) ++ d', y, by rw [h1, k1, List.append_assoc], k2⟩
  · cases u with
    | nil =>
     rw [List.nil_append] at h2; rw [List.append_nil] at h1; rcases tagS_split ls (f + 1) [] (by rw [List.nil_append]; exact h2.symm) with ⟨j, l', k1, k2, k3⟩ | ⟨d', y, k1, k2⟩
     · exact .inl ⟨j + 1, l', by rw [List.getElem?_cons_succ]; exact k1, by omega, k3⟩
     · simp at k1
    | cons z u =>
     have hz : x = z := by
      have : x :: r = z :: (u ++ tagS (f + 1) ls) := h2; injection this
     subst hz
     have hx : x.1 = f := by
      have : x ∈ l.map (fun s => (f, s)) := by rw [h1]; simp
      obtain ⟨s, -, e⟩ := List.mem_map.1 this; rw [← e]
     rcases List.eq_nil_or_concat d with e | ⟨d', y, e⟩
     · left
       refine ⟨0, l, rfl, by rw [hx]; simp, ?_⟩; rw [e, List.nil_append] at h1
       cases l with
       | nil => cases h1
       | cons s l =>
        have : (f, s) = x := by
         have h3 : (f, s) :: l.map (fun s => (f, s)) = x :: u := h1; injection h3
        rw [← this]
        rfl
     · right
       rw [List.concat_eq_append] at e; refine ⟨d', y, e, ?_⟩; have : y ∈ l.map (fun s => (f, s)) := by rw [h1, e]; simp
       obtain ⟨s, -, e2⟩ := List.mem_map.1 this; rw [hx, ← e2]
theorem tagS_mem {x : FSp} : ∀ (ls : List (List Sp)) (f : Int), x ∈ tagS f ls → ∃ (j : Nat) (l : List Sp), ls[j]? = some l ∧ x.1 = f + j ∧ x.2 ∈ l
 | [], f, h => by cases h
 | l :: ls, f, h => by
  rcases List.mem_append.1 (show x ∈ l.map (fun s => (f, s)) ++ tagS (f + 1) ls from h) with h | h
  · obtain ⟨s, hs, rfl⟩ := List.mem_map.1 h; exact ⟨0, l, rfl, by simp, hs⟩
  · obtain ⟨j, l', k1, k2, k3⟩ := tagS_mem ls (f + 1) h; exact ⟨j + 1, l', by rw [List.getElem?_cons_succ]; exact k1, by omega, k3⟩
def fnB (bs : List (List Spot)) (fs : List Int) (i : Nat) : Nat := if i < fs.length then fnA fs i else bs.length
theorem fnZ_next {bs : List (List Spot)} {fs : List Int} (h : PlanOk bs fs) {i : Nat} (hi : i < fs.length) : fnZ bs fs i = fnB bs fs (i + 1) := by
 obtain ⟨h1, h2, h3, h4⟩ := fn_az h hi; unfold fnB; unfold endB at h2
 split
 · rename_i hl
   obtain ⟨k1, -, -, -⟩ := fn_az h hl; rw [if_pos (by omega), show ((i : Int) + 1).toNat = i + 1 by omega, List.getD_eq_getElem?_getD, k1] at h2; simp only [Option.getD_some] at h2; omega
 · rw [if_neg (by omega)] at h2; omega
theorem allP_flat {bs : List (List Spot)} {fs : List Int} (h : PlanOk bs fs) : ∀ i, i ≤ fs.length → ((allP bs fs).take i).flatten = planS bs fs 0 (bs.take (fnB bs fs i)).flatten
 | 0, _ => by
  have e : fnB bs fs 0 = 0 := by
   unfold fnB; rw [if_pos (by have := h.nf; omega)]; unfold fnA; rw [List.getD_eq_getElem?_getD, h.f0]
   rfl
  rw [e]
  rfl
 | i + 1, hi => by
  have ih := allP_flat h i (by omega); have hl : i < fs.length := by omega
  obtain ⟨h1, h2, h3, h4⟩ := fn_az h hl; have e : fnB bs fs i = fnA fs i := by unfold fnB; rw [if_pos hl]
  rw [List.take_add_one, allP_is hl, List.flatten_append, ih, e, ← fnZ_next h hl]
  have e1 : bs.take (fnZ bs fs i) = bs.take (fnA fs i) ++ (bs.take (fnZ bs fs i)).drop (fnA fs i) := by
   conv => lhs; rw [← List.take_append_drop (fnA fs i) (bs.take (fnZ bs fs i))]
   rw [List.take_take, Nat.min_eq_left (by omega)]
  conv => rhs; rw [e1]
  rw [List.flatten_append, planS_app, Int.zero_add, ← atB_nat]; simp [fnS]
theorem allP_all {bs : List (List Spot)} {fs : List Int} (h : PlanOk bs fs) : (allP bs fs).flatten = planS bs fs 0 bs.flatten := by
 have h1 := allP_flat h fs.length lr'; have e : fnB bs fs fs.length = bs.length := by unfold fnB; rw [if_neg (by omega)]
 rw [e, List.take_length, List.take_of_length_le (by simp [allP])] at h1; exact h1
theorem prog_chain {bs : List (List Spot)} {fs : List Int} (h : PlanOk bs fs) : ChainS 0 ((tagS 0 (allP bs fs)).map Prod.snd) := by
 rw [tagS_snd, allP_all h]
 exact planS_chain _ _ fun q hq => by
  obtain ⟨b, hb, hq⟩ := List.mem_flatten.1 hq; exact (szS_bd (h.ok b hb q hq)).1
theorem markGo_mark {m : Img} {own : Int → Option Int} {f : Int} {s : Sp} : ∀ {l : List Sp} {ld ld' : Int → Bool}, markGo m own f l ld = some ld' → s ∈ l → ∃ l1 l2, markS m own f s l1 = some l2 ∧ ∀ q, l2 q = true → ld' q = true
 | [], ld, ld', h, hs => by cases hs
 | t :: r, ld, ld', h, hs => by
  have h' : (markS m own f t ld).bind (markGo m own f r) = some ld' := h
  cases ht : markS m own f t ld with
  | none => rw [ht] at h'; cases h'
  | some x =>
   rw [ht] at h'; rcases List.mem_cons.1 hs with rfl | hs
   · exact ⟨ld, x, ht, fun q hq => markGo_keep (l := r) h' hq⟩
   · exact markGo_mark (l := r) h' hs
theorem markAll_mark {m : Img} {own : Int → Option Int} {s : Sp} : ∀ {l : List (FnD × List Sp)} {f : Int} {ld ld' : Int → Bool}, markAll m own l f ld = some ld' → ∀ (j : Nat) (x : FnD × List Sp), l[j]? = some x → s ∈ x.2 → ∃ l1 l2, markS m own (f + j) s l1 = some l2 ∧ ∀ q, l2 q = true → ld' q = true
 | [], f, ld, ld', h, j, x, hx, hs => by simp at hx
 | y :: r, f, ld, ld', h, j, x, hx, hs => by
  have h' : (markGo m own f y.2 (upF ld y.1.start true)).bind (markAll m own r (f + 1)) = some ld' := h
  cases hy : markGo m own f y.2 (upF ld y.1.start true) with
  | none => rw [hy] at h'; cases h'
  | some z =>
   rw [hy] at h'
   cases j with
   | zero =>
    simp only [List.getElem?_cons_zero, Option.some.injEq] at hx; subst hx; obtain ⟨l1, l2, k1, k2⟩ := markGo_mark hy hs; refine ⟨l1, l2, ?_, fun q hq => markAll_keep (l := r) h' (k2 q hq)⟩; rw [show f + ((0 : Nat) : Int) = f by omega]; exact k1
   | succ j =>
    rw [List.getElem?_cons_succ] at hx; have := markAll_mark (l := r) h' j x hx hs; rw [show f + 1 + (j : Int) = f + ((j + 1 : Nat) : Int) by omega] at this; exact this
theorem prog_sok {bs : List (List Spot)} {fs : List Int} (h : PlanOk bs fs) (L : List RawI) {own : Int → Option Int} {ld0 ld : Int → Bool} (hm : markAll (imgOf bs fs L) own ((imgOf bs fs L).funcs.zip (allP bs fs)) 0 ld0 = some ld) : SOk ld (tagS 0 (allP bs fs)) := by
 refine ⟨fun d x r e => ?_, fun d x r e y hy => ?_⟩
 · rcases tagS_split _ _ _ e with ⟨j, l, k1, k2, k3⟩ | h2
   · left
     obtain ⟨hj, rfl⟩ := allP_at k1
     have hp : x.2.p = atB bs (fnA fs j) := by
      rcases hf : fnS bs fs j with _ | ⟨q, rr⟩
      · rw [hf] at k3
        cases k3
      · rw [hf] at k3
        have : (⟨atB bs (fnA fs j), szS q, resI bs fs (atB bs (fnA fs j)) q⟩ : Sp) = x.2 := by
         have h3 : some (⟨atB bs (fnA fs j), szS q, resI bs fs (atB bs (fnA fs j)) q⟩ : Sp) = some x.2 := k3; injection h3
        rw [← this]
     have hz : ((imgOf bs fs L).funcs.zip (allP bs fs))[j]? = some (fnAt bs fs j, planS bs fs (atB bs (fnA fs j)) (fnS bs fs j)) := by
      rw [List.getElem?_zip_eq_some]; refine ⟨?_, k1⟩; show ((List.range fs.length).map (fnAt bs fs))[j]? = _; rw [List.getElem?_map, gE' (by simpa using hj), List.getElem_range]
      rfl
     have := markAll_first hm _ (mG' hz); rw [hp]; rw [fnAt_is h hj] at this; exact this
   · exact .inr h2
 · have hc := prog_chain h; rw [e, List.map_append, List.map_cons] at hc; have := (ChainS.at hc).2.1 y.2 (List.mem_map_of_mem hy); omega
theorem CInv.head {m : Img} {ld : Int → Bool} {done : List FSp} {gs : List (List FSp)} {c : CutD} (h : CInv m ld done gs c) {x : FSp} (hx : x ∈ done) (hl : ld x.2.p = true) : ∃ (j : Nat) (r : List FSp), gs[j]? = some (x :: r) := by
 rw [← h.flat] at hx; obtain ⟨g, hg, hx⟩ := List.mem_flatten.1 hx; obtain ⟨j, hj⟩ := List.getElem?_of_mem hg; obtain ⟨y, r, rfl, g1, g2, g3⟩ := h.ok g hg; rcases List.mem_cons.1 hx with rfl | hx
 · exact ⟨j, r, hj⟩
 · rw [g2 x hx] at hl
   cases hl
theorem finOwn_of (q x : Int) : ∀ (ls : List (List Sp)) (f : Int) (own : Int → Option Int), finOwn ls f own q = some x → (∃ (j : Nat) (l : List Sp), ls[j]? = some l ∧ x = f + j ∧ ∃ s ∈ l, s.p = q) ∨ own q = some x
 | [], f, own, h => .inr h
 | a :: r, f, own, h => by
  rcases finOwn_of q x r (f + 1) _ h with ⟨j, l, k1, k2, k3⟩ | h1
  · exact .inl ⟨j + 1, l, by rw [List.getElem?_cons_succ]; exact k1, by omega, k3⟩
  · rcases foldUp_in f q x a own h1 with ⟨h2, h3⟩ | h2
    · exact .inl ⟨0, a, rfl, by omega, h3⟩
    · exact .inr h2
theorem tagS_in {s : Sp} : ∀ (ls : List (List Sp)) (f : Int) (j : Nat) (l : List Sp), ls[j]? = some l → s ∈ l → (f + (j : Int), s) ∈ tagS f ls
 | [], f, j, l, h, _ => by simp at h
 | a :: r, f, j, l, h, hs => by
  show _ ∈ a.map (fun s => (f, s)) ++ tagS (f + 1) r
  cases j with
  | zero =>
   simp only [List.getElem?_cons_zero, Option.some.injEq] at h; subst h; refine List.mem_append.2 (.inl (List.mem_map.2 ⟨s, hs, ?_⟩)); rw [show f + ((0 : Nat) : Int) = f by omega]
  | succ j =>
   rw [List.getElem?_cons_succ] at h; have := tagS_in r (f + 1) j l h hs; rw [show f + 1 + (j : Int) = f + ((j + 1 : Nat) : Int) by omega] at this; exact List.mem_append.2 (.inr this)
theorem tagS_le : ∀ (ls : List (List Sp)) (f : Int), (tagS f ls).Pairwise (fun x y => x.1 ≤ y.1) ∧ ∀ x ∈ tagS f ls, f ≤ x.1
 | [], f => ⟨List.Pairwise.nil, fun x hx => by cases hx⟩
 | l :: r, f => by
  obtain ⟨h1, h2⟩ := tagS_le r (f + 1)
  have h3 : ∀ x ∈ l.map (fun s => (f, s)), x.1 = f := fun x hx => by
   obtain ⟨s, -, rfl⟩ := List.mem_map.1 hx
   rfl
  refine ⟨?_, fun x hx => ?_⟩
  · show (l.map (fun s => (f, s)) ++ tagS (f + 1) r).Pairwise _; refine List.pairwise_append.2 ⟨?_, h1, fun a ha b hb => ?_⟩
    · refine List.Pairwise.imp_of_mem (R := fun _ _ => True) (fun ha hb _ => ?_) (List.pairwise_of_forall (fun _ _ => trivial)); rw [h3 _ ha, h3 _ hb]; exact Int.le_refl _
    · have := h2 b hb; rw [h3 a ha]; omega
  · rcases List.mem_append.1 (show x ∈ l.map (fun s => (f, s)) ++ tagS (f + 1) r from hx) with hx | hx
    · rw [h3 x hx]; exact Int.le_refl _
    · have := h2 x hx; omega
theorem cutAll_firsts (m : Img) (ld : Int → Bool) (all : List (List Sp)) : ∀ i, i ≤ all.length → (cutAll m ld (all.take i) 0 ⟨[], fun _ => none⟩ []).2.length = i ∧
 ∀ j, j < i → (cutAll m ld (all.take i) 0 ⟨[], fun _ => none⟩ []).2[j]? = some (((tagS 0 (all.take j)).foldl (cut1 m ld) ⟨[], fun _ => none⟩).bs.length : Int)
 | 0, _ => ⟨rfl, fun j hj => by omega⟩
 | i + 1, hi => by
  obtain ⟨h1, h2⟩ := cutAll_firsts m ld all i (by omega); have hx : all[i]? = some (all[i]'(by omega)) := gE' _; have e : all.take (i + 1) = all.take i ++ [all[i]'(by omega)] := by rw [List.take_add_one, hx]; rfl
  rw [e, cutAll_snoc]; refine ⟨by simp [h1], fun j hj => ?_⟩; rcases Nat.lt_or_ge j i with hl | hl
  · rw [List.getElem?_append_left (by omega)]; exact h2 j hl
  · have hj0 : j = i := by omega
    subst hj0; rw [List.getElem?_append_right (by omega), h1, Nat.sub_self, List.getElem?_cons_zero, cutAll_tag]
theorem tagS_last {x : FSp} {r : List FSp} : ∀ (ls : List (List Sp)) (f : Int) (d : List FSp), tagS f ls = d ++ x :: r →
 (∃ (j : Nat) (l : List Sp), ls[j]? = some l ∧ x.1 = f + j ∧ l.getLast? = some x.2) ∨ ∃ y r', r = y :: r' ∧ y.1 = x.1
 | [], f, d, h => by
  have h' : ([] : List FSp) = d ++ x :: r := h; simp at h'
 | l :: ls, f, d, h => by
  have h' : l.map (fun s => (f, s)) ++ tagS (f + 1) ls = d ++ x :: r := h
  have shift : ∀ u, tagS (f + 1) ls = u ++ x :: r → (∃ (j : Nat) (l' : List Sp), (l :: ls)[j]? = some l' ∧ x.1 = f + j ∧ l'.getLast? = some x.2) ∨ ∃ y r', r = y :: r' ∧ y.1 = x.1 := fun u h2 => by
   rcases tagS_last ls (f + 1) u h2 with ⟨j, l', k1, k2, k3⟩ | h3
   · exact .inl ⟨j + 1, l', by rw [List.getElem?_cons_succ]; exact k1, by omega, k3⟩
   · exact .inr h3
  rcases List.append_eq_append_iff.1 h' with ⟨u, h1, h2⟩ | ⟨u, h1, h2⟩
  · exact shift u h2
  · cases u with
    | nil =>
     rw [List.nil_append] at h2; exact shift [] (by rw [List.nil_append]; exact h2.symm)
    | cons z u =>
     have hz : x = z ∧ r = u ++ tagS (f + 1) ls := by
      have : x :: r = z :: (u ++ tagS (f + 1) ls) := h2; injection this with a b; exact ⟨a, b⟩
     obtain ⟨rfl, hr⟩ := hz
     have hin : ∀ y, y ∈ x :: u → y.1 = f := fun y hy => by
      have : y ∈ l.map (fun s => (f, s)) := by rw [h1]; exact List.mem_append.2 (.inr hy)
      obtain ⟨s, -, e⟩ := List.mem_map.1 this; rw [← e]
     cases u with
     | nil =>
      left
      refine ⟨0, l, rfl, by rw [hin x (by simp)]; simp, ?_⟩; rcases List.eq_nil_or_concat l with e | ⟨l', s, e⟩
      · rw [e] at h1; simp at h1
      · rw [List.concat_eq_append] at e; rw [e, List.map_append] at h1; have h3 : [(f, s)] = [x] := (List.append_inj' h1 rfl).2; have h4 : (f, s) = x := by injection h3
        rw [e, ← h4]; simp
     | cons y u =>
      right
      exact ⟨y, u ++ tagS (f + 1) ls, hr, by rw [hin y (by simp), hin x (by simp)]⟩
theorem tabsLd_ld {own : Int → Option Int} : ∀ {l : List Int} {ld ld' : Int → Bool}, tabsLd own l ld = some ld' → (∀ q, ld q = true → ld' q = true) ∧ ∀ a ∈ l, ld' a = true
 | [], ld, ld', h => by
  injection h with h; subst h; exact ⟨fun _ h => h, fun a ha => by cases ha⟩
 | x :: r, ld, ld', h => by
  have h' : (if (own x).isSome = true then tabsLd own r (upF ld x true) else none) = some ld' := h
  split at h'
  · obtain ⟨h1, h2⟩ := tabsLd_ld h'; refine ⟨fun q hq => h1 q (up_keep hq), fun a ha => ?_⟩; rcases List.mem_cons.1 ha with rfl | ha
    · exact h1 a (by unfold upF; rw [if_pos rfl])
    · exact h2 a ha
  · cases h'
structure PgmF (m : Img) (ld : Int → Bool) (bm : Int → Option Int) (S : List FSp) (gs : List (List FSp)) (d : FlowD) : Prop where
 blocks : d.blocks = gs.map fun g => joinB bm (blkOf m g)
 tables : d.tables = m.tables.map fun t => t.map fun a => (bm a).getD 0
 flat : gs.flatten = S
 ok : ∀ g ∈ gs, GrpOk ld g
 bm : ∀ (j : Nat) (x : FSp) (r : List FSp), gs[j]? = some (x :: r) → bm x.2.p = some (j : Int)
 chain : ChainS 0 (S.map Prod.snd)
 dec : ∀ x ∈ S, decB m.text x.2.p = (x.2.i, x.2.z, 0)
 len : ∀ a x, S = a ++ [x] → x.2.p + x.2.z = (m.text.length : Int)
 nil : S ≠ []
 fns : S.Pairwise fun x y => x.1 ≤ y.1
 firsts : d.firsts.length = m.funcs.length ∧ ∀ (i : Nat) (n : Int), d.firsts[i]? = some n → ∃ f x r, m.funcs[i]? = some f ∧ 0 ≤ n ∧ gs[n.toNat]? = some (x :: r) ∧ x.2.p = f.start ∧ x.1 = i
 term : ∀ x ∈ S, (branchI x.2.i || x.2.i.k == 22 || stopsI x.2.i) = true → ld (x.2.p + x.2.z) = true
 goto : ∀ x ∈ S, (branchI x.2.i || x.2.i.k == 22) = true → ∃ (j : Nat) (y : FSp) (r : List FSp), gs[j]? = some (y :: r) ∧ y.2.p = x.2.p + x.2.i.n ∧ y.1 = x.1
 last : ∀ a x r, S = a ++ x :: r → (stopsI x.2.i || x.2.i.k == 22) = true ∨ ∃ y r', r = y :: r' ∧ y.1 = x.1
 call : ∀ x ∈ S, x.2.i.k = 23 → m.funcs.any (fun g => g.start == x.2.p + x.2.i.n) = true
 tab : ∀ x ∈ S, x.2.i.k = 24 → 0 ≤ x.2.i.n ∧ ∀ t, m.tables[x.2.i.n.toNat]? = some t → ∀ a ∈ t, ∃ (j : Nat) (y : FSp) (r : List FSp), gs[j]? = some (y :: r) ∧ y.2.p = a ∧ y.1 = x.1
theorem SOk.pre {ld : Int → Bool} {P R : List FSp} (h : SOk ld (P ++ R)) : SOk ld P :=
 ⟨fun d x r e => h.st d x (r ++ R) (by rw [e]; simp), fun d x r e => h.ap d x (r ++ R) (by rw [e]; simp)⟩
theorem sweepL_dec {text : List Int} {f : FnD} {l : List Sp} (h : sweepL text f = some l) {s : Sp} (hs : s ∈ l) : decB text s.p = (s.i, s.z, 0) := by
 unfold sweepL at h
 split at h
 · cases h
 · rename_i l' hg
   split at h
   · injection h with h; subst h; obtain ⟨j, hj⟩ := List.getElem?_of_mem hs; exact (sweepGo_ok text (f.start + f.size) f.size.toNat f.start l' hg (by omega) j s hj).2.2
   · cases h
theorem planS_end {bs : List (List Spot)} {fs : List Int} {l : List Spot} {p : Int} {a : List Sp} {x : Sp} (h : planS bs fs p l = a ++ [x]) : x.p + x.z = p + szL l := by
 rcases List.eq_nil_or_concat l with e | ⟨l', q, e⟩
 · rw [e] at h; simp [planS] at h
 · rw [List.concat_eq_append] at e; rw [e, planS_app] at h; have h2 := (List.append_inj' h rfl).2; have h3 : (⟨p + szL l', szS q, resI bs fs (p + szL l') q⟩ : Sp) = x := by injection h2
   rw [← h3, e, szL_app]; simp only [szL]; omega
theorem prog_flow {bs : List (List Spot)} {fs : List Int} (h : PlanOk bs fs) (hin : PlanIn bs fs) (hk : ∀ i ∈ progI bs fs, i.chk = 0) (L : List RawI) :
 ∃ ld bm gs d, recL (imgOf bs fs L) = some d ∧ PgmF (imgOf bs fs L) ld bm (tagS 0 (allP bs fs)) gs d := by
 obtain ⟨ld0, ld, a1, a2, a3⟩ := prog_rec h hin hk L; have hS := prog_sok h L a3; obtain ⟨S, hSe⟩ := ex' (tagS 0 (allP bs fs))
 obtain ⟨gs, hc, -⟩ := CInv.run S [] [] _ (CInv.start (imgOf bs fs L) ld) (by rw [← hSe]; exact hS); rw [List.nil_append] at hc
 have hpl : ∀ {j : Nat} {l : List Sp}, (allP bs fs)[j]? = some l → ((imgOf bs fs L).funcs.zip (allP bs fs))[j]? = some (fnAt bs fs j, l) := fun {j l} hj => by
  rw [List.getElem?_zip_eq_some]; refine ⟨?_, hj⟩; show ((List.range fs.length).map (fnAt bs fs))[j]? = _; rw [List.getElem?_map, gE' (by simpa using (allP_at hj).1), List.getElem_range]
  rfl
 have hmk : ∀ x ∈ S, ∃ l1 l2, markS (imgOf bs fs L) (ownA (allP bs fs)) x.1 x.2 l1 = some l2 ∧ ∀ q, l2 q = true → ld q = true := fun x hx => by
  rw [← hSe] at hx; obtain ⟨j, l, k1, k2, k3⟩ := tagS_mem _ _ hx; rw [k2]; exact markAll_mark a3 j _ (hpl k1) k3
 have hown : ∀ (f q : Int), ownA (allP bs fs) q = some f → ld q = true → ∃ (j : Nat) (y : FSp) (r : List FSp), gs[j]? = some (y :: r) ∧ y.2.p = q ∧ y.1 = f := fun f q ho hq => by
  rcases finOwn_of q f _ 0 _ ho with ⟨j, l, k1, k2, s, k3, k4⟩ | h1
  · have hx := tagS_in _ 0 j l k1 k3; rw [hSe] at hx; obtain ⟨i, r, hi⟩ := hc.head hx (by show ld s.p = true; rw [k4]; exact hq); exact ⟨i, _, r, hi, k4, k2.symm⟩
  · cases h1
 have hle := tagS_le (allP bs fs) 0; have hch := prog_chain h; have hbs : (S.foldl (cut1 (imgOf bs fs L) ld) ⟨[], fun _ => none⟩) = (cutAll (imgOf bs fs L) ld (allP bs fs) 0 ⟨[], fun _ => none⟩ []).1 := by rw [cutAll_tag, hSe]
 rw [hbs] at hc; have hlen3 : (allP bs fs).length = fs.length := by simp [allP]
 rw [hSe] at hle hch; refine ⟨ld, (cutAll (imgOf bs fs L) ld (allP bs fs) 0 ⟨[], fun _ => none⟩ []).1.bm, gs, _, rec_some a1 a2 a3, ⟨?_, rfl, by rw [hSe]; exact hc.flat, hc.ok, hc.bm, by rw [hSe]; exact hch, ?_, ?_, ?_, by rw [hSe]; exact hle.1, ⟨?_, ?_⟩, ?_, ?_, ?_, ?_, ?_⟩⟩
 · show ((cutAll (imgOf bs fs L) ld (allP bs fs) 0 ⟨[], fun _ => none⟩ []).1.bs.map _) = _; rw [hc.bs, List.map_map]
   rfl
 · intro x hx; obtain ⟨j, l, k1, k2, k3⟩ := tagS_mem _ _ hx; obtain ⟨hj, rfl⟩ := allP_at k1; exact sweepL_dec (fn_sweep h hin hk hj) k3
 · intro a x e; have e2 := congrArg (List.map Prod.snd) e; rw [tagS_snd, allP_all h, List.map_append] at e2; have := planS_end e2; have h3 : ((encAll (progI bs fs)).length : Int) = szL bs.flatten := resL_enc bs fs _ 0 hk; show x.2.p + x.2.z = ((encAll (progI bs fs)).length : Int)
   omega
 · intro e; have e2 := congrArg (List.map Prod.snd) e; rw [tagS_snd, allP_all h] at e2; have hb0 := h.fb 0 _ h.f0; have := atB_T h (a := 0) (by omega) (by omega)
   cases hf : bs.flatten with
   | nil => rw [hf] at this; simp only [szL] at this; omega
   | cons q r => rw [hf] at e2; cases e2
 · have h1 := (cutAll_firsts (imgOf bs fs L) ld (allP bs fs) _ lr').1; rw [List.take_length] at h1; show (cutAll (imgOf bs fs L) ld (allP bs fs) 0 ⟨[], fun _ => none⟩ []).2.length = (fnL bs fs).length; rw [h1]; simp [allP, fnL]
 · intro i n hn; obtain ⟨h1, h2⟩ := cutAll_firsts (imgOf bs fs L) ld (allP bs fs) _ lr'; rw [List.take_length] at h1 h2
   have hi : i < (allP bs fs).length := by
    have := (List.getElem?_eq_some_iff.1 hn).1; exact Nat.lt_of_lt_of_eq this h1
   have hn2 := (h2 i hi).symm.trans hn; injection hn2 with hn2; have hil : i < fs.length := by omega
   obtain ⟨y0, q0, hy0, -⟩ := fnS_last h hin hil; obtain ⟨q, rq, hq⟩ : ∃ q rq, fnS bs fs i = q :: rq := List.exists_cons_of_ne_nil (by rw [hy0]; simp); have hat := allP_is (bs := bs) hil; rw [hq] at hat
   have hsplit : allP bs fs = (allP bs fs).take i ++ planS bs fs (atB bs (fnA fs i)) (q :: rq) :: (allP bs fs).drop (i + 1) := by
    obtain ⟨hi2, he⟩ := List.getElem?_eq_some_iff.1 hat; rw [← he, ← List.drop_eq_getElem_cons hi2, List.take_append_drop]
   have hSs : S = tagS 0 ((allP bs fs).take i) ++ ((i : Int), (⟨atB bs (fnA fs i), szS q, resI bs fs (atB bs (fnA fs i)) q⟩ : Sp)) :: ((planS bs fs (atB bs (fnA fs i) + szS q) rq).map (fun s => ((i : Int), s)) ++ tagS ((i : Int) + 1) ((allP bs fs).drop (i + 1))) := by
    rw [← hSe]
    conv => lhs; rw [hsplit]
    rw [tagS_app, List.length_take, Nat.min_eq_left (by omega), Int.zero_add]
    rfl
   obtain ⟨x, hx⟩ := ex' (((i : Int), (⟨atB bs (fnA fs i), szS q, resI bs fs (atB bs (fnA fs i)) q⟩ : Sp)) : FSp)
   obtain ⟨R, hR⟩ := ex' ((planS bs fs (atB bs (fnA fs i) + szS q) rq).map (fun s => ((i : Int), s)) ++ tagS ((i : Int) + 1) ((allP bs fs).drop (i + 1)))
   obtain ⟨P, hP⟩ := ex' (tagS 0 ((allP bs fs).take i))
   rw [hx, hR, hP] at hSs; rw [hP] at hn2; rw [hSe] at hS
   have hldx : ld x.2.p = true := by
    have := markAll_first a3 _ (mG' (hpl (allP_is hil))); rw [fnAt_is h hil] at this; rw [← hx]; exact this
   rw [hSs] at hS; obtain ⟨g1, c1, -⟩ := CInv.run P [] [] _ (CInv.start (imgOf bs fs L) ld) (by rw [List.nil_append]; exact hS.pre); rw [List.nil_append] at c1; obtain ⟨g2, c2, e2, -⟩ := c1.step (.inl hldx) (hS.ap P x R rfl); obtain ⟨g3, c3, e3⟩ := CInv.run R (P ++ [x]) g2 _ c2 (by rw [List.append_assoc]; exact hS)
   have hfold : R.foldl (cut1 (imgOf bs fs L) ld) (cut1 (imgOf bs fs L) ld (P.foldl (cut1 (imgOf bs fs L) ld) ⟨[], fun _ => none⟩) x) = (cutAll (imgOf bs fs L) ld (allP bs fs) 0 ⟨[], fun _ => none⟩ []).1 := by
    rw [← hbs, hSs, List.foldl_append]
    rfl
   rw [hfold] at c3; have h4 : g2[g1.length]? = some (x :: []) := by rw [e2 hldx]; simp
   obtain ⟨r3, h5⟩ := e3 g1.length x [] h4; have b1 := c3.bm _ _ _ h5; obtain ⟨j, r, hj⟩ := hc.head (x := x) (by rw [hSs]; simp) hldx; have b2 := hc.bm _ _ _ hj; rw [b1] at b2; injection b2 with b2; have hl1 : (P.foldl (cut1 (imgOf bs fs L) ld) ⟨[], fun _ => none⟩).bs.length = g1.length := by rw [c1.bs, List.length_map]
   rw [hl1] at hn2; refine ⟨fnAt bs fs i, x, r, ?_, by omega, ?_, ?_, ?_⟩
   · show ((List.range fs.length).map (fnAt bs fs))[i]? = _; rw [List.getElem?_map, gE' (by simpa using hil), List.getElem_range]
     rfl
   · rw [show n.toNat = j by omega]; exact hj
   · rw [fnAt_is h hil, ← hx]
   · rw [← hx]
 · intro x hx ht; rw [hSe] at hx; obtain ⟨l1, l2, k1, k2⟩ := hmk x hx; apply k2; unfold markS at k1
   split at k1
   · split at k1
     · injection k1 with k1; rw [← k1]; unfold upF; rw [if_pos rfl]
     · cases k1
   · rename_i hnb
     have hst : stopsI x.2.i = true := by
      rw [Bool.or_eq_true] at ht; rcases ht with ht | ht
      · exact absurd ht hnb
      · exact ht
     rw [if_pos hst] at k1
     split at k1
     · cases k1
     · injection k1 with k1; rw [← k1]; unfold upF; rw [if_pos rfl]
 · intro x hx ht; rw [hSe] at hx; obtain ⟨l1, l2, k1, k2⟩ := hmk x hx; unfold markS at k1; rw [if_pos ht] at k1
   split at k1
   · rename_i ho
     injection k1 with k1; refine hown _ _ (by simpa using ho) (k2 _ ?_); rw [← k1]; exact up_keep (by unfold upF; rw [if_pos rfl])
   · cases k1
 · intro a x r e; rcases tagS_last _ _ _ e with ⟨j, l, k1, k2, k3⟩ | h2
   · left
     obtain ⟨hj, rfl⟩ := allP_at k1; obtain ⟨y, q, hy, hq⟩ := fnS_last h hin hj; rw [hy, planS_app] at k3; simp only [planS, List.getLast?_append, List.getLast?_singleton, Option.some_or, Option.some.injEq] at k3; rw [← k3]; rw [Bool.or_eq_true, beq_iff_eq]; rcases hq with hq | hq
     · exact .inl hq
     · exact .inr hq
   · exact .inr h2
 · intro x hx h23; rw [hSe] at hx; obtain ⟨l1, l2, k1, k2⟩ := hmk x hx; unfold markS at k1; have e1 : (branchI x.2.i || x.2.i.k == 22) = false := by unfold branchI; rw [h23]; rfl
   have e2 : stopsI x.2.i = false := by unfold stopsI; rw [h23]; rfl
   rw [e1, e2, if_neg (by simp), if_neg (by simp), if_pos h23] at k1
   split at k1
   · assumption
   · cases k1
 · intro x hx h24
   have hdec : decB (encAll (progI bs fs)) x.2.p = (x.2.i, x.2.z, 0) := by
    obtain ⟨j, l, k1, k2, k3⟩ := tagS_mem _ _ hx; obtain ⟨hj, rfl⟩ := allP_at k1; exact sweepL_dec (fn_sweep h hin hk hj) k3
   have hchk := (decB_ok (show (decB (encAll (progI bs fs)) x.2.p).2.2 = 0 by rw [hdec])).1; rw [hdec] at hchk; have hn0 := (chk_n hchk).2 h24; refine ⟨hn0, fun t ht a ha => ?_⟩; rw [hSe] at hx; obtain ⟨l1, l2, k1, k2⟩ := hmk x hx; unfold markS at k1; have e1 : (branchI x.2.i || x.2.i.k == 22) = false := by unfold branchI; rw [h24]; rfl
   have e2 : stopsI x.2.i = true := by unfold stopsI; rw [h24]; rfl
   rw [e1, e2, if_neg (by simp), if_pos rfl] at k1
   split at k1
   · cases k1
   · rename_i hc1
     have hlt := (List.getElem?_eq_some_iff.1 ht).1
     have ho : ownA (allP bs fs) a = some x.1 := by
      rcases Classical.em (ownA (allP bs fs) a = some x.1) with e | e
      · exact e
      · exfalso
        apply hc1; rw [Bool.and_eq_true, Bool.and_eq_true, beq_iff_eq, decide_eq_true_eq]; refine ⟨⟨h24, by omega⟩, List.any_eq_true.2 ⟨a, ?_, ?_⟩⟩
        · rw [List.getD_eq_getElem?_getD, ht]; exact ha
        · simpa using e
     refine hown _ _ ho (markAll_keep a3 ((tabsLd_ld a2).2 a ?_)); exact List.mem_flatten.2 ⟨t, mG' ht, ha⟩
theorem IsPgm.flow {l : List RawI} {m : Img} (h : IsPgm l m) : ∃ ld bm S gs d, recL m = some d ∧ PgmF m ld bm S gs d := by
 obtain ⟨bs', h1, h2, h3, rfl⟩ := h; have hin : PlanIn bs' _ := (progP_in l).same h2; obtain ⟨ld, bm, gs, d, a1, a2⟩ := prog_flow h1 hin h3 (progL l); exact ⟨ld, bm, _, gs, d, a1, a2⟩
end Go.Proofs.YtcdlgjhdbmmomaaGreatDoor
