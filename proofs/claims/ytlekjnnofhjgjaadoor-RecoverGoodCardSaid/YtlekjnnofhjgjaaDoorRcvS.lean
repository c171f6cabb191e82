/- A program recovers: the owners, the marks. -/
import Derived.Test.YtlekjnnofhjgjaaDoorRcvR
import Derived.Test.YtlekjnnofhjgjaaDoorPgmG
namespace Go.Proofs.YtlekjnnofhjgjaaDoor
open Go.RowKit
theorem planS_mem {bs : List (List Spot)} {fs : List Int} {s : Sp} : ∀ {l : List Spot} {p : Int}, s ∈ planS bs fs p l → ∃ x q y, l = x ++ q :: y ∧ s = ⟨p + szL x, szS q, resI bs fs (p + szL x) q⟩
  | [], p, h => by cases h
  | q :: r, p, h => by
    rcases List.mem_cons.1 (show s ∈ ⟨p, szS q, resI bs fs p q⟩ :: planS bs fs (p + szS q) r from h) with rfl | h
    · exact ⟨[], q, r, rfl, by simp [szL]⟩
    · obtain ⟨x, q', y, rfl, rfl⟩ := planS_mem h
      have e : p + szS q + szL x = p + szL (q :: x) := by simp only [szL]; omega
      exact ⟨q :: x, q', y, rfl, by rw [e]⟩
theorem fnS_mem {bs : List (List Spot)} {fs : List Int} {i : Nat} {q : Spot} (h : q ∈ fnS bs fs i) : ∃ (k : Nat) (b : List Spot), bs[k]? = some b ∧ fnA fs i ≤ k ∧ k < fnZ bs fs i ∧ q ∈ b := by
  unfold fnS at h
  obtain ⟨b, hb, hq⟩ := List.mem_flatten.1 h
  obtain ⟨j, hj⟩ := List.getElem?_of_mem hb
  rw [List.getElem?_drop, List.getElem?_take] at hj
  split at hj
  · exact ⟨_, b, hj, by omega, by omega, hq⟩
  · cases hj
theorem fnS_ok {bs : List (List Spot)} {fs : List Int} (h : PlanOk bs fs) {i : Nat} : ∀ q ∈ fnS bs fs i, SpotOk bs.length fs.length q := by
  intro q hq
  obtain ⟨k, b, h1, -, -, h2⟩ := fnS_mem hq
  exact h.ok b (List.mem_of_getElem? h1) q h2
/-- where a function's spots stand -/
theorem fn_place {bs : List (List Spot)} {fs : List Int} (h : PlanOk bs fs) {i : Nat} (hi : i < fs.length) {s : Sp} (hs : s ∈ planS bs fs (atB bs (fnA fs i)) (fnS bs fs i)) : atB bs (fnA fs i) ≤ s.p ∧ s.p + s.z ≤ atB bs (fnZ bs fs i) ∧ 1 ≤ s.z := by
  obtain ⟨x, q, y, hx, rfl⟩ := planS_mem hs
  have hok := fnS_ok h (i := i)
  have h0 := szL_bd x (fun u hu => hok u (by rw [hx]; simp [hu]))
  have h1 := szL_bd y (fun u hu => hok u (by rw [hx]; simp [hu]))
  have h2 := szS_bd (hok q (by rw [hx]; simp))
  have h3 := szL_fn bs (a := fnA fs i) (z := fnZ bs fs i) (by have := fn_az h hi; omega)
  have h4 : szL (fnS bs fs i) = szL x + (szS q + szL y) := by rw [hx, szL_app]; rfl
  unfold fnS at h4
  simp only
  omega
theorem fn_order {bs : List (List Spot)} {fs : List Int} (h : PlanOk bs fs) {i : Nat} : ∀ d, i + 1 + d < fs.length → fnZ bs fs i ≤ fnA fs (i + 1 + d)
  | 0, hd => by
    obtain ⟨h1, h2, h3, h4⟩ := fn_az h (i := i) (by omega)
    obtain ⟨k1, k2, k3, k4⟩ := fn_az h (i := i + 1 + 0) hd
    have e : endB bs fs i = (fnA fs (i + 1 + 0) : Int) := by
      unfold endB
      rw [if_pos (by omega), show ((i : Int) + 1).toNat = i + 1 + 0 by omega, List.getD_eq_getElem?_getD, k1]
      rfl
    omega
  | d + 1, hd => by
    have ih := fn_order h (i := i) d (by omega)
    obtain ⟨k1, k2, k3, k4⟩ := fn_az h (i := i + 1 + d) (by omega)
    obtain ⟨j1, j2, j3, j4⟩ := fn_az h (i := i + 1 + (d + 1)) hd
    have := h.fi (i + 1 + d) _ _ k1 j1
    omega
theorem atB_le2 {bs : List (List Spot)} {fs : List Int} (h : PlanOk bs fs) {a b : Nat} (hab : a ≤ b) (hb : b ≤ bs.length) : atB bs a ≤ atB bs b := by
  rcases Nat.lt_or_ge a b with h1 | h1
  · have := atB_lt2 h (a := a) (b := b) (by omega) (by omega) (by omega)
    omega
  · rw [show a = b by omega]
    exact Int.le_refl _
/-- all functions' spots -/
def allP (bs : List (List Spot)) (fs : List Int) : List (List Sp) := (List.range fs.length).map fun i => planS bs fs (atB bs (fnA fs i)) (fnS bs fs i)
theorem allP_at {bs : List (List Spot)} {fs : List Int} {i : Nat} {l : List Sp} (h : (allP bs fs)[i]? = some l) : i < fs.length ∧ l = planS bs fs (atB bs (fnA fs i)) (fnS bs fs i) := by
  unfold allP at h
  rw [List.getElem?_map, Option.map_eq_some_iff] at h
  obtain ⟨x, hx, rfl⟩ := h
  obtain ⟨h1, h2⟩ := List.getElem?_eq_some_iff.1 hx
  rw [List.length_range] at h1
  rw [List.getElem_range] at h2
  subst h2
  exact ⟨h1, rfl⟩
theorem allP_is {bs : List (List Spot)} {fs : List Int} {i : Nat} (h : i < fs.length) : (allP bs fs)[i]? = some (planS bs fs (atB bs (fnA fs i)) (fnS bs fs i)) := by
  unfold allP
  rw [List.getElem?_map, List.getElem?_eq_getElem (by simpa using h), List.getElem_range]
  rfl
theorem sweepAll_map {α : Type} (text : List Int) (g : α → FnD) (k : α → List Sp) : ∀ (l : List α), (∀ x ∈ l, sweepL text (g x) = some (k x)) → sweepAll text (l.map g) = some (l.map k)
  | [], _ => rfl
  | x :: r, h => by
    show (sweepL text (g x)).bind (fun l => (sweepAll text (r.map g)).map (l :: ·)) = _
    rw [h x (by simp), sweepAll_map text g k r fun y hy => h y (by simp [hy])]
    rfl
theorem prog_sweep {bs : List (List Spot)} {fs : List Int} (h : PlanOk bs fs) (hin : PlanIn bs fs) (hk : ∀ i ∈ progI bs fs, i.chk = 0) : sweepAll (encAll (progI bs fs)) (fnL bs fs) = some (allP bs fs) := by
  unfold fnL allP
  exact sweepAll_map _ _ _ _ fun i hi => fn_sweep h hin hk (by simpa using hi)
theorem foldUp_at (g : Int) (q : Int) : ∀ (l : List Sp) (own : Int → Option Int), ((∃ s ∈ l, s.p = q) ∨ own q = some g) → l.foldl (fun o s => upF o s.p (some g)) own q = some g
  | [], own, h => by
    rcases h with ⟨s, hs, -⟩ | h
    · cases hs
    · exact h
  | a :: r, own, h => by
    refine foldUp_at g q r _ ?_
    by_cases e : a.p = q
    · right
      show (if q = a.p then some g else own q) = some g
      rw [if_pos e.symm]
    · rcases h with ⟨s, hs, h2⟩ | h
      · rcases List.mem_cons.1 hs with rfl | hs
        · exact absurd h2 e
        · exact .inl ⟨s, hs, h2⟩
      · right
        show (if q = a.p then some g else own q) = some g
        split
        · rfl
        · exact h
theorem finOwn_at (q : Int) : ∀ (ls : List (List Sp)) (f : Int) (own : Int → Option Int) (x : Int), own q = some x → (∀ (j : Nat) (l : List Sp), ls[j]? = some l → ∀ s ∈ l, s.p = q → x = f + j) → finOwn ls f own q = some x
  | [], f, own, x, h, _ => h
  | a :: r, f, own, x, h, hu => by
    refine finOwn_at q r (f + 1) _ x ?_ (fun j l hl s hs e => ?_)
    · by_cases e : ∃ s ∈ a, s.p = q
      · obtain ⟨s, hs, hq⟩ := e
        have := hu 0 a rfl s hs hq
        have h2 := foldUp_at f q a own (.inl ⟨s, hs, hq⟩)
        rw [h2, this]
        congr 1
        omega
      · rcases hh : a.foldl (fun o s => upF o s.p (some f)) own q with _ | y
        · have : ∀ (l : List Sp) (own : Int → Option Int), own q = some x → (l.foldl (fun o s => upF o s.p (some f)) own q).isSome = true := by
            intro l
            induction l with
            | nil => intro own h; rw [List.foldl_nil, h]; rfl
            | cons s r ih =>
              intro own h
              by_cases es : s.p = q
              · have := foldUp_at f q (s :: r) own (.inl ⟨s, by simp, es⟩)
                rw [this]
                rfl
              · refine ih _ ?_
                show (if q = s.p then some f else own q) = some x
                rw [if_neg (fun e => es e.symm), h]
          have h2 := this a own h
          rw [hh] at h2
          cases h2
        · rcases foldUp_in f q y a own hh with ⟨-, hs⟩ | h2
          · exact absurd hs e
          · rw [h] at h2
            exact hh.trans h2.symm
    · have := hu (j + 1) l (by rw [List.getElem?_cons_succ]; exact hl) s hs e
      omega
theorem finOwn_first (q : Int) : ∀ (ls : List (List Sp)) (f : Int) (own : Int → Option Int) (j : Nat) (l : List Sp), ls[j]? = some l → (∃ s ∈ l, s.p = q) → (∀ (j' : Nat) (l' : List Sp), ls[j']? = some l' → ∀ s ∈ l', s.p = q → j = j') → finOwn ls f own q = some (f + j)
  | [], f, own, j, l, h, _, _ => by simp at h
  | a :: r, f, own, j, l, h, hs, hu => by
    cases j with
    | zero =>
      simp only [List.getElem?_cons_zero, Option.some.injEq] at h
      subst h
      refine finOwn_at q r (f + 1) _ _ ?_ (fun j' l' hl' s hs' e => ?_)
      · rw [foldUp_at f q a own (.inl hs)]
        simp
      · have := hu (j' + 1) l' (by rw [List.getElem?_cons_succ]; exact hl') s hs' e
        omega
    | succ j =>
      rw [List.getElem?_cons_succ] at h
      have ih := finOwn_first q r (f + 1) (a.foldl (fun o s => upF o s.p (some f)) own) j l h hs (fun j' l' hl' s hs' e => by
        have := hu (j' + 1) l' (by rw [List.getElem?_cons_succ]; exact hl') s hs' e
        omega)
      show finOwn r (f + 1) _ q = _
      rw [ih]
      congr 1
      omega
/-- a function owns what stands in it -/
theorem own_fn {bs : List (List Spot)} {fs : List Int} (h : PlanOk bs fs) {i : Nat} (hi : i < fs.length) {s : Sp} (hs : s ∈ planS bs fs (atB bs (fnA fs i)) (fnS bs fs i)) : ownA (allP bs fs) s.p = some (i : Int) := by
  have h1 := finOwn_first s.p (allP bs fs) 0 (fun _ => none) i _ (allP_is hi) ⟨s, hs, rfl⟩ (fun j l hl t ht e => by
    obtain ⟨hj, rfl⟩ := allP_at hl
    have p1 := fn_place h hi hs
    have p2 := fn_place h hj ht
    have a1 := fn_az h hi
    have a2 := fn_az h hj
    rcases Nat.lt_trichotomy i j with hij | hij | hij
    · have := fn_order h (i := i) (j - i - 1) (by omega)
      rw [show i + 1 + (j - i - 1) = j by omega] at this
      have := atB_le2 h this (by omega)
      omega
    · exact hij
    · have := fn_order h (i := j) (i - j - 1) (by omega)
      rw [show j + 1 + (i - j - 1) = i by omega] at this
      have := atB_le2 h this (by omega)
      omega)
  unfold ownA
  rw [h1]
  simp
/-- a block's beginning is a spot of its function -/
theorem block_spot {bs : List (List Spot)} {fs : List Int} (h : PlanOk bs fs) {i : Nat} (hi : i < fs.length) {k : Nat} (h1 : fnA fs i ≤ k) (h2 : k < fnZ bs fs i) : ∃ s ∈ planS bs fs (atB bs (fnA fs i)) (fnS bs fs i), s.p = atB bs (k : Int) := by
  obtain ⟨a1, a2, a3, a4⟩ := fn_az h hi
  have hb : bs[k]? = some (bs[k]'(by omega)) := List.getElem?_eq_getElem _
  have hne := h.ne _ (List.mem_of_getElem? hb)
  obtain ⟨q, r, hq⟩ : ∃ q r, bs[k]'(by omega) = q :: r := List.exists_cons_of_ne_nil hne
  have e : fnS bs fs i = ((bs.take k).drop (fnA fs i)).flatten ++ (q :: (r ++ ((bs.take (fnZ bs fs i)).drop (k + 1)).flatten)) := by
    unfold fnS
    have e1 : (bs.take (fnZ bs fs i)).drop (fnA fs i) = (bs.take k).drop (fnA fs i) ++ (bs.take (fnZ bs fs i)).drop k := by
      have e2 : bs.take (fnZ bs fs i) = bs.take k ++ (bs.take (fnZ bs fs i)).drop k := by
        conv => lhs; rw [← List.take_append_drop k (bs.take (fnZ bs fs i))]
        rw [List.take_take, Nat.min_eq_left (by omega)]
      conv => lhs; rw [e2]
      rw [List.drop_append_of_le_length (by rw [List.length_take]; omega)]
    have e3 : (bs.take (fnZ bs fs i)).drop k = (q :: r) :: (bs.take (fnZ bs fs i)).drop (k + 1) := by
      rw [List.drop_eq_getElem_cons (by rw [List.length_take]; omega)]
      congr 1
      rw [List.getElem_take]
      exact hq
    rw [e1, List.flatten_append, e3]
    rfl
  have hat := szL_fn bs (a := fnA fs i) (z := k) h1
  refine ⟨⟨atB bs (k : Int), szS q, resI bs fs (atB bs (k : Int)) q⟩, ?_, rfl⟩
  rw [e, planS_app]
  apply List.mem_append.2
  right
  rw [show atB bs (fnA fs i) + szL ((bs.take k).drop (fnA fs i)).flatten = atB bs (k : Int) by omega]
  exact List.mem_cons_self
theorem own_block {bs : List (List Spot)} {fs : List Int} (h : PlanOk bs fs) {i : Nat} (hi : i < fs.length) {k : Int} (h1 : (fnA fs i : Int) ≤ k) (h2 : k < (fnZ bs fs i : Int)) : ownA (allP bs fs) (atB bs k) = some (i : Int) := by
  obtain ⟨q, rfl⟩ := Int.eq_ofNat_of_zero_le (show 0 ≤ k by omega)
  obtain ⟨s, hs, e⟩ := block_spot h hi (k := q) (by omega) (by omega)
  rw [← e]
  exact own_fn h hi hs
theorem ownGo_is (bs : List (List Spot)) (fs : List Int) (t : Int) : ∀ (F : Nat) (o : Int), ownGo bs fs t F = some o → ∀ i, i < F → ((bs.take (fnZ bs fs i)).drop (fnA fs i)).any (endsT · t) = true → o = i
  | 0, o, h, i, hi, _ => by omega
  | F + 1, o, h, i, hi, hb => by
    simp only [ownGo] at h
    split at h
    · cases h
    · rename_i o' ho'
      rcases Nat.lt_or_ge i F with hl | hl
      · have := ownGo_is bs fs t F o' ho' i hl hb
        split at h
        · rw [if_pos (by omega)] at h
          cases h
        · simp only [Option.some.injEq] at h
          omega
      · have : i = F := by omega
        subst this
        have hb' : ((bs.take (endB bs fs i).toNat).drop (fs.getD i 0).toNat).any (endsT · t) = true := hb
        rw [if_pos hb'] at h
        split at h
        · cases h
        · simp only [Option.some.injEq] at h
          omega
/-- where a table leads -/
theorem tab_own {bs : List (List Spot)} {fs : List Int} (h : PlanOk bs fs) (L : List RawI) (t : Nat) {x : Int} (hx : x ∈ tabAt bs fs L t) : 0 ≤ ownerF bs fs t ∧ ownA (allP bs fs) x = some (ownerF bs fs t) := by
  unfold tabAt at hx
  split at hx
  · rename_i h0
    refine ⟨h0, ?_⟩
    have hb := owner_bd bs fs t
    obtain ⟨o, ho⟩ := Int.eq_ofNat_of_zero_le h0
    rw [ho] at hx hb ⊢
    have hi : o < fs.length := by omega
    obtain ⟨a1, a2, a3, a4⟩ := fn_az h hi
    obtain ⟨j, -, rfl⟩ := List.mem_map.1 hx
    have e : fs.getD ((o : Nat) : Int).toNat 0 = (fnA fs o : Int) := by rw [Int.toNat_natCast, List.getD_eq_getElem?_getD, a1]; rfl
    rw [e, a2]
    have hp := pickL_bd (rawAt L (t + j)).a ((fnZ bs fs o : Int) - fnA fs o) (by omega)
    exact own_block h hi (by omega) (by omega)
  · cases hx
theorem tabsLd_some (own : Int → Option Int) : ∀ (l : List Int) (ld : Int → Bool), (∀ x ∈ l, (own x).isSome = true) → ∃ ld', tabsLd own l ld = some ld'
  | [], ld, _ => ⟨ld, rfl⟩
  | x :: r, ld, h => by
    obtain ⟨ld', e⟩ := tabsLd_some own r (upF ld x true) fun y hy => h y (by simp [hy])
    refine ⟨ld', ?_⟩
    show (if (own x).isSome = true then tabsLd own r (upF ld x true) else none) = _
    rw [if_pos (h x (by simp)), e]
theorem markGo_some {m : Img} {own : Int → Option Int} {f : Int} : ∀ (l : List Sp) (ld : Int → Bool), (∀ s ∈ l, ∀ ld, ∃ ld', markS m own f s ld = some ld') → ∃ ld', markGo m own f l ld = some ld'
  | [], ld, _ => ⟨ld, rfl⟩
  | s :: r, ld, h => by
    obtain ⟨l1, e1⟩ := h s (by simp) ld
    obtain ⟨l2, e2⟩ := markGo_some r l1 fun t ht => h t (by simp [ht])
    refine ⟨l2, ?_⟩
    show (markS m own f s ld).bind (markGo m own f r) = _
    rw [e1]
    exact e2
theorem markAll_some {m : Img} {own : Int → Option Int} : ∀ (l : List (FnD × List Sp)) (f : Int) (ld : Int → Bool), (∀ (j : Nat) (x : FnD × List Sp), l[j]? = some x → ∀ ld, ∃ ld', markGo m own (f + j) x.2 ld = some ld') → ∃ ld', markAll m own l f ld = some ld'
  | [], f, ld, _ => ⟨ld, rfl⟩
  | x :: r, f, ld, h => by
    obtain ⟨l1, e1⟩ := h 0 x rfl (upF ld x.1.start true)
    obtain ⟨l2, e2⟩ := markAll_some r (f + 1) l1 fun j y hy ld => by
      have := h (j + 1) y (by rw [List.getElem?_cons_succ]; exact hy) ld
      rw [show f + 1 + (j : Int) = f + ((j + 1 : Nat) : Int) by omega]
      exact this
    refine ⟨l2, ?_⟩
    show (markGo m own f x.2 (upF ld x.1.start true)).bind (markAll m own r (f + 1)) = _
    rw [show f + ((0 : Nat) : Int) = f by omega] at e1
    rw [e1]
    exact e2
/-- a spot of a plan, marked: nothing is amiss -/
theorem mark_plan {bs : List (List Spot)} {fs : List Int} (h : PlanOk bs fs) (hin : PlanIn bs fs) (L : List RawI) {i : Nat} (hi : i < fs.length) {s : Sp} (hs : s ∈ planS bs fs (atB bs (fnA fs i)) (fnS bs fs i)) (ld : Int → Bool) :
    ∃ ld', markS (imgOf bs fs L) (ownA (allP bs fs)) i s ld = some ld' := by
  obtain ⟨a1, a2, a3, a4⟩ := fn_az h hi
  obtain ⟨x, q, y, hx, rfl⟩ := planS_mem hs
  have hq : q ∈ fnS bs fs i := by rw [hx]; simp
  obtain ⟨k, b, hb, k1, k2, hqb⟩ := fnS_mem hq
  obtain ⟨j, hj⟩ := List.getElem?_of_mem hqb
  obtain ⟨c1, c2, c3, c4, c5, c6, c7⟩ := fnS_ok h q hq
  obtain ⟨p, hp⟩ : ∃ z, atB bs (fnA fs i) + szL x = z := ⟨_, rfl⟩
  rw [hp]
  have ek : (resI bs fs p q).k = q.i.k := rfl
  unfold markS
  simp only
  by_cases g1 : (branchI (resI bs fs p q) || (resI bs fs p q).k == 22) = true
  · rw [if_pos g1]
    have hk18 : 18 ≤ q.i.k ∧ q.i.k ≤ 22 := by
      rw [Bool.or_eq_true, beq_iff_eq, ek] at g1
      unfold branchI at g1
      rw [Bool.and_eq_true, decide_eq_true_eq, decide_eq_true_eq, ek] at g1
      omega
    have hblk : 0 ≤ q.blk := by
      rcases Int.lt_or_le q.blk 0 with hn | hn
      · rcases Int.lt_or_le q.fn 0 with hf | hf
        · have := c7 hn hf
          omega
        · have := (c6 hf).1
          omega
      · exact hn
    have hfn : q.fn = -1 := (c5 hblk).2.2.2
    have hn : (resI bs fs p q).n = atB bs q.blk - p := by
      show (if 0 ≤ q.fn then _ else if 0 ≤ q.blk then atB bs q.blk - p else q.i.n) = _
      rw [if_neg (by omega), if_pos hblk]
    have hto := hin.inn i _ a1 k b hb (by omega) (by rw [a2]; omega) j q hj hblk
    rw [a2] at hto
    rw [hn, show p + (atB bs q.blk - p) = atB bs q.blk by omega, own_block h hi hto.1 hto.2, if_pos (by simp)]
    exact ⟨_, rfl⟩
  · rw [if_neg g1]
    by_cases g2 : stopsI (resI bs fs p q) = true
    · rw [if_pos g2]
      by_cases g3 : q.i.k = 24
      · have hblk : q.blk = -1 := by
          rcases Int.lt_or_le q.blk 0 with hn | hn
          · omega
          · have := (c5 hn)
            omega
        have hfn : q.fn = -1 := by
          rcases Int.lt_or_le q.fn 0 with hn | hn
          · omega
          · have := (c6 hn).1
            omega
        have hn : (resI bs fs p q).n = q.i.n := by
          show (if 0 ≤ q.fn then _ else if 0 ≤ q.blk then atB bs q.blk - p else q.i.n) = _
          rw [if_neg (by omega), if_neg (by omega)]
        have hn0 := (chk_n c1).2 g3
        obtain ⟨t, ht⟩ := Int.eq_ofNat_of_zero_le hn0
        rw [ek, hn, ht, Int.toNat_natCast]
        rw [if_neg]
        · exact ⟨_, rfl⟩
        · intro hc
          rw [Bool.and_eq_true, Bool.and_eq_true] at hc
          obtain ⟨⟨-, hc1⟩, hc2⟩ := hc
          rw [decide_eq_true_eq] at hc1
          have ht3 : t < 3 := by
            have e : (imgOf bs fs L).tables.length = 3 := by simp [imgOf, tabL]
            rw [e] at hc1
            omega
          obtain ⟨v, hv, hv2⟩ := List.any_eq_true.1 hc2
          have e : (imgOf bs fs L).tables.getD t [] = tabAt bs fs L t := by
            show ((List.range 3).map (tabAt bs fs L)).getD t [] = _
            rw [List.getD_eq_getElem?_getD, List.getElem?_map, List.getElem?_eq_getElem (by simpa using ht3), List.getElem_range]
            rfl
          rw [e] at hv
          obtain ⟨o1, o2⟩ := tab_own h L t hv
          have hend : ((bs.take (fnZ bs fs i)).drop (fnA fs i)).any (endsT · (t : Int)) = true := by
            rw [List.any_eq_true]
            refine ⟨b, ?_, ?_⟩
            · refine List.mem_of_getElem? (i := k - fnA fs i) ?_
              rw [List.getElem?_drop, show fnA fs i + (k - fnA fs i) = k by omega, List.getElem?_take, if_pos k2, hb]
            · have hjl := (List.getElem?_eq_some_iff.1 hj).1
              have hlast : j + 1 = b.length := by
                rcases Nat.lt_or_ge (j + 1) b.length with hl | hl
                · have := hin.mid k b hb j q hl hj
                  omega
                · omega
              rw [endsT_last hlast.symm hj, g3, ht]
              simp
          have howner : ownerF bs fs (t : Int) = (i : Int) := by
            unfold ownerF at o1 ⊢
            rcases hg : ownGo bs fs (t : Int) fs.length with _ | o
            · rw [hg] at o1
              simp only [Option.getD_none] at o1
              omega
            · exact ownGo_is bs fs (t : Int) fs.length o hg i hi hend
          rw [o2, howner] at hv2
          simp at hv2
      · rw [if_neg]
        · exact ⟨_, rfl⟩
        · intro hc
          rw [Bool.and_eq_true, Bool.and_eq_true, beq_iff_eq, ek] at hc
          exact g3 hc.1.1
    · rw [if_neg g2]
      by_cases g3 : q.i.k = 23
      · rw [ek, if_pos g3]
        have hfn : 0 ≤ q.fn := by
          rcases Int.lt_or_le q.fn 0 with hn | hn
          · rcases Int.lt_or_le q.blk 0 with hb0 | hb0
            · have := c7 hb0 hn
              omega
            · have := c5 hb0
              omega
          · exact hn
        have hn : (resI bs fs p q).n = atB bs (fs.getD q.fn.toNat 0) - p := by
          show (if 0 ≤ q.fn then atB bs (fs.getD q.fn.toNat 0) - p else _) = _
          rw [if_pos hfn]
        rw [hn, show p + (atB bs (fs.getD q.fn.toNat 0) - p) = atB bs (fs.getD q.fn.toNat 0) by omega, if_pos]
        · exact ⟨_, rfl⟩
        · rw [List.any_eq_true]
          refine ⟨fnAt bs fs q.fn.toNat, ?_, ?_⟩
          · show fnAt bs fs q.fn.toNat ∈ (List.range fs.length).map (fnAt bs fs)
            exact List.mem_map_of_mem (by rw [List.mem_range]; omega)
          · simp [fnAt]
      · rw [ek, if_neg g3]
        exact ⟨_, rfl⟩
/-- A PROGRAM RECOVERS -/
theorem prog_rec {bs : List (List Spot)} {fs : List Int} (h : PlanOk bs fs) (hin : PlanIn bs fs) (hk : ∀ i ∈ progI bs fs, i.chk = 0) (L : List RawI) :
    ∃ ld0 ld, sweepAll (imgOf bs fs L).text (imgOf bs fs L).funcs = some (allP bs fs) ∧ tabsLd (ownA (allP bs fs)) (imgOf bs fs L).tables.flatten (fun _ => false) = some ld0 ∧
      markAll (imgOf bs fs L) (ownA (allP bs fs)) ((imgOf bs fs L).funcs.zip (allP bs fs)) 0 ld0 = some ld := by
  have h1 := prog_sweep h hin hk
  obtain ⟨ld0, h2⟩ := tabsLd_some (ownA (allP bs fs)) (imgOf bs fs L).tables.flatten (fun _ => false) (fun x hx => by
    obtain ⟨t, ht, hxt⟩ := List.mem_flatten.1 hx
    obtain ⟨q, -, rfl⟩ := List.mem_map.1 (show t ∈ (List.range 3).map (tabAt bs fs L) from ht)
    rw [(tab_own h L q hxt).2]
    rfl)
  obtain ⟨ld, h3⟩ := markAll_some (m := imgOf bs fs L) (own := ownA (allP bs fs)) ((imgOf bs fs L).funcs.zip (allP bs fs)) 0 ld0 (fun j x hx ld => by
    obtain ⟨f, l⟩ := x
    have hl : (allP bs fs)[j]? = some l := by
      rw [List.getElem?_zip_eq_some] at hx
      exact hx.2
    obtain ⟨hj, rfl⟩ := allP_at hl
    rw [Int.zero_add]
    exact markGo_some _ ld fun s hs ld => mark_plan h hin L hj hs ld)
  exact ⟨ld0, ld, h1, h2, h3⟩
theorem IsPgm.rec {l : List RawI} {m : Img} (h : IsPgm l m) : ∃ d, recL m = some d := by
  obtain ⟨bs', h1, h2, h3, rfl⟩ := h
  have hin : PlanIn bs' _ := (progP_in l).same h2
  obtain ⟨ld0, ld, a1, a2, a3⟩ := prog_rec h1 hin h3 (progL l)
  exact ⟨_, rec_some a1 a2 a3⟩
theorem IsPgm.recE {l : List RawI} {m : Img} (h : IsPgm l m) : recE m = 0 := by
  obtain ⟨d, hd⟩ := h.rec
  have ht := h.text
  unfold Go.Proofs.YtlekjnnofhjgjaaDoor.recE
  rw [h.check, if_neg (by simp), if_neg (by omega), hd]
  rfl
end Go.Proofs.YtlekjnnofhjgjaaDoor
