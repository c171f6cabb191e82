/- What a program's flow is. -/
import Derived.Test.YtlekjnnofhjgjaaDoorRcvU
namespace Go.Proofs.YtlekjnnofhjgjaaDoor
open Go.RowKit
theorem CInv.head {m : Img} {ld : Int → Bool} {done : List FSp} {gs : List (List FSp)} {c : CutD} (h : CInv m ld done gs c) {x : FSp} (hx : x ∈ done) (hl : ld x.2.p = true) : ∃ (j : Nat) (r : List FSp), gs[j]? = some (x :: r) := by
  rw [← h.flat] at hx
  obtain ⟨g, hg, hx⟩ := List.mem_flatten.1 hx
  obtain ⟨j, hj⟩ := List.getElem?_of_mem hg
  obtain ⟨y, r, rfl, g1, g2, g3⟩ := h.ok g hg
  rcases List.mem_cons.1 hx with rfl | hx
  · exact ⟨j, r, hj⟩
  · rw [g2 x hx] at hl
    cases hl
theorem finOwn_of (q x : Int) : ∀ (ls : List (List Sp)) (f : Int) (own : Int → Option Int), finOwn ls f own q = some x → (∃ (j : Nat) (l : List Sp), ls[j]? = some l ∧ x = f + j ∧ ∃ s ∈ l, s.p = q) ∨ own q = some x
  | [], f, own, h => .inr h
  | a :: r, f, own, h => by
    rcases finOwn_of q x r (f + 1) _ h with ⟨j, l, k1, k2, k3⟩ | h1
    · exact .inl ⟨j + 1, l, by rw [List.getElem?_cons_succ]; exact k1, by omega, k3⟩
    · rcases foldUp_in f q x a own h1 with ⟨h2, h3⟩ | h2
      · exact .inl ⟨0, a, rfl, by omega, h3⟩
      · exact .inr h2
theorem tagS_in {s : Sp} : ∀ (ls : List (List Sp)) (f : Int) (j : Nat) (l : List Sp), ls[j]? = some l → s ∈ l → (f + (j : Int), s) ∈ tagS f ls
  | [], f, j, l, h, _ => by simp at h
  | a :: r, f, j, l, h, hs => by
    show _ ∈ a.map (fun s => (f, s)) ++ tagS (f + 1) r
    cases j with
    | zero =>
      simp only [List.getElem?_cons_zero, Option.some.injEq] at h
      subst h
      refine List.mem_append.2 (.inl (List.mem_map.2 ⟨s, hs, ?_⟩))
      rw [show f + ((0 : Nat) : Int) = f by omega]
    | succ j =>
      rw [List.getElem?_cons_succ] at h
      have := tagS_in r (f + 1) j l h hs
      rw [show f + 1 + (j : Int) = f + ((j + 1 : Nat) : Int) by omega] at this
      exact List.mem_append.2 (.inr this)
theorem tagS_le : ∀ (ls : List (List Sp)) (f : Int), (tagS f ls).Pairwise (fun x y => x.1 ≤ y.1) ∧ ∀ x ∈ tagS f ls, f ≤ x.1
  | [], f => ⟨List.Pairwise.nil, fun x hx => by cases hx⟩
  | l :: r, f => by
    obtain ⟨h1, h2⟩ := tagS_le r (f + 1)
    have h3 : ∀ x ∈ l.map (fun s => (f, s)), x.1 = f := fun x hx => by
      obtain ⟨s, -, rfl⟩ := List.mem_map.1 hx
      rfl
    refine ⟨?_, fun x hx => ?_⟩
    · show (l.map (fun s => (f, s)) ++ tagS (f + 1) r).Pairwise _
      refine List.pairwise_append.2 ⟨?_, h1, fun a ha b hb => ?_⟩
      · refine List.Pairwise.imp_of_mem (R := fun _ _ => True) (fun ha hb _ => ?_) (List.pairwise_of_forall (fun _ _ => trivial))
        rw [h3 _ ha, h3 _ hb]
        exact Int.le_refl _
      · have := h2 b hb
        rw [h3 a ha]
        omega
    · rcases List.mem_append.1 (show x ∈ l.map (fun s => (f, s)) ++ tagS (f + 1) r from hx) with hx | hx
      · rw [h3 x hx]
        exact Int.le_refl _
      · have := h2 x hx
        omega
theorem cutAll_firsts (m : Img) (ld : Int → Bool) (all : List (List Sp)) : ∀ i, i ≤ all.length → (cutAll m ld (all.take i) 0 ⟨[], fun _ => none⟩ []).2.length = i ∧
    ∀ j, j < i → (cutAll m ld (all.take i) 0 ⟨[], fun _ => none⟩ []).2[j]? = some (((tagS 0 (all.take j)).foldl (cut1 m ld) ⟨[], fun _ => none⟩).bs.length : Int)
  | 0, _ => ⟨rfl, fun j hj => by omega⟩
  | i + 1, hi => by
    obtain ⟨h1, h2⟩ := cutAll_firsts m ld all i (by omega)
    have hx : all[i]? = some (all[i]'(by omega)) := List.getElem?_eq_getElem _
    have e : all.take (i + 1) = all.take i ++ [all[i]'(by omega)] := by rw [List.take_add_one, hx]; rfl
    rw [e, cutAll_snoc]
    refine ⟨by simp [h1], fun j hj => ?_⟩
    rcases Nat.lt_or_ge j i with hl | hl
    · rw [List.getElem?_append_left (by omega)]
      exact h2 j hl
    · have hj0 : j = i := by omega
      subst hj0
      rw [List.getElem?_append_right (by omega), h1, Nat.sub_self, List.getElem?_cons_zero, cutAll_tag]
theorem tagS_last {x : FSp} {r : List FSp} : ∀ (ls : List (List Sp)) (f : Int) (d : List FSp), tagS f ls = d ++ x :: r →
    (∃ (j : Nat) (l : List Sp), ls[j]? = some l ∧ x.1 = f + j ∧ l.getLast? = some x.2) ∨ ∃ y r', r = y :: r' ∧ y.1 = x.1
  | [], f, d, h => by
    have h' : ([] : List FSp) = d ++ x :: r := h
    simp at h'
  | l :: ls, f, d, h => by
    have h' : l.map (fun s => (f, s)) ++ tagS (f + 1) ls = d ++ x :: r := h
    have shift : ∀ u, tagS (f + 1) ls = u ++ x :: r → (∃ (j : Nat) (l' : List Sp), (l :: ls)[j]? = some l' ∧ x.1 = f + j ∧ l'.getLast? = some x.2) ∨ ∃ y r', r = y :: r' ∧ y.1 = x.1 := fun u h2 => by
      rcases tagS_last ls (f + 1) u h2 with ⟨j, l', k1, k2, k3⟩ | h3
      · exact .inl ⟨j + 1, l', by rw [List.getElem?_cons_succ]; exact k1, by omega, k3⟩
      · exact .inr h3
    rcases List.append_eq_append_iff.1 h' with ⟨u, h1, h2⟩ | ⟨u, h1, h2⟩
    · exact shift u h2
    · cases u with
      | nil =>
        rw [List.nil_append] at h2
        exact shift [] (by rw [List.nil_append]; exact h2.symm)
      | cons z u =>
        have hz : x = z ∧ r = u ++ tagS (f + 1) ls := by
          have : x :: r = z :: (u ++ tagS (f + 1) ls) := h2
          injection this with a b
          exact ⟨a, b⟩
        obtain ⟨rfl, hr⟩ := hz
        have hin : ∀ y, y ∈ x :: u → y.1 = f := fun y hy => by
          have : y ∈ l.map (fun s => (f, s)) := by rw [h1]; exact List.mem_append.2 (.inr hy)
          obtain ⟨s, -, e⟩ := List.mem_map.1 this
          rw [← e]
        cases u with
        | nil =>
          left
          refine ⟨0, l, rfl, by rw [hin x (by simp)]; simp, ?_⟩
          rcases List.eq_nil_or_concat l with e | ⟨l', s, e⟩
          · rw [e] at h1
            simp at h1
          · rw [List.concat_eq_append] at e
            rw [e, List.map_append] at h1
            have h3 : [(f, s)] = [x] := (List.append_inj' h1 rfl).2
            have h4 : (f, s) = x := by injection h3
            rw [e, ← h4]
            simp
        | cons y u =>
          right
          exact ⟨y, u ++ tagS (f + 1) ls, hr, by rw [hin y (by simp), hin x (by simp)]⟩
theorem tabsLd_ld {own : Int → Option Int} : ∀ {l : List Int} {ld ld' : Int → Bool}, tabsLd own l ld = some ld' → (∀ q, ld q = true → ld' q = true) ∧ ∀ a ∈ l, ld' a = true
  | [], ld, ld', h => by
    injection h with h
    subst h
    exact ⟨fun _ h => h, fun a ha => by cases ha⟩
  | x :: r, ld, ld', h => by
    have h' : (if (own x).isSome = true then tabsLd own r (upF ld x true) else none) = some ld' := h
    split at h'
    · obtain ⟨h1, h2⟩ := tabsLd_ld h'
      refine ⟨fun q hq => h1 q (up_keep hq), fun a ha => ?_⟩
      rcases List.mem_cons.1 ha with rfl | ha
      · exact h1 a (by unfold upF; rw [if_pos rfl])
      · exact h2 a ha
    · cases h'
/-- WHAT A PROGRAM'S FLOW IS: S: its spots; gs: they, in groups -/
structure PgmF (m : Img) (ld : Int → Bool) (bm : Int → Option Int) (S : List FSp) (gs : List (List FSp)) (d : FlowD) : Prop where
  blocks : d.blocks = gs.map fun g => joinB bm (blkOf m g)
  tables : d.tables = m.tables.map fun t => t.map fun a => (bm a).getD 0
  flat : gs.flatten = S
  ok : ∀ g ∈ gs, GrpOk ld g
  bm : ∀ (j : Nat) (x : FSp) (r : List FSp), gs[j]? = some (x :: r) → bm x.2.p = some (j : Int)
  chain : ChainS 0 (S.map Prod.snd)
  dec : ∀ x ∈ S, decB m.text x.2.p = (x.2.i, x.2.z, 0)
  len : ∀ a x, S = a ++ [x] → x.2.p + x.2.z = (m.text.length : Int)
  nil : S ≠ []
  fns : S.Pairwise fun x y => x.1 ≤ y.1
  firsts : d.firsts.length = m.funcs.length ∧ ∀ (i : Nat) (n : Int), d.firsts[i]? = some n → ∃ f x r, m.funcs[i]? = some f ∧ 0 ≤ n ∧ gs[n.toNat]? = some (x :: r) ∧ x.2.p = f.start ∧ x.1 = i
  term : ∀ x ∈ S, (branchI x.2.i || x.2.i.k == 22 || stopsI x.2.i) = true → ld (x.2.p + x.2.z) = true
  goto : ∀ x ∈ S, (branchI x.2.i || x.2.i.k == 22) = true → ∃ (j : Nat) (y : FSp) (r : List FSp), gs[j]? = some (y :: r) ∧ y.2.p = x.2.p + x.2.i.n ∧ y.1 = x.1
  last : ∀ a x r, S = a ++ x :: r → (stopsI x.2.i || x.2.i.k == 22) = true ∨ ∃ y r', r = y :: r' ∧ y.1 = x.1
  call : ∀ x ∈ S, x.2.i.k = 23 → m.funcs.any (fun g => g.start == x.2.p + x.2.i.n) = true
  tab : ∀ x ∈ S, x.2.i.k = 24 → 0 ≤ x.2.i.n ∧ ∀ t, m.tables[x.2.i.n.toNat]? = some t → ∀ a ∈ t, ∃ (j : Nat) (y : FSp) (r : List FSp), gs[j]? = some (y :: r) ∧ y.2.p = a ∧ y.1 = x.1
theorem SOk.pre {ld : Int → Bool} {P R : List FSp} (h : SOk ld (P ++ R)) : SOk ld P :=
  ⟨fun d x r e => h.st d x (r ++ R) (by rw [e]; simp), fun d x r e => h.ap d x (r ++ R) (by rw [e]; simp)⟩
theorem sweepL_dec {text : List Int} {f : FnD} {l : List Sp} (h : sweepL text f = some l) {s : Sp} (hs : s ∈ l) : decB text s.p = (s.i, s.z, 0) := by
  unfold sweepL at h
  split at h
  · cases h
  · rename_i l' hg
    split at h
    · injection h with h
      subst h
      obtain ⟨j, hj⟩ := List.getElem?_of_mem hs
      exact (sweepGo_ok text (f.start + f.size) f.size.toNat f.start l' hg (by omega) j s hj).2.2
    · cases h
theorem planS_end {bs : List (List Spot)} {fs : List Int} {l : List Spot} {p : Int} {a : List Sp} {x : Sp} (h : planS bs fs p l = a ++ [x]) : x.p + x.z = p + szL l := by
  rcases List.eq_nil_or_concat l with e | ⟨l', q, e⟩
  · rw [e] at h
    simp [planS] at h
  · rw [List.concat_eq_append] at e
    rw [e, planS_app] at h
    have h2 := (List.append_inj' h rfl).2
    have h3 : (⟨p + szL l', szS q, resI bs fs (p + szL l') q⟩ : Sp) = x := by injection h2
    rw [← h3, e, szL_app]
    simp only [szL]
    omega
theorem prog_flow {bs : List (List Spot)} {fs : List Int} (h : PlanOk bs fs) (hin : PlanIn bs fs) (hk : ∀ i ∈ progI bs fs, i.chk = 0) (L : List RawI) :
    ∃ ld bm gs d, recL (imgOf bs fs L) = some d ∧ PgmF (imgOf bs fs L) ld bm (tagS 0 (allP bs fs)) gs d := by
  obtain ⟨ld0, ld, a1, a2, a3⟩ := prog_rec h hin hk L
  have hS := prog_sok h L a3
  obtain ⟨S, hSe⟩ : ∃ z, tagS 0 (allP bs fs) = z := ⟨_, rfl⟩
  obtain ⟨gs, hc, -⟩ := CInv.run S [] [] _ (CInv.start (imgOf bs fs L) ld) (by rw [← hSe]; exact hS)
  rw [List.nil_append] at hc
  have hpl : ∀ {j : Nat} {l : List Sp}, (allP bs fs)[j]? = some l → ((imgOf bs fs L).funcs.zip (allP bs fs))[j]? = some (fnAt bs fs j, l) := fun {j l} hj => by
    rw [List.getElem?_zip_eq_some]
    refine ⟨?_, hj⟩
    show ((List.range fs.length).map (fnAt bs fs))[j]? = _
    rw [List.getElem?_map, List.getElem?_eq_getElem (by simpa using (allP_at hj).1), List.getElem_range]
    rfl
  have hmk : ∀ x ∈ S, ∃ l1 l2, markS (imgOf bs fs L) (ownA (allP bs fs)) x.1 x.2 l1 = some l2 ∧ ∀ q, l2 q = true → ld q = true := fun x hx => by
    rw [← hSe] at hx
    obtain ⟨j, l, k1, k2, k3⟩ := tagS_mem _ _ hx
    rw [k2]
    exact markAll_mark a3 j _ (hpl k1) k3
  have hown : ∀ (f q : Int), ownA (allP bs fs) q = some f → ld q = true → ∃ (j : Nat) (y : FSp) (r : List FSp), gs[j]? = some (y :: r) ∧ y.2.p = q ∧ y.1 = f := fun f q ho hq => by
    rcases finOwn_of q f _ 0 _ ho with ⟨j, l, k1, k2, s, k3, k4⟩ | h1
    · have hx := tagS_in _ 0 j l k1 k3
      rw [hSe] at hx
      obtain ⟨i, r, hi⟩ := hc.head hx (by show ld s.p = true; rw [k4]; exact hq)
      exact ⟨i, _, r, hi, k4, k2.symm⟩
    · cases h1
  have hle := tagS_le (allP bs fs) 0
  have hch := prog_chain h
  have hbs : (S.foldl (cut1 (imgOf bs fs L) ld) ⟨[], fun _ => none⟩) = (cutAll (imgOf bs fs L) ld (allP bs fs) 0 ⟨[], fun _ => none⟩ []).1 := by rw [cutAll_tag, hSe]
  rw [hbs] at hc
  have hlen3 : (allP bs fs).length = fs.length := by simp [allP]
  rw [hSe] at hle hch
  refine ⟨ld, (cutAll (imgOf bs fs L) ld (allP bs fs) 0 ⟨[], fun _ => none⟩ []).1.bm, gs, _, rec_some a1 a2 a3, ⟨?_, rfl, by rw [hSe]; exact hc.flat, hc.ok, hc.bm, by rw [hSe]; exact hch, ?_, ?_, ?_, by rw [hSe]; exact hle.1, ⟨?_, ?_⟩, ?_, ?_, ?_, ?_, ?_⟩⟩
  · show ((cutAll (imgOf bs fs L) ld (allP bs fs) 0 ⟨[], fun _ => none⟩ []).1.bs.map _) = _
    rw [hc.bs, List.map_map]
    rfl
  · intro x hx
    obtain ⟨j, l, k1, k2, k3⟩ := tagS_mem _ _ hx
    obtain ⟨hj, rfl⟩ := allP_at k1
    exact sweepL_dec (fn_sweep h hin hk hj) k3
  · intro a x e
    have e2 := congrArg (List.map Prod.snd) e
    rw [tagS_snd, allP_all h, List.map_append] at e2
    have := planS_end e2
    have h3 : ((encAll (progI bs fs)).length : Int) = szL bs.flatten := resL_enc bs fs _ 0 hk
    show x.2.p + x.2.z = ((encAll (progI bs fs)).length : Int)
    omega
  · intro e
    have e2 := congrArg (List.map Prod.snd) e
    rw [tagS_snd, allP_all h] at e2
    have hb0 := h.fb 0 _ h.f0
    have := atB_T h (a := 0) (by omega) (by omega)
    cases hf : bs.flatten with
    | nil => rw [hf] at this; simp only [szL] at this; omega
    | cons q r => rw [hf] at e2; cases e2
  · have h1 := (cutAll_firsts (imgOf bs fs L) ld (allP bs fs) _ (Nat.le_refl _)).1
    rw [List.take_length] at h1
    show (cutAll (imgOf bs fs L) ld (allP bs fs) 0 ⟨[], fun _ => none⟩ []).2.length = (fnL bs fs).length
    rw [h1]
    simp [allP, fnL]
  · intro i n hn
    obtain ⟨h1, h2⟩ := cutAll_firsts (imgOf bs fs L) ld (allP bs fs) _ (Nat.le_refl _)
    rw [List.take_length] at h1 h2
    have hi : i < (allP bs fs).length := by
      have := (List.getElem?_eq_some_iff.1 hn).1
      exact Nat.lt_of_lt_of_eq this h1
    have hn2 := (h2 i hi).symm.trans hn
    injection hn2 with hn2
    have hil : i < fs.length := by omega
    obtain ⟨y0, q0, hy0, -⟩ := fnS_last h hin hil
    obtain ⟨q, rq, hq⟩ : ∃ q rq, fnS bs fs i = q :: rq := List.exists_cons_of_ne_nil (by rw [hy0]; simp)
    have hat := allP_is (bs := bs) hil
    rw [hq] at hat
    have hsplit : allP bs fs = (allP bs fs).take i ++ planS bs fs (atB bs (fnA fs i)) (q :: rq) :: (allP bs fs).drop (i + 1) := by
      obtain ⟨hi2, he⟩ := List.getElem?_eq_some_iff.1 hat
      rw [← he, ← List.drop_eq_getElem_cons hi2, List.take_append_drop]
    have hSs : S = tagS 0 ((allP bs fs).take i) ++ ((i : Int), (⟨atB bs (fnA fs i), szS q, resI bs fs (atB bs (fnA fs i)) q⟩ : Sp)) :: ((planS bs fs (atB bs (fnA fs i) + szS q) rq).map (fun s => ((i : Int), s)) ++ tagS ((i : Int) + 1) ((allP bs fs).drop (i + 1))) := by
      rw [← hSe]
      conv => lhs; rw [hsplit]
      rw [tagS_app, List.length_take, Nat.min_eq_left (by omega), Int.zero_add]
      rfl
    obtain ⟨x, hx⟩ : ∃ z : FSp, ((i : Int), (⟨atB bs (fnA fs i), szS q, resI bs fs (atB bs (fnA fs i)) q⟩ : Sp)) = z := ⟨_, rfl⟩
    obtain ⟨R, hR⟩ : ∃ z, (planS bs fs (atB bs (fnA fs i) + szS q) rq).map (fun s => ((i : Int), s)) ++ tagS ((i : Int) + 1) ((allP bs fs).drop (i + 1)) = z := ⟨_, rfl⟩
    obtain ⟨P, hP⟩ : ∃ z, tagS 0 ((allP bs fs).take i) = z := ⟨_, rfl⟩
    rw [hx, hR, hP] at hSs
    rw [hP] at hn2
    rw [hSe] at hS
    have hldx : ld x.2.p = true := by
      have := markAll_first a3 _ (List.mem_of_getElem? (hpl (allP_is hil)))
      rw [fnAt_is h hil] at this
      rw [← hx]
      exact this
    rw [hSs] at hS
    obtain ⟨g1, c1, -⟩ := CInv.run P [] [] _ (CInv.start (imgOf bs fs L) ld) (by rw [List.nil_append]; exact hS.pre)
    rw [List.nil_append] at c1
    obtain ⟨g2, c2, e2, -⟩ := c1.step (.inl hldx) (hS.ap P x R rfl)
    obtain ⟨g3, c3, e3⟩ := CInv.run R (P ++ [x]) g2 _ c2 (by rw [List.append_assoc]; exact hS)
    have hfold : R.foldl (cut1 (imgOf bs fs L) ld) (cut1 (imgOf bs fs L) ld (P.foldl (cut1 (imgOf bs fs L) ld) ⟨[], fun _ => none⟩) x) = (cutAll (imgOf bs fs L) ld (allP bs fs) 0 ⟨[], fun _ => none⟩ []).1 := by
      rw [← hbs, hSs, List.foldl_append]
      rfl
    rw [hfold] at c3
    have h4 : g2[g1.length]? = some (x :: []) := by rw [e2 hldx]; simp
    obtain ⟨r3, h5⟩ := e3 g1.length x [] h4
    have b1 := c3.bm _ _ _ h5
    obtain ⟨j, r, hj⟩ := hc.head (x := x) (by rw [hSs]; simp) hldx
    have b2 := hc.bm _ _ _ hj
    rw [b1] at b2
    injection b2 with b2
    have hl1 : (P.foldl (cut1 (imgOf bs fs L) ld) ⟨[], fun _ => none⟩).bs.length = g1.length := by rw [c1.bs, List.length_map]
    rw [hl1] at hn2
    refine ⟨fnAt bs fs i, x, r, ?_, by omega, ?_, ?_, ?_⟩
    · show ((List.range fs.length).map (fnAt bs fs))[i]? = _
      rw [List.getElem?_map, List.getElem?_eq_getElem (by simpa using hil), List.getElem_range]
      rfl
    · rw [show n.toNat = j by omega]
      exact hj
    · rw [fnAt_is h hil, ← hx]
    · rw [← hx]
  · intro x hx ht
    rw [hSe] at hx
    obtain ⟨l1, l2, k1, k2⟩ := hmk x hx
    apply k2
    unfold markS at k1
    split at k1
    · split at k1
      · injection k1 with k1
        rw [← k1]
        unfold upF
        rw [if_pos rfl]
      · cases k1
    · rename_i hnb
      have hst : stopsI x.2.i = true := by
        rw [Bool.or_eq_true] at ht
        rcases ht with ht | ht
        · exact absurd ht hnb
        · exact ht
      rw [if_pos hst] at k1
      split at k1
      · cases k1
      · injection k1 with k1
        rw [← k1]
        unfold upF
        rw [if_pos rfl]
  · intro x hx ht
    rw [hSe] at hx
    obtain ⟨l1, l2, k1, k2⟩ := hmk x hx
    unfold markS at k1
    rw [if_pos ht] at k1
    split at k1
    · rename_i ho
      injection k1 with k1
      refine hown _ _ (by simpa using ho) (k2 _ ?_)
      rw [← k1]
      exact up_keep (by unfold upF; rw [if_pos rfl])
    · cases k1
  · intro a x r e
    rcases tagS_last _ _ _ e with ⟨j, l, k1, k2, k3⟩ | h2
    · left
      obtain ⟨hj, rfl⟩ := allP_at k1
      obtain ⟨y, q, hy, hq⟩ := fnS_last h hin hj
      rw [hy, planS_app] at k3
      simp only [planS, List.getLast?_append, List.getLast?_singleton, Option.some_or, Option.some.injEq] at k3
      rw [← k3]
      rw [Bool.or_eq_true, beq_iff_eq]
      rcases hq with hq | hq
      · exact .inl hq
      · exact .inr hq
    · exact .inr h2
  · intro x hx h23
    rw [hSe] at hx
    obtain ⟨l1, l2, k1, k2⟩ := hmk x hx
    unfold markS at k1
    have e1 : (branchI x.2.i || x.2.i.k == 22) = false := by unfold branchI; rw [h23]; rfl
    have e2 : stopsI x.2.i = false := by unfold stopsI; rw [h23]; rfl
    rw [e1, e2, if_neg (by simp), if_neg (by simp), if_pos h23] at k1
    split at k1
    · assumption
    · cases k1
  · intro x hx h24
    have hdec : decB (encAll (progI bs fs)) x.2.p = (x.2.i, x.2.z, 0) := by
      obtain ⟨j, l, k1, k2, k3⟩ := tagS_mem _ _ hx
      obtain ⟨hj, rfl⟩ := allP_at k1
      exact sweepL_dec (fn_sweep h hin hk hj) k3
    have hchk := (decB_ok (show (decB (encAll (progI bs fs)) x.2.p).2.2 = 0 by rw [hdec])).1
    rw [hdec] at hchk
    have hn0 := (chk_n hchk).2 h24
    refine ⟨hn0, fun t ht a ha => ?_⟩
    rw [hSe] at hx
    obtain ⟨l1, l2, k1, k2⟩ := hmk x hx
    unfold markS at k1
    have e1 : (branchI x.2.i || x.2.i.k == 22) = false := by unfold branchI; rw [h24]; rfl
    have e2 : stopsI x.2.i = true := by unfold stopsI; rw [h24]; rfl
    rw [e1, e2, if_neg (by simp), if_pos rfl] at k1
    split at k1
    · cases k1
    · rename_i hc1
      have hlt := (List.getElem?_eq_some_iff.1 ht).1
      have ho : ownA (allP bs fs) a = some x.1 := by
        rcases Classical.em (ownA (allP bs fs) a = some x.1) with e | e
        · exact e
        · exfalso
          apply hc1
          rw [Bool.and_eq_true, Bool.and_eq_true, beq_iff_eq, decide_eq_true_eq]
          refine ⟨⟨h24, by omega⟩, List.any_eq_true.2 ⟨a, ?_, ?_⟩⟩
          · rw [List.getD_eq_getElem?_getD, ht]
            exact ha
          · simpa using e
      refine hown _ _ ho (markAll_keep a3 ((tabsLd_ld a2).2 a ?_))
      exact List.mem_flatten.2 ⟨t, List.mem_of_getElem? ht, ha⟩
theorem IsPgm.flow {l : List RawI} {m : Img} (h : IsPgm l m) : ∃ ld bm S gs d, recL m = some d ∧ PgmF m ld bm S gs d := by
  obtain ⟨bs', h1, h2, h3, rfl⟩ := h
  have hin : PlanIn bs' _ := (progP_in l).same h2
  obtain ⟨ld, bm, gs, d, a1, a2⟩ := prog_flow h1 hin h3 (progL l)
  exact ⟨ld, bm, _, gs, d, a1, a2⟩
end Go.Proofs.YtlekjnnofhjgjaaDoor
