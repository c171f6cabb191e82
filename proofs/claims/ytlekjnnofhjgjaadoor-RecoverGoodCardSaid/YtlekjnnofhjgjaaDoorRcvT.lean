/- The blocks that the cutting makes, as groups of spots. -/
import Derived.Test.YtlekjnnofhjgjaaDoorFlowT
import Derived.Test.YtlekjnnofhjgjaaDoorRcvS
namespace Go.Proofs.YtlekjnnofhjgjaaDoor
open Go.RowKit
/-- a spot and its function -/
abbrev FSp := Int × Sp
def blkOf (m : Img) : List FSp → BlkD
  | [] => newB 0 0
  | x :: r => (x :: r).foldl (fun b y => addB m y.2 b) (newB x.1 x.2.p)
theorem blkOf_snoc (m : Img) {g : List FSp} (h : g ≠ []) (x : FSp) : blkOf m (g ++ [x]) = addB m x.2 (blkOf m g) := by
  cases g with
  | nil => exact absurd rfl h
  | cons y r =>
    show ((y :: r) ++ [x]).foldl (fun b y => addB m y.2 b) (newB y.1 y.2.p) = _
    rw [List.foldl_append]
    rfl
def cut1 (m : Img) (ld : Int → Bool) (c : CutD) (x : FSp) : CutD := cutS m ld x.1 c x.2
def tagS : Int → List (List Sp) → List FSp
  | _, [] => []
  | f, l :: r => l.map (fun s => (f, s)) ++ tagS (f + 1) r
theorem finCut_tag (m : Img) (ld : Int → Bool) (f : Int) : ∀ (l : List Sp) (c : CutD), finCut m ld f l c = (l.map fun s => (f, s)).foldl (cut1 m ld) c
  | [], _ => rfl
  | s :: r, c => finCut_tag m ld f r (cutS m ld f c s)
theorem cutAll_tag (m : Img) (ld : Int → Bool) : ∀ (ls : List (List Sp)) (f : Int) (c : CutD) (fs : List Int), (cutAll m ld ls f c fs).1 = (tagS f ls).foldl (cut1 m ld) c
  | [], f, c, fs => rfl
  | l :: r, f, c, fs => by
    show (cutAll m ld r (f + 1) (finCut m ld f l c) (fs ++ [(c.bs.length : Int)])).1 = (l.map (fun s => (f, s)) ++ tagS (f + 1) r).foldl (cut1 m ld) c
    rw [cutAll_tag m ld r, List.foldl_append, finCut_tag]
theorem tagS_app (b : List (List Sp)) : ∀ (a : List (List Sp)) (f : Int), tagS f (a ++ b) = tagS f a ++ tagS (f + a.length) b
  | [], f => by
    have e : f + (([] : List (List Sp)).length : Int) = f := by simp
    rw [e]
    rfl
  | l :: r, f => by
    have e : f + 1 + (r.length : Int) = f + ((l :: r).length : Int) := by rw [List.length_cons]; omega
    show l.map (fun s => (f, s)) ++ tagS (f + 1) (r ++ b) = l.map (fun s => (f, s)) ++ tagS (f + 1) r ++ tagS (f + ((l :: r).length : Int)) b
    rw [tagS_app b r, e, List.append_assoc]
/-- a group: its first spot begins a block, the others don't; all are of one function -/
def GrpOk (ld : Int → Bool) (g : List FSp) : Prop := ∃ x r, g = x :: r ∧ ld x.2.p = true ∧ (∀ y ∈ r, ld y.2.p = false) ∧ ∀ y ∈ r, y.1 = x.1
structure CInv (m : Img) (ld : Int → Bool) (done : List FSp) (gs : List (List FSp)) (c : CutD) : Prop where
  bs : c.bs = gs.map (blkOf m)
  flat : gs.flatten = done
  ok : ∀ g ∈ gs, GrpOk ld g
  bm : ∀ (j : Nat) (x : FSp) (r : List FSp), gs[j]? = some (x :: r) → c.bm x.2.p = some (j : Int)
theorem CInv.step {m : Img} {ld : Int → Bool} {done : List FSp} {gs : List (List FSp)} {c : CutD} (h : CInv m ld done gs c) {x : FSp} (hx : ld x.2.p = true ∨ ∃ d y, done = d ++ [y] ∧ y.1 = x.1) (hd : ∀ y ∈ done, y.2.p ≠ x.2.p) :
    ∃ gs', CInv m ld (done ++ [x]) gs' (cut1 m ld c x) ∧ (ld x.2.p = true → gs' = gs ++ [[x]]) ∧ ∀ (j : Nat) (y : FSp) (r : List FSp), gs[j]? = some (y :: r) → ∃ r', gs'[j]? = some (y :: r') := by
  by_cases hl : ld x.2.p = true
  · have hb : beginS ld x.1 x.2 c = ⟨c.bs ++ [newB x.1 x.2.p], upF c.bm x.2.p (some c.bs.length)⟩ := by unfold beginS; rw [if_pos hl]
    refine ⟨gs ++ [[x]], ⟨?_, ?_, ?_, ?_⟩, fun _ => rfl, fun j y r hj => ⟨r, ?_⟩⟩
    · show modLast (addB m x.2) (beginS ld x.1 x.2 c).bs = _
      rw [hb, h.bs]
      show modLast (addB m x.2) (gs.map (blkOf m) ++ [newB x.1 x.2.p]) = _
      rw [modLast_snoc, List.map_append]
      rfl
    · rw [List.flatten_append, h.flat]
      simp
    · intro g hg
      rcases List.mem_append.1 hg with hg | hg
      · exact h.ok g hg
      · rw [List.mem_singleton] at hg
        subst hg
        exact ⟨x, [], rfl, hl, (fun y hy => by cases hy), (fun y hy => by cases hy)⟩
    · intro j y r hj
      show (beginS ld x.1 x.2 c).bm y.2.p = _
      rw [hb]
      show (if y.2.p = x.2.p then some (c.bs.length : Int) else c.bm y.2.p) = _
      rcases Nat.lt_or_ge j gs.length with hjl | hjl
      · rw [List.getElem?_append_left hjl] at hj
        rw [if_neg, h.bm j y r hj]
        refine hd y ?_
        rw [← h.flat]
        exact List.mem_flatten.2 ⟨_, List.mem_of_getElem? hj, by simp⟩
      · rw [List.getElem?_append_right hjl] at hj
        have hj0 : j - gs.length = 0 := by
          rcases Nat.eq_zero_or_pos (j - gs.length) with h | h
          · exact h
          · rw [List.getElem?_eq_none (by simp; omega)] at hj
            cases hj
        rw [hj0] at hj
        simp only [List.getElem?_cons_zero, Option.some.injEq] at hj
        have he : x = y := by injection hj
        subst he
        rw [if_pos rfl, h.bs, List.length_map]
        congr 1
        omega
    · rw [List.getElem?_append_left (List.getElem?_eq_some_iff.1 hj).1]
      exact hj
  · have hl' : ld x.2.p = false := by simpa using hl
    have hb : beginS ld x.1 x.2 c = c := by unfold beginS; rw [if_neg hl]
    obtain ⟨d, y, hdn, hy⟩ : ∃ d y, done = d ++ [y] ∧ y.1 = x.1 := by
      rcases hx with h | h
      · exact absurd h hl
      · exact h
    have hne : gs ≠ [] := by
      intro e
      have := h.flat
      rw [e, hdn] at this
      simp at this
    obtain ⟨gi, g, hg⟩ : ∃ gi g, gs = gi ++ [g] := by
      rcases List.eq_nil_or_concat gs with e | ⟨l, x, e⟩
      · exact absurd e hne
      · exact ⟨l, x, by rw [e, List.concat_eq_append]⟩
    obtain ⟨x0, r0, hgr, g1, g2, g3⟩ := h.ok g (by rw [hg]; simp)
    have hx01 : x0.1 = x.1 := by
      have hf := h.flat
      rw [hg, List.flatten_append, hdn] at hf
      have hm : y ∈ g := by
        have h1 : (gi.flatten ++ [g].flatten).getLast? = some y := by rw [hf]; simp
        have h2 : [g].flatten = g := by simp
        rw [h2, List.getLast?_append, hgr] at h1
        have h3 : (x0 :: r0).getLast? = some y := by
          rw [List.getLast?_eq_some_getLast (by simp)] at h1 ⊢
          simpa using h1
        rw [hgr]
        exact List.mem_of_getLast? h3
      rw [hgr] at hm
      rcases List.mem_cons.1 hm with e | e
      · rw [← e, hy]
      · rw [← g3 y e, hy]
    have hgne : g ≠ [] := by rw [hgr]; simp
    refine ⟨gi ++ [g ++ [x]], ⟨?_, ?_, ?_, ?_⟩, fun e => absurd e hl, fun j y r hj => ?_⟩
    · show modLast (addB m x.2) (beginS ld x.1 x.2 c).bs = _
      rw [hb, h.bs, hg, List.map_append]
      show modLast (addB m x.2) (gi.map (blkOf m) ++ [blkOf m g]) = _
      rw [modLast_snoc, List.map_append, ← blkOf_snoc m hgne]
      rfl
    · have hf := h.flat
      rw [hg, List.flatten_append] at hf
      rw [← hf, List.flatten_append]
      simp
    · intro g' hg'
      rcases List.mem_append.1 hg' with hm | hm
      · exact h.ok g' (by rw [hg]; simp [hm])
      · rw [List.mem_singleton] at hm
        subst hm
        refine ⟨x0, r0 ++ [x], by rw [hgr]; rfl, g1, fun z hz => ?_, fun z hz => ?_⟩
        · rcases List.mem_append.1 hz with hz | hz
          · exact g2 z hz
          · rw [List.mem_singleton] at hz
            subst hz
            exact hl'
        · rcases List.mem_append.1 hz with hz | hz
          · exact g3 z hz
          · rw [List.mem_singleton] at hz
            subst hz
            exact hx01.symm
    · intro j z r hj
      show (beginS ld x.1 x.2 c).bm z.2.p = _
      rw [hb]
      rcases Nat.lt_or_ge j gi.length with hjl | hjl
      · rw [List.getElem?_append_left hjl] at hj
        exact h.bm j z r (by rw [hg, List.getElem?_append_left hjl]; exact hj)
      · rw [List.getElem?_append_right hjl] at hj
        have hj0 : j - gi.length = 0 := by
          rcases Nat.eq_zero_or_pos (j - gi.length) with h | h
          · exact h
          · rw [List.getElem?_eq_none (by simp; omega)] at hj
            cases hj
        rw [hj0] at hj
        simp only [List.getElem?_cons_zero, Option.some.injEq] at hj
        rw [hgr] at hj
        have he : x0 = z := by injection hj
        subst he
        exact h.bm j x0 r0 (by rw [hg, List.getElem?_append_right hjl, hj0, hgr]; rfl)
    · rcases Nat.lt_or_ge j gi.length with hjl | hjl
      · rw [hg, List.getElem?_append_left hjl] at hj
        exact ⟨r, by rw [List.getElem?_append_left hjl]; exact hj⟩
      · rw [hg, List.getElem?_append_right hjl] at hj
        have hj0 : j - gi.length = 0 := by
          rcases Nat.eq_zero_or_pos (j - gi.length) with h | h
          · exact h
          · rw [List.getElem?_eq_none (by simp; omega)] at hj
            cases hj
        rw [hj0] at hj
        simp only [List.getElem?_cons_zero, Option.some.injEq] at hj
        exact ⟨r ++ [x], by rw [List.getElem?_append_right hjl, hj0, hj]; rfl⟩
/-- what is asked of the spots that are cut -/
structure SOk (ld : Int → Bool) (S : List FSp) : Prop where
  st : ∀ d x r, S = d ++ x :: r → ld x.2.p = true ∨ ∃ d' y, d = d' ++ [y] ∧ y.1 = x.1
  ap : ∀ d x r, S = d ++ x :: r → ∀ y ∈ d, y.2.p ≠ x.2.p
theorem CInv.run {m : Img} {ld : Int → Bool} : ∀ (S done : List FSp) (gs : List (List FSp)) (c : CutD), CInv m ld done gs c → SOk ld (done ++ S) →
    ∃ gs', CInv m ld (done ++ S) gs' (S.foldl (cut1 m ld) c) ∧ ∀ (j : Nat) (y : FSp) (r : List FSp), gs[j]? = some (y :: r) → ∃ r', gs'[j]? = some (y :: r')
  | [], done, gs, c, h, _ => ⟨gs, by rw [List.append_nil]; exact h, fun j y r hj => ⟨r, hj⟩⟩
  | x :: S, done, gs, c, h, hS => by
    obtain ⟨g1, h1, -, k1⟩ := h.step (hS.st done x S rfl) (hS.ap done x S rfl)
    obtain ⟨g2, h2, k2⟩ := CInv.run S (done ++ [x]) g1 _ h1 (by rw [List.append_assoc]; exact hS)
    rw [List.append_assoc] at h2
    refine ⟨g2, h2, fun j y r hj => ?_⟩
    obtain ⟨r1, e1⟩ := k1 j y r hj
    exact k2 j y r1 e1
theorem CInv.start (m : Img) (ld : Int → Bool) : CInv m ld [] [] ⟨[], fun _ => none⟩ := ⟨rfl, rfl, (fun g hg => by cases hg), (fun j x r hj => by simp at hj)⟩
end Go.Proofs.YtlekjnnofhjgjaaDoor
