/- What holds of the plans of programs, as Recover needs it. -/
import Derived.Test.YtcdlgjhdbmmomaaGreatDoorFlowM
import Derived.Test.YtcdlgjhdbmmomaaGreatDoorAsmG
namespace Go.Proofs.YtcdlgjhdbmmomaaGreatDoor
open Go.RowKit
structure PlanIn (bs : List (List Spot)) (fs : List Int) : Prop where
 inn : ∀ (i : Nat) (a : Int), fs[i]? = some a → ∀ (k : Nat) (b : List Spot), bs[k]? = some b → a ≤ k → (k : Int) < endB bs fs i → ∀ (j : Nat) (s : Spot), b[j]? = some s → 0 ≤ s.blk → a ≤ s.blk ∧ s.blk < endB bs fs i
 mid : ∀ (k : Nat) (b : List Spot), bs[k]? = some b → ∀ (j : Nat) (s : Spot), j + 1 < b.length → b[j]? = some s → s.i.k < 18 ∨ s.i.k = 23
 lst : ∀ (i : Nat) (a : Int), fs[i]? = some a → ∀ (k : Nat) (b : List Spot), bs[k]? = some b → (k : Int) + 1 = endB bs fs i → ∀ (j : Nat) (s : Spot), j + 1 = b.length → b[j]? = some s → stopsI s.i = true ∨ s.i.k = 22
theorem mid_k (funcs : Int) (r : RawI) : (midSpot funcs r).blk = -1 ∧ ((midSpot funcs r).i.k < 18 ∨ (midSpot funcs r).i.k = 23) := by
 unfold midSpot
 split
 · exact ⟨rfl, .inr rfl⟩
 · exact ⟨rfl, .inl (plainI_k r)⟩
theorem end_blk (r : RawI) (n first last : Int) (h : first ≤ last) (h0 : 0 ≤ (endSpot r n first last).blk) : first ≤ (endSpot r n first last).blk ∧ (endSpot r n first last).blk ≤ last := by
 have hb := pickL_bd r.b (last - first + 1) (by omega); unfold endSpot at h0 ⊢
 split at h0
 · rename_i h1
   rw [if_pos h1]; simp only; omega
 · rename_i h1
   rw [if_neg h1]
   split at h0
   · rename_i h2
     rw [if_pos h2]; simp only; omega
   · rename_i h2
     split at h0
     · simp at h0
     · split at h0 <;> simp at h0
theorem end_last (r : RawI) (n first last : Int) (h : n = last) : stopsI (endSpot r n first last).i = true ∨ (endSpot r n first last).i.k = 22 := by
 unfold endSpot; rw [if_neg (by omega)]
 split
 · exact .inr rfl
 · split
   · exact .inl (by simp [stopsI])
   · split
     · exact .inl (by simp [stopsI])
     · exact .inl (by simp [stopsI])
theorem block_spots (L : List RawI) (n first last funcs : Int) (h : first ≤ last) :
 (∀ (j : Nat) (s : Spot), (blockOf L n first last funcs)[j]? = some s → 0 ≤ s.blk → first ≤ s.blk ∧ s.blk ≤ last) ∧
 (∀ (j : Nat) (s : Spot), j + 1 < (blockOf L n first last funcs).length → (blockOf L n first last funcs)[j]? = some s → s.i.k < 18 ∨ s.i.k = 23) ∧
 (n = last → ∀ (j : Nat) (s : Spot), j + 1 = (blockOf L n first last funcs).length → (blockOf L n first last funcs)[j]? = some s → stopsI s.i = true ∨ s.i.k = 22) := by
 unfold blockOf
 split
 · rename_i hc
   refine ⟨fun j s hs h0 => ?_, fun j s _ hs => ?_, fun hn => ?_⟩
   · obtain ⟨r, _, rfl⟩ := List.mem_map.1 (mG' hs); rw [(mid_k funcs r).1] at h0; omega
   · obtain ⟨r, _, rfl⟩ := List.mem_map.1 (mG' hs); exact (mid_k funcs r).2
   · omega
 · have hl : (L.dropLast.map (midSpot funcs) ++ [endSpot (lastR L) n first last]).length = (L.dropLast.map (midSpot funcs)).length + 1 := by simp
   refine ⟨fun j s hs h0 => ?_, fun j s hj hs => ?_, fun hn j s hj hs => ?_⟩
   · rcases List.mem_append.1 (mG' hs) with hm | hm
     · obtain ⟨r, _, rfl⟩ := List.mem_map.1 hm; rw [(mid_k funcs r).1] at h0; omega
     · rw [List.mem_singleton] at hm; subst hm; exact end_blk _ _ _ _ h h0
   · rw [List.getElem?_append_left (by omega)] at hs; obtain ⟨r, _, rfl⟩ := List.mem_map.1 (mG' hs); exact (mid_k funcs r).2
   · rw [List.getElem?_append_right (by omega), show j - (L.dropLast.map (midSpot funcs)).length = 0 by omega] at hs; simp only [List.getElem?_cons_zero, Option.some.injEq] at hs; subst hs; exact end_last _ _ _ _ hn
theorem endB_old {bs nb : List (List Spot)} {fs : List Int} {i : Nat} (hi : i < fs.length) : endB (bs ++ nb) (fs ++ [(bs.length : Int)]) i = endB bs fs i := by
 unfold endB; simp only [List.length_append, List.length_singleton]; rw [if_pos (by omega)]; have e : ((i : Int) + 1).toNat = i + 1 := by omega
 rw [e]
 by_cases h : i + 1 < fs.length
 · rw [if_pos (by omega), List.getD_eq_getElem?_getD, List.getD_eq_getElem?_getD, List.getElem?_append_left h]
 · rw [if_neg (by omega), List.getD_eq_getElem?_getD, List.getElem?_append_right (by omega), show i + 1 - fs.length = 0 by omega]
   rfl
theorem endB_new {bs nb : List (List Spot)} {fs : List Int} : endB (bs ++ nb) (fs ++ [(bs.length : Int)]) fs.length = ((bs ++ nb).length : Int) := by
 unfold endB; simp only [List.length_append, List.length_singleton]; rw [if_neg (by omega)]
theorem endB_le {bs : List (List Spot)} {fs : List Int} (hf : ∀ (i : Nat) (v : Int), fs[i]? = some v → 0 ≤ v ∧ v < bs.length) (i : Nat) : endB bs fs i ≤ bs.length := by
 unfold endB
 split
 · rename_i h
   have e : ((i : Int) + 1).toNat = i + 1 := by omega
   have hl : i + 1 < fs.length := by omega
   rw [e, List.getD_eq_getElem?_getD, gE' hl]; have := (hf (i + 1) _ (gE' hl)).2; simp only [Option.getD_some]; omega
 · omega
theorem go_in (L : List RawI) (F : Nat) (hF : 1 ≤ F) (hL : L.length ≤ 150) : ∀ f, f ≤ F → PlanIn (planGo L F f).1 (planGo L F f).2 := by
 intro f
 induction f with
 | zero =>
  intro _; exact ⟨fun i a h => by simp [planGo] at h, fun k b h => by simp [planGo] at h, fun i a h => by simp [planGo] at h⟩
 | succ f ih =>
  intro hf; obtain ⟨j1, j2, j3⟩ := ih (by omega); obtain ⟨-, -, i3, -, -⟩ := go_ok L F hF hL f (by omega); obtain ⟨bs, hbs⟩ := ex' ((planGo L F f).1)
  obtain ⟨fs, hfs⟩ := ex' ((planGo L F f).2)
  obtain ⟨mine, hmi⟩ := ex' (partL L f F)
  have e1 : (planGo L F (f + 1)).1 = bs ++ fnBlocks mine bs.length (fnMany mine) F (fnMany mine) := by simp only [planGo, hbs, hmi]
  have e2 : (planGo L F (f + 1)).2 = fs ++ [(bs.length : Int)] := by simp only [planGo, hbs, hfs]
  simp only [hbs, hfs] at j1 j2 j3 i3; have hm1 : 1 ≤ fnMany mine := by unfold fnMany; omega
  obtain ⟨nb, hnb⟩ := ex' (fnBlocks mine bs.length (fnMany mine) (F : Int) (fnMany mine))
  have hnl : nb.length = fnMany mine := by rw [← hnb, fnBlocks_len]
  have hnew : ∀ (q : Nat) (b : List Spot), nb[q]? = some b → b = blockOf (partL mine q (fnMany mine)) ((bs.length : Int) + (q : Int)) bs.length ((bs.length : Int) + (fnMany mine : Int) - 1) F ∧ q < fnMany mine := by
   intro q b hq; rw [← hnb] at hq; unfold fnBlocks at hq; rw [List.getElem?_map, Option.map_eq_some_iff] at hq; obtain ⟨x, hx, rfl⟩ := hq; obtain ⟨hx1, hx2⟩ := List.getElem?_eq_some_iff.1 hx; rw [List.length_range] at hx1; rw [List.getElem_range] at hx2; subst hx2; exact ⟨rfl, hx1⟩
  have hsp : ∀ q, q < fnMany mine → _ := fun q hq => block_spots (partL mine q (fnMany mine)) ((bs.length : Int) + (q : Int)) bs.length ((bs.length : Int) + (fnMany mine : Int) - 1) F (by omega)
  rw [e1, e2, hnb]; have hen : ∀ i : Nat, i < fs.length → endB bs fs i ≤ bs.length := fun i _ => endB_le i3 i
  have hbn : (bs ++ nb).length = bs.length + fnMany mine := by rw [List.length_append, hnl]
  refine ⟨fun i a ha k b hb hak hkz j s hs h0 => ?_, fun k b hb j s hj hs => ?_, fun i a ha k b hb hkz j s hj hs => ?_⟩
  · rcases snoc_get ha with ⟨ha', hil⟩ | ⟨hil, rfl⟩
    · rw [endB_old hil] at hkz ⊢; have := hen i hil; rw [List.getElem?_append_left (by omega)] at hb; exact j1 i a ha' k b hb hak hkz j s hs h0
    · subst hil; rw [endB_new, hbn] at hkz ⊢; rw [List.getElem?_append_right (by omega)] at hb; obtain ⟨hb1, hb2⟩ := hnew _ b hb; subst hb1; have := (hsp _ hb2).1 j s hs h0; omega
  · rcases Nat.lt_or_ge k bs.length with hk | hk
    · rw [List.getElem?_append_left hk] at hb; exact j2 k b hb j s hj hs
    · rw [List.getElem?_append_right hk] at hb; obtain ⟨hb1, hb2⟩ := hnew _ b hb; subst hb1; exact (hsp _ hb2).2.1 j s hj hs
  · rcases snoc_get ha with ⟨ha', hil⟩ | ⟨hil, rfl⟩
    · rw [endB_old hil] at hkz; have := hen i hil; rw [List.getElem?_append_left (by omega)] at hb; exact j3 i a ha' k b hb hkz j s hj hs
    · subst hil; rw [endB_new, hbn] at hkz; rw [List.getElem?_append_right (by omega)] at hb; obtain ⟨hb1, hb2⟩ := hnew _ b hb; subst hb1; exact (hsp _ hb2).2.2 (by omega) j s hj hs
theorem endB_same {bs bs' : List (List Spot)} (h : bs.length = bs'.length) (fs : List Int) (i : Int) : endB bs fs i = endB bs' fs i := by unfold endB; rw [h]
theorem PlanIn.same {bs bs' : List (List Spot)} {fs : List Int} (h : PlanIn bs fs) (hs : SameL bs bs') : PlanIn bs' fs := by
 obtain ⟨hl, hb⟩ := hs
 have hblk : ∀ (k : Nat) (b' : List Spot), bs'[k]? = some b' → ∃ b, bs[k]? = some b ∧ b.length = b'.length ∧ ∀ (j : Nat) (s' : Spot), b'[j]? = some s' → ∃ s, b[j]? = some s ∧ s.blk = s'.blk ∧ s.i.k = s'.i.k := by
  intro k b' hk; have hk1 := (List.getElem?_eq_some_iff.1 hk).1; have hx : bs[k]? = some (bs[k]'(by omega)) := gE' _; obtain ⟨h1, h2⟩ := hb k _ b' hx hk; refine ⟨_, hx, h1, fun j s' hj => ?_⟩; have hj1 := (List.getElem?_eq_some_iff.1 hj).1; have hy := gE' (l := bs[k]'(by omega)) (i := j) (by omega); obtain ⟨l, e, -⟩ := h2 j _ s' hy hj; refine ⟨_, hy, ?_, ?_⟩
  · rw [e]
  · rw [e]
 refine ⟨fun i a ha k b' hk hak hkz j s' hj h0 => ?_, fun k b' hk j s' hjl hj => ?_, fun i a ha k b' hk hkz j s' hjl hj => ?_⟩
 · rw [← endB_same hl] at hkz ⊢; obtain ⟨b, hb1, hb2, hb3⟩ := hblk k b' hk; obtain ⟨s, hs1, hs2, hs3⟩ := hb3 j s' hj; rw [← hs2] at h0 ⊢; exact h.inn i a ha k b hb1 hak hkz j s hs1 h0
 · obtain ⟨b, hb1, hb2, hb3⟩ := hblk k b' hk; obtain ⟨s, hs1, hs2, hs3⟩ := hb3 j s' hj; rw [← hs3]; exact h.mid k b hb1 j s (by omega) hs1
 · rw [← endB_same hl] at hkz; obtain ⟨b, hb1, hb2, hb3⟩ := hblk k b' hk; obtain ⟨s, hs1, hs2, hs3⟩ := hb3 j s' hj; have := h.lst i a ha k b hb1 hkz j s (by omega) hs1; unfold stopsI at this ⊢; rw [← hs3]; exact this
theorem progP_in (l : List RawI) : PlanIn (planGo (progL l) (nFn (progL l)) (nFn (progL l))).1 (planGo (progL l) (nFn (progL l)) (nFn (progL l))).2 :=
 go_in (progL l) (nFn (progL l)) (nFn_bd _).1 (by unfold progL; rw [List.length_take]; omega) _ lr'
end Go.Proofs.YtcdlgjhdbmmomaaGreatDoor
