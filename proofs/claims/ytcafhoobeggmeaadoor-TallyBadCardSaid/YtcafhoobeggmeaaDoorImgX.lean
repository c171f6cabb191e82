/- An image of the call's own whose rows are appended to. -/
import Derived.Test.YtcafhoobeggmeaaDoorEmtH
import Derived.Test.YtcafhoobeggmeaaDoorPgmG
namespace Go.Proofs.YtcafhoobeggmeaaDoor
open Go.RowKit
def szI : List ItD → Int
 | [] => 0
 | t :: r => sizeK t.i.k t.i.l + szI r
theorem szI_app (b : List ItD) : ∀ a, szI (a ++ b) = szI a + szI b
 | [] => by simp [szI]
 | t :: r => by
  have := szI_app b r; simp only [List.cons_append, szI]; omega
theorem endPos_eq : ∀ (l : List ItD) (p : Int), endPos p l = p + szI l
 | [], p => by simp [endPos, szI]
 | t :: r, p => by
  simp only [endPos, szI]; rw [endPos_eq r]; omega
structure ItLe (t u : ItD) : Prop where
 i : u.i = { t.i with l := u.i.l }
 blk : u.blk = t.blk
 fn : u.fn = t.fn
 old : u.old = t.old
 line : u.line = t.line
 lg : t.i.l = true → u.i.l = true
 ch : u.i.l ≠ t.i.l → 0 ≤ t.blk
theorem ItLe.refl (t : ItD) : ItLe t t := ⟨rfl, rfl, rfl, rfl, rfl, id, fun h => absurd rfl h⟩
theorem ItLe.trans {a b c : ItD} (h1 : ItLe a b) (h2 : ItLe b c) : ItLe a c := by
 refine ⟨?_, h2.blk.trans h1.blk, h2.fn.trans h1.fn, h2.old.trans h1.old, h2.line.trans h1.line, fun h => h2.lg (h1.lg h), fun h => ?_⟩
 · have e1 := h1.i; have e2 := h2.i; rw [e1] at e2; exact e2
 · rcases Classical.em (b.i.l = a.i.l) with e | e
   · rw [← h1.blk]; exact h2.ch (by rw [e]; exact h)
   · exact h1.ch e
def ItsLe (a b : List ItD) : Prop := a.length = b.length ∧ ∀ (j : Nat) (t u : ItD), a[j]? = some t → b[j]? = some u → ItLe t u
theorem ItsLe.refl (a : List ItD) : ItsLe a a := ⟨rfl, fun j t u h1 h2 => by rw [h1] at h2; injection h2 with h2; rw [h2]; exact ItLe.refl _⟩
theorem ItsLe.trans {a b c : List ItD} (h1 : ItsLe a b) (h2 : ItsLe b c) : ItsLe a c := by
 refine ⟨h1.1.trans h2.1, fun j t u ht hu => ?_⟩; have hj : j < b.length := by rw [← h1.1]; exact (List.getElem?_eq_some_iff.1 ht).1
 exact (h1.2 j _ _ ht (gE' hj)).trans (h2.2 j _ _ (gE' hj) hu)
theorem setPos_at : ∀ (l : List ItD) (p : Int) (j : Nat) (t : ItD), l[j]? = some t → (setPos p l)[j]? = some { t with pos := p + szI (l.take j) }
 | [], p, j, t, h => by simp at h
 | x :: r, p, 0, t, h => by
  simp only [List.getElem?_cons_zero, Option.some.injEq] at h; subst h; simp [setPos, szI]
 | x :: r, p, j + 1, t, h => by
  rw [List.getElem?_cons_succ] at h; simp only [setPos, List.getElem?_cons_succ, List.take_succ_cons, szI]; rw [setPos_at r _ j t h]
  congr 2
  omega
theorem setPos_le (l : List ItD) (p : Int) : ItsLe l (setPos p l) := by
 refine ⟨(setPos_len l p).symm, fun j t u h1 h2 => ?_⟩; rw [setPos_at l p j t h1] at h2; injection h2 with h2; subst h2; exact ⟨rfl, rfl, rfl, rfl, rfl, id, fun h => absurd rfl h⟩
theorem longer_le (l : List ItD) (first : List Int) (t : ItD) : ItLe t (longer l first t) := by
 unfold longer
 split
 · rename_i h
   unfold farI at h; simp only [Bool.and_eq_true, decide_eq_true_eq] at h; exact ⟨rfl, rfl, rfl, rfl, rfl, fun _ => rfl, fun _ => h.1.1⟩
 · exact ItLe.refl _
theorem map_longer_le (l : List ItD) (first : List Int) : ∀ a : List ItD, ItsLe a (a.map (longer l first)) := fun a => by
 refine ⟨by simp, fun j t u h1 h2 => ?_⟩; rw [List.getElem?_map, h1] at h2; injection h2 with h2; subst h2; exact longer_le _ _ _
theorem settleGo_le (first : List Int) : ∀ (n : Nat) (l : List ItD), ItsLe l (settleGo first n l)
 | 0, l => setPos_le l 0
 | n + 1, l => by
  unfold settleGo
  split
  · exact ((setPos_le l 0).trans (map_longer_le _ _ _)).trans (settleGo_le first n _)
  · exact setPos_le l 0
def shortN : List ItD → Nat
 | [] => 0
 | t :: r => (if t.i.l = true then 0 else 1) + shortN r
theorem shortN_len : ∀ l : List ItD, shortN l ≤ l.length
 | [] => Nat.le_refl _
 | t :: r => by
  have := shortN_len r; simp only [shortN, List.length_cons]
  split <;> omega
theorem shortN_longer (l : List ItD) (first : List Int) : ∀ a : List ItD, shortN (a.map (longer l first)) ≤ shortN a ∧ (a.any (farI l first) = true → shortN (a.map (longer l first)) < shortN a)
 | [] => ⟨Nat.le_refl _, fun h => by simp at h⟩
 | t :: r => by
  obtain ⟨h1, h2⟩ := shortN_longer l first r
  simp only [List.map_cons, shortN, List.any_cons]
  by_cases hf : farI l first t = true
  · have ht : t.i.l = false := by
     unfold farI at hf; simp only [Bool.and_eq_true, Bool.not_eq_true'] at hf; exact hf.1.2
    have e : (longer l first t).i.l = true := by unfold longer; rw [if_pos hf]
    rw [e, ht]; simp; omega
  · have e : longer l first t = t := by unfold longer; rw [if_neg hf]
    rw [e]; rw [Bool.not_eq_true] at hf; rw [hf, Bool.false_or]; exact ⟨by omega, fun h => by have := h2 h; omega⟩
theorem shortN_setPos : ∀ (l : List ItD) (p : Int), shortN (setPos p l) = shortN l
 | [], _ => rfl
 | t :: r, p => by simp [setPos, shortN, shortN_setPos r]
theorem settleGo_end (first : List Int) : ∀ (n : Nat) (l : List ItD), shortN l < n → (settleGo first n l).any (farI (settleGo first n l) first) = false
 | 0, l, h => absurd h (Nat.not_lt_zero _)
 | n + 1, l, h => by
  unfold settleGo
  split
  · rename_i hf
    have h1 := (shortN_longer (setPos 0 l) first (setPos 0 l)).2 hf; rw [shortN_setPos] at h1; exact settleGo_end first n _ (by omega)
  · rename_i hf
    rw [Bool.not_eq_true] at hf; exact hf
theorem settleL_end (first : List Int) (l : List ItD) : (settleL first l).any (farI (settleL first l) first) = false :=
 settleGo_end first _ l (by have := shortN_len l; omega)
theorem settleL_le (first : List Int) (l : List ItD) : ItsLe l (settleL first l) := settleGo_le first _ l
theorem settleGo_pos (first : List Int) : ∀ (n : Nat) (l : List ItD), ∃ l', settleGo first n l = setPos 0 l'
 | 0, l => ⟨l, rfl⟩
 | n + 1, l => by
  unfold settleGo
  split
  · exact settleGo_pos first n _
  · exact ⟨l, rfl⟩
theorem szI_setPos : ∀ (l : List ItD) (p : Int), szI (setPos p l) = szI l
 | [], _ => rfl
 | t :: r, p => by simp [setPos, szI, szI_setPos r]
theorem take_setPos : ∀ (l : List ItD) (p : Int) (j : Nat), (setPos p l).take j = setPos p (l.take j)
 | [], p, j => by simp [setPos]
 | t :: r, p, 0 => by simp [setPos]
 | t :: r, p, j + 1 => by simp [setPos, take_setPos r]
def PosOk (l : List ItD) : Prop := ∀ (j : Nat) (t : ItD), l[j]? = some t → t.pos = szI (l.take j)
theorem setPos_ok (l : List ItD) : PosOk (setPos 0 l) := fun j t h => by
 have hj : j < l.length := by have := (List.getElem?_eq_some_iff.1 h).1; rw [setPos_len] at this; exact this
 rw [setPos_at l 0 j _ (gE' hj)] at h; injection h with h; rw [← h, take_setPos, szI_setPos]; simp
theorem settleL_pos (first : List Int) (l : List ItD) : PosOk (settleL first l) := by
 obtain ⟨l', e⟩ := settleGo_pos first (l.length + 1) l
 unfold settleL; rw [e]; exact setPos_ok l'
structure ItsOk (fs : List Int) (l : List ItD) : Prop where
 chk : ∀ t ∈ l, t.i.chk = 0
 lng : ∀ t ∈ l, 0 ≤ t.blk → ({ t.i with l := true } : Ins).chk = 0
 blk : ∀ t ∈ l, 0 ≤ t.blk → t.blk < fs.length ∧ 0 ≤ fs.getD t.blk.toNat 0 ∧ fs.getD t.blk.toNat 0 < l.length
theorem ItsOk.le {fs : List Int} {a b : List ItD} (h : ItsOk fs a) (hl : ItsLe a b) : ItsOk fs b := by
 have get : ∀ u ∈ b, ∃ t ∈ a, ItLe t u := fun u hu => by
  obtain ⟨j, hj⟩ := List.getElem?_of_mem hu; have hjl := (List.getElem?_eq_some_iff.1 hj).1; have ha := gE' (l := a) (i := j) (by rw [hl.1]; exact hjl); exact ⟨_, mG' ha, hl.2 j _ u ha hj⟩
 refine ⟨fun u hu => ?_, fun u hu hb => ?_, fun u hu hb => ?_⟩
 · obtain ⟨t, ht, e⟩ := get u hu
   by_cases hc : u.i.l = t.i.l
   · have e2 : u.i = t.i := by rw [e.i, hc]
     rw [e2]; exact h.chk t ht
   · have h0 := e.ch hc
     have e3 : u.i.l = true := by
      rcases hu2 : u.i.l with _ | _
      · rcases ht2 : t.i.l with _ | _
        · exact absurd (hu2.trans ht2.symm) hc
        · exact (e.lg ht2) ▸ hu2 ▸ rfl
      · rfl
     rw [e.i, e3]; exact h.lng t ht h0
 · obtain ⟨t, ht, e⟩ := get u hu; rw [e.blk] at hb; have := h.lng t ht hb; rw [e.i]; exact this
 · obtain ⟨t, ht, e⟩ := get u hu; rw [e.blk] at hb ⊢; obtain ⟨k1, k2, k3⟩ := h.blk t ht hb; exact ⟨k1, k2, by rw [← hl.1]; exact k3⟩
def posL (l : List ItD) (k : Nat) : List ItD := (setPos 0 l).take k ++ l.drop k
theorem posL_len (l : List ItD) (k : Nat) : (posL l k).length = l.length := by
 unfold posL; rw [List.length_append, List.length_take, setPos_len, List.length_drop]; omega
theorem posL_get {l : List ItD} {k : Nat} {t : ItD} (h : l[k]? = some t) : (posL l k)[k]? = some t := by
 have hk := (List.getElem?_eq_some_iff.1 h).1; unfold posL; rw [List.getElem?_append_right (by rw [List.length_take, setPos_len]; omega), List.length_take, setPos_len, Nat.min_eq_left (by omega), Nat.sub_self, List.getElem?_drop, Nat.add_zero, h]
theorem posL_step {l : List ItD} {k : Nat} {t : ItD} (h : l[k]? = some t) : (posL l k).set k { t with pos := szI (l.take k) } = posL l (k + 1) := by
 obtain ⟨hk, he⟩ := List.getElem?_eq_some_iff.1 h; have h1 := setPos_at l 0 k t h; unfold posL; rw [List.set_append_right _ _ (by rw [List.length_take, setPos_len]; omega), List.length_take, setPos_len, Nat.min_eq_left (by omega), Nat.sub_self, List.drop_eq_getElem_cons hk, List.take_add_one, h1, Int.zero_add, List.set_cons_zero, List.append_assoc]
 rfl
theorem szI_take {l : List ItD} {k : Nat} {t : ItD} (h : l[k]? = some t) : szI (l.take (k + 1)) = szI (l.take k) + sizeK t.i.k t.i.l := by
 rw [List.take_add_one, h, szI_app]; simp [szI]
def lngL (P : List ItD) (fs : List Int) (k : Nat) : List ItD := (P.take k).map (longer P fs) ++ P.drop k
theorem lngL_len (P : List ItD) (fs : List Int) (k : Nat) : (lngL P fs k).length = P.length := by
 unfold lngL; rw [List.length_append, List.length_map, List.length_take, List.length_drop]; omega
theorem lngL_get {P : List ItD} {fs : List Int} {k : Nat} {t : ItD} (h : P[k]? = some t) : (lngL P fs k)[k]? = some t := by
 have hk := (List.getElem?_eq_some_iff.1 h).1; unfold lngL; rw [List.getElem?_append_right (by rw [List.length_map, List.length_take]; omega), List.length_map, List.length_take, Nat.min_eq_left (by omega), Nat.sub_self, List.getElem?_drop, Nat.add_zero, h]
theorem lngL_step {P : List ItD} {fs : List Int} {k : Nat} {t : ItD} (h : P[k]? = some t) : (lngL P fs k).set k (longer P fs t) = lngL P fs (k + 1) := by
 obtain ⟨hk, he⟩ := List.getElem?_eq_some_iff.1 h; unfold lngL; rw [List.set_append_right _ _ (by rw [List.length_map, List.length_take]; omega), List.length_map, List.length_take, Nat.min_eq_left (by omega), Nat.sub_self, List.drop_eq_getElem_cons hk, List.take_add_one, h, List.set_cons_zero, List.map_append, List.append_assoc]
 rfl
theorem lngL_keep {P : List ItD} {fs : List Int} {k : Nat} {t : ItD} (h : P[k]? = some t) (hf : farI P fs t = false) : lngL P fs (k + 1) = lngL P fs k := by
 have h1 := lngL_step (fs := fs) h; have e : longer P fs t = t := by unfold longer; rw [if_neg (by rw [hf]; simp)]
 rw [e] at h1; rw [← h1]; obtain ⟨hk, he⟩ := List.getElem?_eq_some_iff.1 (lngL_get (fs := fs) h); rw [← he]; exact List.set_getElem_self hk
theorem lngL_pos {P : List ItD} {fs : List Int} (k : Nat) {j : Nat} {t : ItD} (h : P[j]? = some t) : ∃ u, (lngL P fs k)[j]? = some u ∧ u.pos = t.pos := by
 have hj := (List.getElem?_eq_some_iff.1 h).1; unfold lngL
 by_cases hjk : j < k
 · refine ⟨longer P fs t, ?_, ?_⟩
   · rw [List.getElem?_append_left (by rw [List.length_map, List.length_take]; omega), List.getElem?_map, List.getElem?_take, if_pos hjk, h]
     rfl
   · unfold longer
     split <;> rfl
 · refine ⟨t, ?_, rfl⟩; rw [List.getElem?_append_right (by rw [List.length_map, List.length_take]; omega), List.length_map, List.length_take, Nat.min_eq_left (by omega), List.getElem?_drop, show k + (j - k) = j by omega, h]
theorem szI_bd : ∀ {l : List ItD}, (∀ t ∈ l, t.i.chk = 0) → 0 ≤ szI l ∧ szI l ≤ 4 * l.length
 | [], _ => by simp [szI]
 | t :: r, h => by
  have h1 := szI_bd (l := r) fun u hu => h u (by simp [hu])
  have h2 := sizeK_bd (h t (by simp)); simp only [szI, List.length_cons]; omega
theorem TabsAt.gbw {w w' : World} {base : Nat} {v : Value} {ts : List (List Int)} {row : Option Nat} (h : TabsAt w base v ts) (hb : w.grownBy w' row) (hv : v.ownBlock = none ∨ v.ownBlock ≠ row)
 (hi : ∀ (g : Nat) (x : Int), w.cell? ⟨g, 0, none⟩ = some (.int .i64 x) → row ≠ some g) : TabsAt w' base v ts := by
 obtain ⟨A, c, vs, h1, h2, h3, h4⟩ := h; refine ⟨A, c, vs, h1, gb_own h2 hb hv, h3, fun j t ht => ?_⟩; obtain ⟨A', c', k1, k2, k2', k2'', k3⟩ := h4 j t ht; refine ⟨A', c', k1, k2, k2', k2'', fun hn => ?_⟩; obtain ⟨g, e1, e2, e3, e4, ⟨cs, fz, e6⟩, e5⟩ := k3 hn
 have hne : row ≠ some g := by
  cases t with
  | nil => exact absurd rfl hn
  | cons x r => exact hi g x (e5 0 x rfl)
 refine ⟨g, e1, e2, Nat.lt_of_lt_of_le e3 hb.size, e4, ⟨cs, fz, (hb.block g e3 (fun e => hne e.symm)).trans e6⟩, fun q x hx => ?_⟩; rw [← e5 q x hx]; unfold World.cell?; rw [hb.block g e3 (fun e => hne e.symm)]
theorem TabsAt.gbT {w w' : World} {base : Nat} {v : Value} {ts : List (List Int)} {row : Option Nat} {T : TypeId} (h : TabsAt w base v ts) (hb : w.grownBy w' row) (hv : v.ownBlock = none ∨ v.ownBlock ≠ row)
 (ht : ∀ g, row = some g → ∃ cs fz, w.heap[g]? = some (.cells cs T fz)) (hT : 3 ≠ T) : TabsAt w' base v ts := by
 obtain ⟨A, c, vs, h1, h2, h3, h4⟩ := h; refine ⟨A, c, vs, h1, gb_own h2 hb hv, h3, fun j t htj => ?_⟩; obtain ⟨A', c', k1, k2, k2', k2'', k3⟩ := h4 j t htj; refine ⟨A', c', k1, k2, k2', k2'', fun hn => ?_⟩; obtain ⟨g, e1, e2, e3, e4, ⟨cs, fz, e6⟩, e5⟩ := k3 hn
 have hne : row ≠ some g := fun e => by
  obtain ⟨cs', fz', h6⟩ := ht g e; rw [e6] at h6; injection h6 with h6; injection h6 with _ h7 _; exact hT h7
 refine ⟨g, e1, e2, Nat.lt_of_lt_of_le e3 hb.size, e4, ⟨cs, fz, (hb.block g e3 (fun e => hne e.symm)).trans e6⟩, fun q x hx => ?_⟩; rw [← e5 q x hx]; unfold World.cell?; rw [hb.block g e3 (fun e => hne e.symm)]
theorem own_blk_ne {w : World} {b q : Nat} {e t : TypeId} {size n : Nat} {v : Value} {xs cs : List Value} (h : w.ownsRow b e size v n xs) (hB : Blk w q t cs) (hne : e ≠ t) : v.ownBlock = none ∨ v.ownBlock ≠ some q := by
 rcases h.2 with ⟨rfl, _⟩ | ⟨g, cap, cur, rfl, _, hg, _⟩
 · exact .inl rfl
 · refine .inr fun e => ?_
   simp only [Value.ownBlock, Option.some.injEq] at e; subst e; unfold Blk at hB; rw [hg] at hB; simp only [Option.some.injEq, Obj.cells.injEq] at hB; exact hne hB.2.1
theorem ImgOwn.blk {w w' : World} {base q : Nat} {m : Img} {v : ImgV} {t : TypeId} {u : Value} {cs : List Value} (h : ImgOwn w base m v) (hB : Blk w q t (u :: cs)) (hgr : w.grownBy w' (some q)) (hu : ∀ x, u ≠ .int .i64 x)
 (ht : t ≠ 5 ∧ t ≠ 72 ∧ t ≠ 3 ∧ t ≠ 106 ∧ t ≠ 35) : ImgOwn w' base m v := by
 have ty : ∀ {e : TypeId} {size k : Nat} {y : Value} {xs : List Value}, w.ownsRow base e size y k xs → t ≠ e → w'.ownsRow base e size y k xs := fun hy he => gb_own hy hgr (own_blk_ne hy hB (Ne.symm he))
 obtain ⟨t1, t2, t3, t4, t5⟩ := ht; refine ⟨ty h.tx t1, ty h.fn t2, ty h.dt t3, ty h.ln t4, ?_⟩; obtain ⟨b0, h1, h2, h3⟩ := h.tb; refine ⟨b0, h1, h2.gbw hgr ?_ ?_, h3⟩
 · obtain ⟨A, c, vs, e1, e2, _⟩ := h2; exact own_blk_ne e2 hB (Ne.symm t5)
 · intro g x hx e; simp only [Option.some.injEq] at e; subst e; rw [hB.cell 0 rfl] at hx; exact hu x (Option.some.inj hx)
theorem IsPgm.fn {l : List RawI} {m : Img} (h : IsPgm l m) : 1 ≤ m.funcs.length ∧ m.funcs.length ≤ 3 := by
 obtain ⟨bs', h1, _, h3, rfl⟩ := h; show 1 ≤ (fnL bs' _).length ∧ (fnL bs' _).length ≤ 3; unfold fnL; rw [List.length_map, List.length_range]; exact h1.nf
end Go.Proofs.YtcafhoobeggmeaaDoor
