/- boltholekeep's assembled: what holds in memory while it works, and what keeps it. boltholekeep's assembled: what a round makes of the plan, and the rows of text and lines. the images of plans may be. what assembled's last round leaves is an image. code has the line of the last one that is not behind it: the plain law. functions have names of their own: the plain law. boltholekeep's assembled: functions and tables of a round. image.LineAt, walked. -/
import Derived.Test.YtcdlgjhdbmmomaaGreatDoorAsmB
import Derived.Test.YtcdlgjhdbmmomaaGreatDoorAppZ
import Derived.Test.YtcdlgjhdbmmomaaGreatDoorImgE
namespace Go.Proofs.YtcdlgjhdbmmomaaGreatDoor
open Go.RowKit
theorem PlanAt.belowB {w w' : World} {base X B : Nat} {bs : List (List Spot)} {fs : List Int} {bA : Option Addr} {bc : Nat} {fA : Option Addr} {fc : Nat} {gs : List (Nat × Nat)} (h : PlanAt w base X bs fs bA bc fA fc gs) (hX : X < B)
 (hb1 : ∀ q, (Value.slice bA bs.length bc).ownBlock = some q → q < B) (hf1 : ∀ q, (Value.slice fA fs.length fc).ownBlock = some q → q < B) (hg1 : ∀ (j : Nat) g, gs[j]? = some g → g.1 < B) (hb : Below B w w') : PlanAt w' base X bs fs bA bc fA fc gs :=
 ⟨h.blk.below hb hX, h.bX, own_belowB h.outer hb1 hb, own_belowB h.fown hf1 hb, h.gl, fun j g b hg hbb => ⟨own_belowB (h.inner j g b hg hbb).1 (fun q hq => by injection hq with hq; subst hq; exact hg1 j g hg) hb, (h.inner j g b hg hbb).2⟩, h.nodup, h.oX, h.fX, h.fo⟩
def Spot.long (s : Spot) : Spot := ⟨⟨s.i.k, s.i.d, s.i.a, s.i.b, s.i.n, true⟩, s.blk, s.fn, s.line⟩
theorem spotsC_long : ∀ (b : List Spot) (j : Nat) (s : Spot), b[j]? = some s → spotsC (b.set j s.long) = (spotsC b).set (j * 9 + 5) (.bool true)
 | [], _, _, h => by simp at h
 | x :: r, 0, s, h => by
  simp only [List.getElem?_cons_zero, Option.some.injEq] at h; subst h; simp [spotsC, spotC, Spot.long]
 | x :: r, j + 1, s, h => by
  simp only [List.getElem?_cons_succ] at h; have ih := spotsC_long r j s h; have e1 : ∀ y l, spotsC (y :: l) = spotC y ++ spotsC l := fun _ _ => rfl
  have hl : (spotC x).length = 9 := rfl; rw [List.set_cons_succ, e1, e1, ih, List.set_append_right (h := by rw [hl]; omega), hl]
  congr 2
  omega
theorem gsV_same : ∀ (gs : List (Nat × Nat)) (bs bs' : List (List Spot)), bs.map List.length = bs'.map List.length → gsV gs bs = gsV gs bs'
 | [], [], [], _ => rfl
 | g :: gs, b :: bs, b' :: bs', h => by
  simp only [List.map_cons, List.cons.injEq] at h; simp only [gsV, h.1, gsV_same gs bs bs' h.2]
 | [], b :: bs, b' :: bs', _ => rfl
 | g :: gs, [], [], _ => rfl
 | _, [], b :: bs, h => by simp at h
 | _, b :: bs, [], h => by simp at h
theorem set_lens {bs : List (List Spot)} {k : Nat} {b b' : List Spot} (hb : bs[k]? = some b) (hl : b'.length = b.length) : (bs.set k b').map List.length = bs.map List.length := by
 rw [List.map_set, hl]; apply List.ext_getElem?; intro j; rw [List.getElem?_set]
 split
 · rename_i e
   subst e; rw [List.getElem?_map, hb]
   split
   · rfl
   · rename_i hn
     exact absurd (by rw [List.length_map]; exact (List.getElem?_eq_some_iff.1 hb).1) hn
 · rfl
theorem set_at {α : Type} {l : List α} {k j : Nat} {x y : α} (h : (l.set k x)[j]? = some y) : j = k ∧ y = x ∨ j ≠ k ∧ l[j]? = some y := by
 rw [List.getElem?_set] at h
 split at h
 · rename_i e
   split at h
   · injection h with h; exact .inl ⟨e.symm, h.symm⟩
   · cases h
 · rename_i e
   exact .inr ⟨fun e2 => e e2.symm, h⟩
theorem PlanAt.long {w : World} {base X : Nat} {bs : List (List Spot)} {fs : List Int} {bA : Option Addr} {bc : Nat} {fA : Option Addr} {fc : Nat} {gs : List (Nat × Nat)} (h : PlanAt w base X bs fs bA bc fA fc gs) {k j g c : Nat} {b : List Spot} {s : Spot}
 (hg : gs[k]? = some (g, c)) (hb : bs[k]? = some b) (hs : b[j]? = some s) : PlanAt (w.setCell ⟨g, j * 9 + 5, none⟩ (.bool true)) base X (bs.set k (b.set j s.long)) fs bA bc fA fc gs := by
 have hl : (bs.set k (b.set j s.long)).length = bs.length := List.length_set; obtain ⟨i1, i2, i3, i4⟩ := h.inner k (g, c) b hg hb; have hgb : w.grownBy (w.setCell ⟨g, j * 9 + 5, none⟩ (.bool true)) (some g) := gb_setCell (gb_refl _ _) _ _; refine ⟨?_, h.bX, ?_, own_gb h.fown hgb i4, by rw [hl]; exact h.gl, ?_, h.nodup, by rw [hl]; exact h.oX, h.fX, by rw [hl]; exact h.fo⟩
 · rw [hl]; exact h.blk.set_ne i2 _ _
 · rw [hl, gsV_same gs _ bs (set_lens hb (by simp))]; exact own_gb h.outer hgb i3
 · intro j' g' b' hg' hb'; rcases set_at hb' with ⟨rfl, rfl⟩ | ⟨hne, hb''⟩
   · rw [hg] at hg'; injection hg' with hg'; subst hg'; rw [List.length_set, spotsC_long b j s hs]; refine ⟨own_set i1 _ _, i2, ?_, i4⟩; rw [hl]; exact i3
   · obtain ⟨k1, k2, k3, k4⟩ := h.inner j' g' b' hg' hb''; refine ⟨own_gb k1 hgb ?_, k2, by rw [hl]; exact k3, k4⟩; simp only [Value.ownBlock]; intro e; injection e with e; exact h.nodup j' k g' (g, c) hg' hg hne e
structure AsmS (w wr : World) (base X : Nat) (cur : List (List Spot)) (fs : List Int) (bA : Option Addr) (bc : Nat) (fA : Option Addr) (fc : Nat) (gs : List (Nat × Nat)) (cs : List Value) : Prop where
 plan : PlanAt wr base X cur fs bA bc fA fc gs
 ltX : X < w.heap.size
 ltb : ∀ q, (Value.slice bA cur.length bc).ownBlock = some q → q < w.heap.size
 ltf : ∀ q, (Value.slice fA fs.length fc).ownBlock = some q → q < w.heap.size
 ltg : ∀ (j : Nat) g, gs[j]? = some g → g.1 < w.heap.size
 bel : Below base w wr
 r : Blk wr w.heap.size 30 [.slice none 0 0, .slice none 0 0, .slice none 0 0, .slice none 0 0, .slice none 0 0, .int .i64 0]
 d : Blk wr (w.heap.size + 1) 3 [.int .i64 5, .int .i64 (-3), .int .i64 0, .int .i64 7, .int .i64 1, .int .i64 2]
 m : Blk wr (w.heap.size + 2) 30 cs
theorem AsmS.big {w wr wr' : World} {base X B : Nat} {cur : List (List Spot)} {fs : List Int} {bA : Option Addr} {bc : Nat} {fA : Option Addr} {fc : Nat} {gs : List (Nat × Nat)} {cs : List Value} (h : AsmS w wr base X cur fs bA bc fA fc gs cs) (hB : w.heap.size + 3 ≤ B) (hb : Below B wr wr') : AsmS w wr' base X cur fs bA bc fA fc gs cs :=
 ⟨h.plan.belowB (by have := h.ltX; omega) (fun q hq => by have := h.ltb q hq; omega) (fun q hq => by have := h.ltf q hq; omega) (fun j g hg => by have := h.ltg j g hg; omega) hb, h.ltX, h.ltb, h.ltf, h.ltg,
  h.bel.trans (hb.mono (by have := h.plan.bX; have := h.ltX; omega)), h.r.below hb (by omega), h.d.below hb (by omega), h.m.below hb (by omega)⟩
theorem AsmS.size {w wr : World} {base X : Nat} {cur : List (List Spot)} {fs : List Int} {bA : Option Addr} {bc : Nat} {fA : Option Addr} {fc : Nat} {gs : List (Nat × Nat)} {cs : List Value} (h : AsmS w wr base X cur fs bA bc fA fc gs cs) : w.heap.size + 3 ≤ wr.heap.size := by
 have := h.m.lt; omega
theorem AsmS.keep {w wr wr' : World} {base X : Nat} {cur : List (List Spot)} {fs : List Int} {bA : Option Addr} {bc : Nat} {fA : Option Addr} {fc : Nat} {gs : List (Nat × Nat)} {cs : List Value} (h : AsmS w wr base X cur fs bA bc fA fc gs cs) (hb : Below wr.heap.size wr wr') : AsmS w wr' base X cur fs bA bc fA fc gs cs := h.big h.size hb
theorem AsmS.setM {w wr : World} {base X : Nat} {cur : List (List Spot)} {fs : List Int} {bA : Option Addr} {bc : Nat} {fA : Option Addr} {fc : Nat} {gs : List (Nat × Nat)} {cs : List Value} (h : AsmS w wr base X cur fs bA bc fA fc gs cs) (j : Nat) (v : Value) : AsmS w (wr.setCell ⟨w.heap.size + 2, j, none⟩ v) base X cur fs bA bc fA fc gs (cs.set j v) := by
 have hb : Below (w.heap.size + 2) wr (wr.setCell ⟨w.heap.size + 2, j, none⟩ v) := gb_to_below (gb_setCell (gb_refl _ _) _ _) lr' (by have := h.size; omega)
 exact ⟨h.plan.belowB (by have := h.ltX; omega) (fun q hq => by have := h.ltb q hq; omega) (fun q hq => by have := h.ltf q hq; omega) (fun j g hg => by have := h.ltg j g hg; omega) hb, h.ltX, h.ltb, h.ltf, h.ltg,
  h.bel.trans (hb.mono (by have := h.plan.bX; have := h.ltX; omega)), h.r.below hb (by omega), h.d.below hb (by omega), h.m.set j v⟩
theorem AsmS.long {w wr : World} {base X : Nat} {cur : List (List Spot)} {fs : List Int} {bA : Option Addr} {bc : Nat} {fA : Option Addr} {fc : Nat} {gs : List (Nat × Nat)} {cs : List Value} (h : AsmS w wr base X cur fs bA bc fA fc gs cs) {k j g c : Nat} {b : List Spot} {s : Spot}
 (hg : gs[k]? = some (g, c)) (hb : cur[k]? = some b) (hs : b[j]? = some s) : AsmS w (wr.setCell ⟨g, j * 9 + 5, none⟩ (.bool true)) base X (cur.set k (b.set j s.long)) fs bA bc fA fc gs cs := by
 have hgl := h.ltg k (g, c) hg; have hgb : wr.grownBy (wr.setCell ⟨g, j * 9 + 5, none⟩ (.bool true)) (some g) := gb_setCell (gb_refl _ _) _ _; have hgB := (own_lt (h.plan.inner k (g, c) b hg hb).1).1; have hsz := h.size; simp only at hgl
 exact ⟨h.plan.long hg hb hs, h.ltX, by rw [List.length_set]; exact h.ltb, h.ltf, h.ltg, h.bel.trans (gb_to_below hgb hgB (by have := h.plan.bX; have := h.ltX; omega)),
  h.r.set_ne (by omega) _ _, h.d.set_ne (by omega) _ _, h.m.set_ne (by omega) _ _⟩
def nlB : List Spot → Nat
 | [] => 0
 | s :: r => (if 0 ≤ s.blk ∧ s.i.l = false then 1 else 0) + nlB r
def nlL : List (List Spot) → Nat
 | [] => 0
 | b :: r => nlB b + nlL r
theorem nlB_long : ∀ (b : List Spot) (j : Nat) (s : Spot), b[j]? = some s → 0 ≤ s.blk → s.i.l = false → nlB (b.set j s.long) + 1 = nlB b
 | [], _, _, h, _, _ => by simp at h
 | x :: r, 0, s, h, h1, h2 => by
  simp only [List.getElem?_cons_zero, Option.some.injEq] at h; subst h; simp only [List.set_cons_zero, nlB]; rw [if_neg (by simp [Spot.long]), if_pos ⟨h1, h2⟩]; omega
 | x :: r, j + 1, s, h, h1, h2 => by
  simp only [List.getElem?_cons_succ] at h; have := nlB_long r j s h h1 h2; simp only [List.set_cons_succ, nlB]; omega
theorem nlL_set : ∀ (bs : List (List Spot)) (k : Nat) (b b' : List Spot), bs[k]? = some b → nlB b' + 1 = nlB b → nlL (bs.set k b') + 1 = nlL bs
 | [], _, _, _, h, _ => by simp at h
 | x :: r, 0, b, b', h, h1 => by
  simp only [List.getElem?_cons_zero, Option.some.injEq] at h; subst h; simp only [List.set_cons_zero, nlL]; omega
 | x :: r, k + 1, b, b', h, h1 => by
  simp only [List.getElem?_cons_succ] at h; have := nlL_set r k b b' h h1; simp only [List.set_cons_succ, nlL]; omega
theorem SpotOk.long {B F : Nat} {s : Spot} (h : SpotOk B F s) (hb : 0 ≤ s.blk) : SpotOk B F s.long := by
 obtain ⟨h1, h2, h3, h4, h5, h6, h7⟩ := h; obtain ⟨k1, k2, k3, k4⟩ := h5 hb; refine ⟨?_, h2, h3, h4, fun _ => ⟨k1, k2, k3, k4⟩, fun hf => absurd hf (by show ¬ 0 ≤ s.fn; omega), fun hn => absurd hb (by show ¬ 0 ≤ s.blk; exact Int.not_le.2 hn)⟩; obtain ⟨⟨sk, sd, sa, sb, sn, sl⟩, sB, sF, sL⟩ := s; simp only at k1 k2 k3; subst k3; rw [ins_chk_zero] at h1 ⊢; simp only [Spot.long] at h1 ⊢; have hk' : sk = 18 ∨ sk = 19 ∨ sk = 20 ∨ sk = 21 ∨ sk = 22 := by omega
 obtain ⟨c1, c2, c3, c4⟩ := h1; refine ⟨c1, ?_, c3, ?_⟩
 · rcases hk' with rfl | rfl | rfl | rfl | rfl <;> cases sl <;> first | exact c2 | (unfold formBad at c2 ⊢; revert c2; simp only [Bool.false_and, Bool.false_or, Bool.true_and]; intro c2; first | exact c2 | (simp_all; done) | (rw [Bool.or_eq_false_iff]; exact ⟨by decide +kernel, c2⟩))
 · rcases hk' with rfl | rfl | rfl | rfl | rfl <;> decide +kernel
theorem SameL.refl (bs : List (List Spot)) : SameL bs bs := ⟨rfl, fun k b b' h1 h2 => by
 rw [h1] at h2; injection h2 with h2; subst h2
 exact ⟨rfl, fun j s s' h3 h4 => by
  rw [h3] at h4; injection h4 with h4; subst h4
  exact ⟨s.i.l, rfl, fun h => h, fun _ => rfl⟩⟩⟩
theorem SameS.trans {a b c : Spot} (h : SameS a b) (k : SameS b c) : SameS a c := by
 obtain ⟨l, rfl, h1, h2⟩ := h; obtain ⟨l', rfl, k1, k2⟩ := k; exact ⟨l', rfl, fun e => k1 (h1 e), fun e => (k2 e).trans (h2 e)⟩
theorem SameL.trans {a b c : List (List Spot)} (h : SameL a b) (k : SameL b c) : SameL a c := by
 refine ⟨h.1.trans k.1, fun n x z hx hz => ?_⟩; have hn : n < b.length := by rw [← h.1]; exact (List.getElem?_eq_some_iff.1 hx).1
 have hy : b[n]? = some (b[n]'hn) := gE' hn; obtain ⟨e1, f1⟩ := h.2 n x _ hx hy; obtain ⟨e2, f2⟩ := k.2 n _ z hy hz; refine ⟨e1.trans e2, fun j s s' hs hs' => ?_⟩; have hj : j < (b[n]'hn).length := by rw [← e1]; exact (List.getElem?_eq_some_iff.1 hs).1
 exact (f1 j s _ hs (gE' hj)).trans (f2 j _ s' (gE' hj) hs')
theorem SameL.long {bs : List (List Spot)} {k j : Nat} {b : List Spot} {s : Spot} (hb : bs[k]? = some b) (hs : b[j]? = some s) (h0 : 0 ≤ s.blk) : SameL bs (bs.set k (b.set j s.long)) := by
 refine ⟨by simp, fun k' x x' hx hx' => ?_⟩; rcases set_at hx' with ⟨rfl, rfl⟩ | ⟨_, hx''⟩
 · rw [hb] at hx; injection hx with hx; subst hx; refine ⟨by simp, fun j' y y' hy hy' => ?_⟩; rcases set_at hy' with ⟨rfl, rfl⟩ | ⟨_, hy''⟩
   · rw [hs] at hy; injection hy with hy; subst hy; exact ⟨true, rfl, fun _ => rfl, fun hn => absurd h0 (by omega)⟩
   · rw [hy] at hy''; injection hy'' with hy''; subst hy''; exact ⟨y.i.l, rfl, fun h => h, fun _ => rfl⟩
 · rw [hx] at hx''; injection hx'' with hx''; subst hx''
   exact ⟨rfl, fun j' y y' hy hy' => by
    rw [hy] at hy'; injection hy' with hy'; subst hy'
    exact ⟨y.i.l, rfl, fun h => h, fun _ => rfl⟩⟩
theorem flat_len_of : ∀ (a b : List (List Spot)), a.map List.length = b.map List.length → a.flatten.length = b.flatten.length := by
 intro a b h; rw [List.length_flatten, List.length_flatten, h]
theorem PlanOk.long {bs : List (List Spot)} {fs : List Int} (h : PlanOk bs fs) {k j : Nat} {b : List Spot} {s : Spot} (hb : bs[k]? = some b) (hs : b[j]? = some s) (h0 : 0 ≤ s.blk) : PlanOk (bs.set k (b.set j s.long)) fs := by
 have hl : (bs.set k (b.set j s.long)).length = bs.length := List.length_set; refine ⟨by rw [hl]; exact h.nb, by rw [flat_len_of _ _ (set_lens hb (by simp))]; exact h.ns, h.nf, h.f0, fun i f hf => by rw [hl]; exact h.fb i f hf, h.fi, fun x hx => ?_, fun x hx t ht => ?_⟩
 · rcases List.mem_or_eq_of_mem_set hx with hx | rfl
   · exact h.ne x hx
   · have := h.ne b (mG' hb); intro e; apply this; have e2 : (b.set j s.long).length = 0 := by rw [e]; rfl
     rw [List.length_set] at e2; exact List.eq_nil_of_length_eq_zero e2
 · rw [hl]; rcases List.mem_or_eq_of_mem_set hx with hx | rfl
   · exact h.ok x hx t ht
   · have hbm := mG' hb; rcases List.mem_or_eq_of_mem_set ht with ht | rfl
     · exact h.ok b hbm t ht
     · exact (h.ok b hbm s (mG' hs)).long h0
theorem res_chk {bs : List (List Spot)} {fs : List Int} (h : PlanOk bs fs) {s : Spot} (hs : SpotOk bs.length fs.length s) (here : Int) (hh : 0 ≤ here ∧ here ≤ 1600) (hc : (resI bs fs here s).chk ≠ 0) : 0 ≤ s.blk ∧ s.i.l = false := by
 obtain ⟨h1, h2, h3, h4, h5, h6, h7⟩ := hs; obtain ⟨⟨sk, sd, sa, sb, sn, sl⟩, sB, sF, sL⟩ := s; simp only at *; unfold resI at hc; simp only at hc
 by_cases hf : 0 ≤ sF
 · exfalso
   obtain ⟨k1, k2, k3⟩ := h6 hf; subst k1; subst k2; subst k3; apply hc; rw [if_pos hf]; have hb := h.atB_bd (fs.getD sF.toNat 0); rw [ins_chk_zero] at h1 ⊢; obtain ⟨c1, c2, c3, c4⟩ := h1; refine ⟨c1, ?_, c3, ?_⟩
   · unfold formBad at c2 ⊢; have e1 : hasN (shapeT 23) = true := by decide +kernel
     rw [e1] at c2 ⊢; simpa using c2
   · unfold nOk; rw [if_pos (show (shapeT 23 == 2 || shapeT 23 == 10 || false) = true by decide +kernel), inside_iff]; simp only; omega
 · by_cases hB : 0 ≤ sB
   · refine ⟨hB, ?_⟩
     cases sl
     · rfl
     · exfalso
       obtain ⟨k1, k2, k3, k4⟩ := h5 hB; subst k3; apply hc; rw [if_neg hf, if_pos hB]; have hb := h.atB_bd sB; have hk' : sk = 18 ∨ sk = 19 ∨ sk = 20 ∨ sk = 21 ∨ sk = 22 := by omega
       rw [ins_chk_zero] at h1 ⊢; obtain ⟨c1, c2, c3, c4⟩ := h1; refine ⟨c1, ?_, c3, ?_⟩
       · unfold formBad at c2 ⊢; have e1 : hasN (shapeT sk) = true := by rcases hk' with rfl | rfl | rfl | rfl | rfl <;> decide +kernel
         simp only [e1] at c2 ⊢; simpa using c2
       · unfold nOk; rw [if_pos (by simp), inside_iff]; simp only; omega
   · exfalso
     apply hc; rw [if_neg hf, if_neg hB]; exact h1
structure CurR (cur cur' : List (List Spot)) (fs : List Int) (k j : Nat) (ag : Bool) : Prop where
 ok : PlanOk cur' fs
 same : SameL cur cur'
 far : ∀ k', k < k' → cur'[k']? = cur[k']?
 near : ∀ (b b' : List Spot), cur[k]? = some b → cur'[k]? = some b' → ∀ j', j ≤ j' → b'[j']? = b[j']?
 no : ag = false → cur' = cur ∧ ∀ i ∈ resL cur fs 0 (doneL cur k j), i.chk = 0
 yes : ag = true → nlL cur' < nlL cur
theorem CurR.init {cur : List (List Spot)} {fs : List Int} (h : PlanOk cur fs) : CurR cur cur fs 0 0 false :=
 ⟨h, SameL.refl cur, fun _ _ => rfl, fun b b' h1 h2 j _ => by rw [h1] at h2; injection h2 with h2; rw [h2], fun _ => ⟨rfl, by simp [doneL, resL]⟩, fun h => by cases h⟩
theorem CurR.next {cur cur' : List (List Spot)} {fs : List Int} {k : Nat} {ag : Bool} {b : List Spot} (h : CurR cur cur' fs k b.length ag) (hb : cur[k]? = some b) : CurR cur cur' fs (k + 1) 0 ag :=
 ⟨h.ok, h.same, fun k' hk => h.far k' (by omega), fun b1 b2 h1 h2 j _ => by rw [h.far (k + 1) (by omega), h1] at h2; injection h2 with h2; rw [h2], fun e => by rw [← doneL_next hb]; exact h.no e, h.yes⟩
theorem CurR.step {cur cur' : List (List Spot)} {fs : List Int} {k j : Nat} {ag : Bool} {b : List Spot} {s : Spot} (h : CurR cur cur' fs k j ag) (hb : cur[k]? = some b) (hs : b[j]? = some s) (hc : (resI cur fs (szL (doneL cur k j)) s).chk = 0) : CurR cur cur' fs k (j + 1) ag :=
 ⟨h.ok, h.same, h.far, fun b1 b2 h1 h2 j' hj => h.near b1 b2 h1 h2 j' (by omega), fun e => ⟨(h.no e).1, by
  rw [doneL_succ hb hs, resL_snoc, Int.zero_add]; intro i hi; rw [List.mem_append] at hi; rcases hi with hi | hi
  · exact (h.no e).2 i hi
  · rw [List.mem_singleton] at hi; rw [hi]
    exact hc⟩, h.yes⟩
theorem CurR.block {cur cur' : List (List Spot)} {fs : List Int} {k j : Nat} {ag : Bool} {b : List Spot} {s : Spot} (h : CurR cur cur' fs k j ag) (hb : cur[k]? = some b) (hs : b[j]? = some s) : ∃ b', cur'[k]? = some b' ∧ b'.length = b.length ∧ b'[j]? = some s := by
 have hk : k < cur'.length := by rw [← h.same.1]; exact (List.getElem?_eq_some_iff.1 hb).1
 have hb' : cur'[k]? = some (cur'[k]'hk) := gE' hk; exact ⟨_, hb', (h.same.2 k b _ hb hb').1.symm, (h.near b _ hb hb' j lr').trans hs⟩
theorem CurR.long {cur cur' : List (List Spot)} {fs : List Int} {k j : Nat} {ag : Bool} {b' : List Spot} {s : Spot} (h : CurR cur cur' fs k j ag) (hb' : cur'[k]? = some b') (hs' : b'[j]? = some s) (h0 : 0 ≤ s.blk) (hl : s.i.l = false) : CurR cur (cur'.set k (b'.set j s.long)) fs k (j + 1) true := by
 have hn := nlL_set cur' k b' _ hb' (nlB_long b' j s hs' h0 hl); refine ⟨h.ok.long hb' hs' h0, h.same.trans (SameL.long hb' hs' h0), fun k' hk => ?_, fun b1 b2 h1 h2 j' hj => ?_, fun e => by (cases e), fun _ => ?_⟩
 · rw [List.getElem?_set_ne (by omega)]; exact h.far k' hk
 · have hk : k < cur'.length := (List.getElem?_eq_some_iff.1 hb').1; rw [List.getElem?_set_self hk] at h2; injection h2 with h2; subst h2; rw [List.getElem?_set_ne (by omega)]; exact h.near b1 b' h1 hb' j' (by omega)
 · cases ag
   · rw [(h.no rfl).1] at hn ⊢; rw [(h.no rfl).1] at hb'; omega
   · have := h.yes rfl; omega
structure TxL (wr : World) (h1 : Nat) (tv lv : Value) (tx : List Int) (ln : List (Int × Int)) : Prop where
 tx : OwnB wr h1 tv tx
 ln : wr.ownsRow h1 144 2 lv ln.length (linesV ln)
 ne : tv.ownBlock = none ∨ lv.ownBlock ≠ tv.ownBlock
theorem TxL.keep {wr wr' : World} {h1 : Nat} {tv lv : Value} {tx : List Int} {ln : List (Int × Int)} (h : TxL wr h1 tv lv tx ln) (hb : Below wr.heap.size wr wr') : TxL wr' h1 tv lv tx ln := ⟨own_keep h.tx hb, own_keep h.ln hb, h.ne⟩
theorem TxL.gb {wr wr' : World} {h1 q : Nat} {tv lv : Value} {tx : List Int} {ln : List (Int × Int)} (h : TxL wr h1 tv lv tx ln) (hb : wr.grownBy wr' (some q)) (hq : q < h1) : TxL wr' h1 tv lv tx ln :=
 ⟨own_gb h.tx hb fun e => by have := (World.ownsRow.lt h.tx q e).1; omega, own_gb h.ln hb fun e => by have := (World.ownsRow.lt h.ln q e).1; omega, h.ne⟩
theorem TxL.addT {wr w2 : World} {h1 : Nat} {tv lv : Value} {tx cs : List Int} {ln : List (Int × Int)} (h : TxL wr h1 tv lv tx ln) {g c H : Nat} (ho : OwnB w2 h1 (.slice (some ⟨g, 0, none⟩) (tx ++ cs).length c) (tx ++ cs)) (hg : wr.grownBy w2 tv.ownBlock) (ha : tv.ownBlock = some g ∨ g = H) (hH : wr.heap.size ≤ H) : TxL w2 h1 (.slice (some ⟨g, 0, none⟩) (tx ++ cs).length c) lv (tx ++ cs) ln := by
 refine ⟨ho, gb_own h.ln hg ?_, .inr ?_⟩
 · rcases h.ne with e | e
   · rw [e]
     cases lv.ownBlock with
     | none => exact .inl rfl
     | some q => exact .inr (by simp)
   · exact .inr e
 · simp only [Value.ownBlock]; intro e; rcases ha with e2 | e2
   · rcases h.ne with e3 | e3
     · rw [e3] at e2
       cases e2
     · exact e3 (e.trans e2.symm)
   · have := (World.ownsRow.lt h.ln g e).2; omega
theorem TxL.addL {wr w2 : World} {h1 : Nat} {tv lv : Value} {tx : List Int} {ln : List (Int × Int)} {x : Int × Int} (h : TxL wr h1 tv lv tx ln) {g c H : Nat} (ho : w2.ownsRow h1 144 2 (.slice (some ⟨g, 0, none⟩) (ln.length + 1) c) (ln.length + 1) (linesV ln ++ lineV x)) (hg : wr.grownBy w2 lv.ownBlock) (ha : lv.ownBlock = some g ∨ g = H) (hH : wr.heap.size ≤ H) : TxL w2 h1 tv (.slice (some ⟨g, 0, none⟩) (ln ++ [x]).length c) tx (ln ++ [x]) := by
 have hl : (ln ++ [x]).length = ln.length + 1 := by simp
 refine ⟨gb_own h.tx hg ?_, by rw [hl]; simpa [linesV] using ho, ?_⟩
 · rcases h.ne with e | e
   · exact .inl e
   · exact .inr fun e2 => e e2.symm
 · rcases ht : tv.ownBlock with _ | q
   · exact .inl rfl
   · right
     simp only [Value.ownBlock]; intro e; injection e with e; subst e; rcases ha with e2 | e2
     · rcases h.ne with e3 | e3
       · rw [e3] at ht
         cases ht
       · exact e3 (e2.trans ht.symm)
     · have := (World.ownsRow.lt h.tx g ht).2; omega
theorem codeS_len {bs : List (List Spot)} {fs : List Int} {here : Int} {s : Spot} (h : SpotOk bs.length fs.length s) : ((codeS bs fs here s).length : Int) = szS s := by
 have hb := szS_bd h; unfold codeS
 split
 · rename_i hc
   rw [enc_len hc]
   rfl
 · rw [List.length_replicate]; omega
theorem codeL_len {bs : List (List Spot)} {fs : List Int} : ∀ (l : List Spot) (here : Int), (∀ s ∈ l, SpotOk bs.length fs.length s) → ((codeL bs fs here l).length : Int) = szL l := by
 intro l
 induction l with
 | nil => intro _ _; rfl
 | cons x r ih =>
  intro here h; have h1 := codeS_len (here := here) (h x (by simp)); have h2 := ih (here + szS x) fun s hs => h s (by simp [hs])
  simp only [codeL, szL, List.length_append]; omega
theorem prog_len {bs : List (List Spot)} {fs : List Int} (h : PlanOk bs fs) (hk : ∀ i ∈ progI bs fs, i.chk = 0) : ((encAll (progI bs fs)).length : Int) = szL bs.flatten := by
 unfold progI; rw [← codeL_enc bs fs bs.flatten 0 hk]; exact codeL_len _ 0 h.flat
theorem flat_bd {bs : List (List Spot)} {fs : List Int} (h : PlanOk bs fs) : 0 ≤ szL bs.flatten ∧ szL bs.flatten ≤ 1600 := by
 have h1 := szL_bd _ h.flat; have h2 := h.ns; omega
theorem atB_step {bs : List (List Spot)} {fs : List Int} (h : PlanOk bs fs) {k : Nat} (hk : k < bs.length) : atB bs (k : Int) + 1 ≤ atB bs ((k + 1 : Nat) : Int) := by
 have hb : bs[k]? = some (bs[k]'hk) := gE' hk; unfold atB; rw [Int.toNat_natCast, Int.toNat_natCast, take_flat_succ hb, szL_app]; have hm := mG' hb; have h1 := szL_bd (bs[k]'hk) (h.ok _ hm); have h2 := List.length_pos_iff.2 (h.ne _ hm); omega
theorem atB_lt {bs : List (List Spot)} {fs : List Int} (h : PlanOk bs fs) {k : Nat} : ∀ d, k + d < bs.length + 1 → atB bs (k : Int) + d ≤ atB bs ((k + d : Nat) : Int) := by
 intro d
 induction d with
 | zero => intro _; simp
 | succ d ih =>
  intro hd; have h1 := ih (by omega); have h2 := atB_step h (k := k + d) (by omega); have e : k + d + 1 = k + (d + 1) := by omega
  rw [e] at h2; omega
theorem atB_zero (bs : List (List Spot)) : atB bs 0 = 0 := rfl
theorem atB_end (bs : List (List Spot)) : atB bs (bs.length : Int) = szL bs.flatten := by
 unfold atB; rw [Int.toNat_natCast, List.take_length]
theorem atB_lt2 {bs : List (List Spot)} {fs : List Int} (h : PlanOk bs fs) {a b : Int} (h0 : 0 ≤ a) (hab : a < b) (hb : b ≤ bs.length) : atB bs a + 1 ≤ atB bs b := by
 obtain ⟨x, rfl⟩ := Int.eq_ofNat_of_zero_le h0; obtain ⟨y, rfl⟩ := Int.eq_ofNat_of_zero_le (show 0 ≤ b by omega); have := atB_lt h (k := x) (y - x) (by omega); rw [show x + (y - x) = y by omega] at this; omega
theorem atB_T {bs : List (List Spot)} {fs : List Int} (h : PlanOk bs fs) {a : Int} (h0 : 0 ≤ a) (ha : a < bs.length) : 0 ≤ atB bs a ∧ atB bs a + 1 ≤ szL bs.flatten := by
 have h1 := atB_lt2 h h0 ha (Int.le_refl _); rw [atB_end] at h1; exact ⟨(h.atB_bd a).1, h1⟩
theorem lines_ok {B F : Nat} (T : Int) : ∀ (l : List Spot) (ln here last : Int), (∀ s ∈ l, SpotOk B F s) → last < here → here + szL l ≤ T → linesGo T last (linL ln here l) = 0 := by
 intro l
 induction l with
 | nil => intro _ _ _ _ _ _; rfl
 | cons s r ih =>
  intro ln here last hs h1 h2; have hz := szS_bd (hs s (by simp)); have hr := szL_bd r fun t ht => hs t (by simp [ht])
  have hl := (hs s (by simp)).2.2.2.1; simp only [szL] at h2; simp only [linL]
  split
  · exact ih ln (here + szS s) last (fun t ht => hs t (by simp [ht])) (by omega) (by omega)
  · simp only [linesGo]; rw [if_neg (by omega), if_neg (by omega)]; exact ih s.line (here + szS s) here (fun t ht => hs t (by simp [ht])) (by omega) (by omega)
theorem linL_len : ∀ (l : List Spot) (ln here : Int), (linL ln here l).length ≤ l.length := by
 intro l
 induction l with
 | nil => intro _ _; exact Nat.le_refl _
 | cons x r ih =>
  intro ln here; simp only [linL]
  split
  · have := ih ln (here + szS x); simp only [List.length_cons]; omega
  · have := ih x.line (here + szS x); simp only [List.length_cons]; omega
theorem getD_at {fs : List Int} {i : Nat} {v : Int} (h : fs[i]? = some v) : fs.getD i 0 = v := by rw [List.getD_eq_getElem?_getD, h]; rfl
theorem funcs_ok {bs : List (List Spot)} {fs : List Int} (h : PlanOk bs fs) : funcsGo (szL bs.flatten) [] 0 (fnL bs fs) = 0 := by
 have n0 : nameOk ⟨#[102, (48 + 0).toUInt8]⟩ = true := by decide +kernel
 have n1 : nameOk ⟨#[102, (48 + 1).toUInt8]⟩ = true := by decide +kernel
 have n2 : nameOk ⟨#[102, (48 + 2).toUInt8]⟩ = true := by decide +kernel
 have hf := h.nf; have g0 : fs.getD 0 0 = 0 := getD_at h.f0; have hb0 := (h.fb 0 0 h.f0).2; have hl : fs.length = 1 ∨ fs.length = 2 ∨ fs.length = 3 := by omega
 have ex : ∀ i, i < fs.length → ∃ v, fs[i]? = some v := fun i hi => ⟨_, gE' hi⟩
 unfold fnL; rcases hl with hl | hl | hl
 · rw [hl]; have t := atB_T h (Int.le_refl 0) hb0; rw [atB_zero] at t; simp only [List.range_succ, List.range_zero, List.nil_append, List.map_cons, List.map_nil, funcsGo, fnAt, hl, g0, atB_zero, n0, List.any_nil]; simp; omega
 · obtain ⟨v1, e1⟩ := ex 1 (by omega); have g1 : fs.getD 1 0 = v1 := getD_at e1; have b1 := h.fb 1 v1 e1; have l1 := h.fi 0 0 v1 h.f0 e1; have t1 := atB_lt2 h (Int.le_refl 0) l1 (by omega); have t2 := atB_T h b1.1 b1.2; rw [atB_zero] at t1; rw [hl]
   have s1 : ∀ a b, sameName ⟨#[102, (48 + 1).toUInt8]⟩ ⟨⟨#[102, (48 + 0).toUInt8]⟩, a, b⟩ = false := fun a b => by
    show ((⟨#[102, (48 + 0).toUInt8]⟩ : ByteArray).toList == (⟨#[102, (48 + 1).toUInt8]⟩ : ByteArray).toList) = false
    decide +kernel
   simp only [List.range_succ, List.range_zero, List.nil_append, List.cons_append, List.map_cons, List.map_nil, funcsGo, fnAt, hl, g0, g1, atB_zero, n0, n1, List.any_nil, List.any_cons, s1]; simp; omega
 · obtain ⟨v1, e1⟩ := ex 1 (by omega); obtain ⟨v2, e2⟩ := ex 2 (by omega); have g1 : fs.getD 1 0 = v1 := getD_at e1; have g2 : fs.getD 2 0 = v2 := getD_at e2; have b1 := h.fb 1 v1 e1; have b2 := h.fb 2 v2 e2; have l1 := h.fi 0 0 v1 h.f0 e1; have l2 := h.fi 1 v1 v2 e1 e2; have t1 := atB_lt2 h (Int.le_refl 0) l1 (by omega); have t2 := atB_lt2 h b1.1 l2 (by omega); have t3 := atB_T h b2.1 b2.2; rw [atB_zero] at t1; rw [hl]
   have s1 : ∀ a b, sameName ⟨#[102, (48 + 1).toUInt8]⟩ ⟨⟨#[102, (48 + 0).toUInt8]⟩, a, b⟩ = false := fun a b => by
    show ((⟨#[102, (48 + 0).toUInt8]⟩ : ByteArray).toList == (⟨#[102, (48 + 1).toUInt8]⟩ : ByteArray).toList) = false
    decide +kernel
   have s2 : ∀ a b, sameName ⟨#[102, (48 + 2).toUInt8]⟩ ⟨⟨#[102, (48 + 0).toUInt8]⟩, a, b⟩ = false := fun a b => by
    show ((⟨#[102, (48 + 0).toUInt8]⟩ : ByteArray).toList == (⟨#[102, (48 + 2).toUInt8]⟩ : ByteArray).toList) = false
    decide +kernel
   have s3 : ∀ a b, sameName ⟨#[102, (48 + 2).toUInt8]⟩ ⟨⟨#[102, (48 + 1).toUInt8]⟩, a, b⟩ = false := fun a b => by
    show ((⟨#[102, (48 + 1).toUInt8]⟩ : ByteArray).toList == (⟨#[102, (48 + 2).toUInt8]⟩ : ByteArray).toList) = false
    decide +kernel
   simp only [List.range_succ, List.range_zero, List.nil_append, List.cons_append, List.map_cons, List.map_nil, funcsGo, fnAt, hl, g0, g1, g2, atB_zero, n0, n1, n2, List.any_nil, List.any_cons, s1, s2, s3]; simp; omega
theorem tab_ok {bs : List (List Spot)} {fs : List Int} (h : PlanOk bs fs) (L : List RawI) (t : Nat) : (tabAt bs fs L t).length ≤ 3 ∧ (tabAt bs fs L t).any (oddAt (szL bs.flatten)) = false := by
 unfold tabAt
 split
 · rename_i ho
   refine ⟨by simp, ?_⟩
   have hol : ownerF bs fs t < fs.length := by
    unfold ownerF at ho ⊢
    cases e : ownGo bs fs t fs.length with
    | none => rw [e] at ho; simp at ho
    | some o =>
     rw [Option.getD_some]; exact (ownGo_lt bs fs t fs.length o e).2
   obtain ⟨f, hf⟩ := Int.eq_ofNat_of_zero_le ho; rw [hf] at hol ⊢; obtain ⟨a, z, h1, h2, h3, h4, -, -⟩ := h.fnd f (by omega); rw [Int.toNat_natCast, getD_at h1, h2]; rw [List.any_eq_false]; intro x hx; obtain ⟨i, _, rfl⟩ := List.mem_map.1 hx; have hp := pickL_bd (rawAt L (t + i)).a ((z : Int) - (a : Int)) (by omega); have := atB_T h (a := (a : Int) + pickL (rawAt L (t + i)).a ((z : Int) - (a : Int))) (by omega) (by omega); simp only [oddAt, Bool.or_eq_true, decide_eq_true_eq]; omega
 · exact ⟨by simp, rfl⟩
theorem tables_ok (T : Int) : ∀ ts : List (List Int), (∀ t ∈ ts, t.length ≤ 3 ∧ t.any (oddAt T) = false) → tablesGo T ts = 0 := by
 intro ts
 induction ts with
 | nil => intro _; rfl
 | cons t r ih =>
  intro h; obtain ⟨h1, h2⟩ := h t (by simp); simp only [tablesGo]; rw [if_neg (by omega), if_neg (by rw [h2]; decide)]; exact ih fun u hu => h u (by simp [hu])
theorem prog_check {bs : List (List Spot)} {fs : List Int} (h : PlanOk bs fs) (hk : ∀ i ∈ progI bs fs, i.chk = 0) (L : List RawI) : checkE (imgOf bs fs L) = 0 := by
 have hT := prog_len h hk; have hb := flat_bd h; have hf := h.nf; have hfl : (fnL bs fs).length = fs.length := by simp [fnL]
 have hlines := linL_len bs.flatten 0 0; have hns := h.ns
 have hfe : funcsE (imgOf bs fs L) = 0 := by
  unfold funcsE imgOf; simp only; rw [if_neg (by rw [hfl]; omega), hT]; exact funcs_ok h
 have htb : tablesGo (imgOf bs fs L).text.length (imgOf bs fs L).tables = 0 := by
  show tablesGo ((encAll (progI bs fs)).length : Int) (tabL bs fs L) = 0; rw [hT]; refine tables_ok _ _ fun t ht => ?_
  unfold tabL at ht; obtain ⟨i, _, rfl⟩ := List.mem_map.1 ht; exact tab_ok h L i
 have hli : linesE (imgOf bs fs L) = 0 := by
  unfold linesE imgOf; simp only; rw [if_neg (by omega), hT]; exact lines_ok _ bs.flatten 0 0 (-1) h.flat (by decide) (by omega)
 unfold checkE tailE restE
 rw [if_neg (by show ¬ 8000 < (encAll (progI bs fs)).length; omega), hfe, if_neg (by decide), if_neg (by show ¬ ((0 : Int) < 0 ∨ ((fnL bs fs).length : Int) ≤ 0); rw [hfl]; omega),
  if_neg (by show ¬ (20 < (tabL bs fs L).length ∨ 64 < 6); simp [tabL]), htb, if_pos rfl, if_neg (by show ¬ ([5, -3, 0, 7, 1, 2] : List Int).any oddN = true; decide), hli]
def AsmFin (w wr : World) (cur : List (List Spot)) (fs : List Int) (L : List RawI) (tv fv bv lv : Value) : Prop :=
 (∀ i ∈ progI cur fs, i.chk = 0) ∧ (∃ A c, tv = .slice A (encAll (progI cur fs)).length c ∧ OwnB wr (w.heap.size + 3) tv (encAll (progI cur fs))) ∧
 (∃ A c, fv = .slice A (fnL cur fs).length c ∧ wr.ownsRow (w.heap.size + 3) 114 3 fv (fnL cur fs).length (funcsV (fnL cur fs))) ∧
 TabsAt wr (w.heap.size + 3) bv (tabL cur fs L) ∧ (∃ A c, lv = .slice A (linL 0 0 cur.flatten).length c ∧ wr.ownsRow (w.heap.size + 3) 144 2 lv (linL 0 0 cur.flatten).length (linesV (linL 0 0 cur.flatten)))
theorem AsmFin.shape {w wr : World} {cur : List (List Spot)} {fs : List Int} {L : List RawI} {tv fv bv lv : Value} (h : AsmFin w wr cur fs L tv fv bv lv) :
 ∃ (tA : Option Addr) (tl tc : Nat) (fA : Option Addr) (fl fc : Nat) (bA : Option Addr) (bl bc : Nat) (lA : Option Addr) (ll lc : Nat), tv = .slice tA tl tc ∧ fv = .slice fA fl fc ∧ bv = .slice bA bl bc ∧ lv = .slice lA ll lc := by
 obtain ⟨_, ⟨tA, tc, rfl, _⟩, ⟨fA, fc, rfl, _⟩, ⟨bA, bc, _, rfl, _⟩, ⟨lA, lc, rfl, _⟩⟩ := h; exact ⟨_, _, _, _, _, _, _, _, _, _, _, _, rfl, rfl, rfl, rfl⟩
theorem own_capG {w : World} {base n c size : Nat} {e : TypeId} {A : Option Addr} {xs : List Value} (h : w.ownsRow base e size (.slice A n c) n xs) : n ≤ c := by
 rcases h.2 with ⟨_, e⟩ | ⟨g, cap, cur, hv, _, _, hnc, _⟩
 · omega
 · injection hv with _ h2 h3; omega
theorem linL_bd {B F : Nat} : ∀ (l : List Spot) (ln here : Int), (∀ s ∈ l, SpotOk B F s) → ∀ x ∈ linL ln here l, here ≤ x.1 ∧ x.1 ≤ here + szL l ∧ 0 ≤ x.2 ∧ x.2 < 5 := by
 intro l
 induction l with
 | nil => intro ln here _ x hx; simp [linL] at hx
 | cons s r ih =>
  intro ln here hs x hx; have hz := szS_bd (hs s (by simp)); have hr := szL_bd r fun t ht => hs t (by simp [ht])
  have hl := (hs s (by simp)).2.2.2.1; simp only [linL] at hx; simp only [szL]
  split at hx
  · have := ih _ _ (fun t ht => hs t (by simp [ht])) x hx; omega
  · rw [List.mem_cons] at hx; rcases hx with rfl | hx
    · simp only; omega
    · have := ih _ _ (fun t ht => hs t (by simp [ht])) x hx; omega
theorem prog_imgOk {cur : List (List Spot)} {fs : List Int} (h : PlanOk cur fs) (hk : ∀ i ∈ progI cur fs, i.chk = 0) (L : List RawI) (v : ImgV) (h1 : (encAll (progI cur fs)).length ≤ v.tc) (h2 : (fnL cur fs).length ≤ v.fc) (h3 : (tabL cur fs L).length ≤ v.bc) (h4 : 6 ≤ v.dc) (h5 : (linL 0 0 cur.flatten).length ≤ v.lc) : ImgOk (imgOf cur fs L) v := by
 have hT := prog_len h hk; have hb := flat_bd h; have hf := h.nf; have hfl : (fnL cur fs).length = fs.length := by simp [fnL]
 have hlines := linL_len cur.flatten 0 0; have hns := h.ns; refine ⟨?_, ?_, ?_, ?_, ?_, h1, h2, h3, h4, h5, encAll_bytes _ hk, ?_, ?_, ?_, ?_, ⟨by simp [imgOf], by simp [imgOf]⟩⟩
 · show (encAll (progI cur fs)).length ≤ _; omega
 · show (fnL cur fs).length ≤ _; omega
 · show (tabL cur fs L).length ≤ _; simp [tabL]
 · show (6 : Nat) ≤ _
   decide
 · show (linL 0 0 cur.flatten).length ≤ _; omega
 · intro f hf'; have hf2 : f ∈ fnL cur fs := hf'; unfold fnL at hf2; obtain ⟨i, _, rfl⟩ := List.mem_map.1 hf2; have a1 := h.atB_bd (fs.getD i 0); have a2 := h.atB_bd (fs.getD (i + 1) 0); unfold fnAt N64; refine ⟨⟨by simp only; omega, by simp only; omega⟩, ?_, show (2 : Nat) ≤ 140737488355328 by decide⟩; simp only
   split <;> constructor <;> omega
 · intro t ht x hx; have ht2 : t ∈ tabL cur fs L := ht; unfold tabL at ht2; obtain ⟨i, _, rfl⟩ := List.mem_map.1 ht2; unfold tabAt at hx
   split at hx
   · obtain ⟨q, _, rfl⟩ := List.mem_map.1 hx; have := h.atB_bd (fs.getD (ownerF cur fs i).toNat 0 + pickL (rawAt L (i + q)).a (endB cur fs (ownerF cur fs i) - fs.getD (ownerF cur fs i).toNat 0)); unfold N64; omega
   · cases hx
 · intro x hx; have hx2 : x ∈ ([5, -3, 0, 7, 1, 2] : List Int) := hx; simp only [List.mem_cons, List.not_mem_nil, or_false] at hx2; unfold N64; omega
 · intro l hl; have := linL_bd cur.flatten 0 0 h.flat l hl; unfold N64; omega
theorem asm_own {w wr : World} {base X : Nat} {cur bs : List (List Spot)} {fs : List Int} {bA : Option Addr} {bc : Nat} {fA : Option Addr} {fc : Nat} {gs : List (Nat × Nat)} {L : List RawI} {tv fv bv lv : Value}
 (hS : AsmS w wr base X cur fs bA bc fA fc gs [tv, fv, bv, .slice (some ⟨w.heap.size + 1, 0, none⟩) 6 6, lv, .int .i64 0]) (hF : AsmFin w wr cur fs L tv fv bv lv) (hO : PlanOk cur fs) (hSm : SameL bs cur) :
 ∃ v : ImgV, (imgOf cur fs L).val v = #[tv, fv, bv, .slice (some ⟨w.heap.size + 1, 0, none⟩) 6 6, lv, .int .i64 0] ∧ ImgOwn wr (w.heap.size + 1) (imgOf cur fs L) v ∧ ImgOk (imgOf cur fs L) v ∧ IsProg bs fs L (imgOf cur fs L) := by
 obtain ⟨f1, ⟨tA, tc, rfl, f2⟩, ⟨fA', fc', rfl, f3⟩, f4, ⟨lA, lc, rfl, f5⟩⟩ := hF; have f4' := f4; obtain ⟨bA', bc', vs, rfl, g1, g2, g3⟩ := f4
 have hd : wr.ownsRow (w.heap.size + 1) 3 1 (.slice (some ⟨w.heap.size + 1, 0, none⟩) 6 6) 6 (intsV .i64 [5, -3, 0, 7, 1, 2]) :=
  ⟨rfl, .inr ⟨w.heap.size + 1, 6, _, rfl, Nat.le_refl _, hS.d, Nat.le_refl _, by unfold maxLen; omega, rfl, rfl⟩⟩
 refine ⟨⟨tA, tc, fA', fc', bA', bc', some ⟨w.heap.size + 1, 0, none⟩, 6, lA, lc⟩, rfl, ⟨own_more f2 (by omega), own_more f3 (by omega), hd, own_more f5 (by omega), w.heap.size + 3, by omega, f4', fun q hq => ?_⟩,
  prog_imgOk hO f1 L _ (own_capG f2) (own_capG f3) (own_capG g1) lr' (own_capG f5), cur, hO, hSm, f1, rfl⟩
 have : w.heap.size + 1 = q := by simpa [Value.ownBlock] using hq
 omega
def lineAtF (a : Int) : Int → List (Int × Int) → Int
 | n, [] => n
 | n, l :: r => lineAtF a (if l.1 ≤ a then l.2 else n) r
end Go.Proofs.YtcdlgjhdbmmomaaGreatDoor
namespace Go.Proofs.YtcdlgjhdbmmomaaGreatDoor
open Go.RowKit
theorem infoFunc : (Tryz.prog.info? 114).map (fun i => (i.zero, i.size, i.bytes)) = some (some (.agg #[.string ⟨#[]⟩, .int .i64 0, .int .i64 0]), 3, 32) := by kernel_rfl
theorem infoInts : (Tryz.prog.info? 27).map (fun i => (i.zero, i.size, i.bytes)) = some (some (.slice none 0 0), 1, 24) := by kernel_rfl
theorem gb_then {a b c : World} {row : Option Nat} (h : a.grownBy b row) (k : Below a.heap.size b c) : a.grownBy c row :=
 ⟨k.os.trans h.os, k.tape.trans h.tape, k.output.trans h.output, Nat.le_trans h.size k.size, fun i hi hne => (k.block i hi).trans (h.block i hi hne)⟩
theorem fnAt_eq {cur : List (List Spot)} {fs : List Int} {i a z nf : Nat} (hnf : fs.length = nf) (ha : fs[i]? = some (a : Int)) (h1 : i + 1 < fs.length → fs[i + 1]? = some (z : Int)) :
 fnAt cur fs i = ⟨⟨#[102, (48 + i).toUInt8]⟩, atB cur (a : Int), (if i + 1 < nf then atB cur (z : Int) else szL cur.flatten) - atB cur (a : Int)⟩ := by
 have e1 : fs.getD i 0 = (a : Int) := by rw [List.getD_eq_getElem?_getD, ha]; rfl
 unfold fnAt; rw [e1, hnf]
 split
 · rename_i h
   have e2 : fs.getD (i + 1) 0 = (z : Int) := by rw [List.getD_eq_getElem?_getD, h1 (by omega)]; rfl
   rw [e2]
 · rfl
theorem funcsV_snoc (L : List FnD) (f : FnD) : funcsV (L ++ [f]) = funcsV L ++ [.string f.name, .int .i64 f.start, .int .i64 f.size] := by
 unfold funcsV; rw [List.flatMap_append]; simp [fnV]
def tabQ (cur bs : List (List Spot)) (fs : List Int) (L : List RawI) (t : Nat) : List Int :=
 if 0 ≤ ownerF bs fs t then (List.range 3).map fun i => atB cur (fs.getD (ownerF bs fs t).toNat 0 + pickL (rawAt L (t + i)).a (endB bs fs (ownerF bs fs t) - fs.getD (ownerF bs fs t).toNat 0)) else []
theorem TabsAt.init (w : World) (base : Nat) : TabsAt w base (.slice none 0 0) [] := ⟨none, 0, [], rfl, ⟨rfl, .inl ⟨rfl, rfl⟩⟩, rfl, fun j t h => by simp at h⟩
theorem TabsAt.push {w w1 w2 : World} {base c cg g H : Nat} {A : Option Addr} {ts : List (List Int)} {vs : List Value} (h2 : w.ownsRow base 27 1 (.slice A ts.length c) ts.length vs) (h3 : vs.length = ts.length)
 (h4 : ∀ (j : Nat) (t : List Int), ts[j]? = some t → ∃ A' c', vs[j]? = some (.slice A' t.length c') ∧ t.length ≤ c' ∧ c' ≤ maxLen ∧ t.length ≤ 1000 ∧ (t ≠ [] → ∃ g, A' = some ⟨g, 0, none⟩ ∧ base ≤ g ∧ g < w.heap.size ∧ (Value.slice A ts.length c).ownBlock ≠ some g ∧ (∃ cs fz, w.heap[g]? = some (.cells cs 3 fz)) ∧ ∀ (q : Nat) (x : Int), t[q]? = some x → w.cell? ⟨g, q, none⟩ = some (.int .i64 x)))
 (hb : Below w.heap.size w w1) {t : List Int} {A' : Option Addr} {q c' : Nat} (ho : w1.ownsRow w.heap.size 3 1 (.slice A' q c') q (intsV .i64 t)) (hq : t.length = q) (hl : q ≤ 1000)
 (hw2 : w2.ownsRow base 27 1 (.slice (some ⟨g, 0, none⟩) (ts.length + 1) cg) (ts.length + 1) (vs ++ [.slice A' q c'])) (hgr : w1.grownBy w2 (Value.slice A ts.length c).ownBlock) (hat : (Value.slice A ts.length c).ownBlock = some g ∨ g = H) (hH : w1.heap.size ≤ H) (hbase : base ≤ w.heap.size) :
 TabsAt w2 base (.slice (some ⟨g, 0, none⟩) (ts.length + 1) cg) (ts ++ [t]) := by
 have hbs := hb.size; have hgs := hgr.size; have hown : ∀ x, (Value.slice A ts.length c).ownBlock = some x → base ≤ x ∧ x < w.heap.size := fun x hx => World.ownsRow.lt h2 x hx
 have hgne : ∀ x, x < w1.heap.size → (Value.slice A ts.length c).ownBlock ≠ some x → (Value.slice (some ⟨g, 0, none⟩) (ts.length + 1) cg).ownBlock ≠ some x := by
  intro x hx hne e; simp only [Value.ownBlock] at e; injection e with e; subst e; rcases hat with e | e
  · exact hne e
  · omega
 refine ⟨some ⟨g, 0, none⟩, cg, vs ++ [.slice A' q c'], by simp, by simpa using hw2, by simp [h3], fun j u hu => ?_⟩; rcases Nat.lt_or_ge j ts.length with hj | hj
 · rw [List.getElem?_append_left hj] at hu; obtain ⟨A2, c2, k1, k2, k3, k4, k5⟩ := h4 j u hu; refine ⟨A2, c2, by rw [List.getElem?_append_left (by rw [h3]; exact hj)]; exact k1, k2, k3, k4, fun hn => ?_⟩; obtain ⟨g2, e1, e2, e3, e4, ⟨cs, fz, e6⟩, e5⟩ := k5 hn; refine ⟨g2, e1, e2, by omega, hgne g2 (by omega) e4, ⟨cs, fz, (hgr.block g2 (by omega) (fun e => e4 e.symm)).trans ((hb.block g2 e3).trans e6)⟩, fun p x hx => ?_⟩; rw [← e5 p x hx, ← hb.cell e3]; unfold World.cell?; rw [hgr.block g2 (by omega) (fun e => e4 e.symm)]
 · rw [List.getElem?_append_right hj] at hu
   have hj0 : j = ts.length := by
    have := (List.getElem?_eq_some_iff.1 hu).1; simp at this; omega
   subst hj0; simp only [Nat.sub_self, List.getElem?_cons_zero, Option.some.injEq] at hu; subst hu; have hcap : q ≤ c' := own_capG ho
   have hcm : c' ≤ maxLen := by
    rcases ho.2 with ⟨e, e2⟩ | ⟨g2, cap, cur, hv, hbb, hgg, hn, hm, _⟩
    · injection e with _ _ e3; rw [e3]; exact Nat.zero_le _
    · injection hv with _ _ e3; omega
   refine ⟨A', c', by rw [List.getElem?_append_right (by omega), h3, Nat.sub_self, hq]; rfl, by omega, hcm, by omega, fun hn => ?_⟩
   have hq0 : q ≠ 0 := by
    intro e; apply hn; apply List.eq_nil_of_length_eq_zero; omega
   obtain ⟨g2, rfl⟩ := own_some ho hq0; obtain ⟨o1, o2, o3, o4⟩ := own_at ho; have ol := (World.ownsRow.lt ho g2 rfl).1; have hne : (Value.slice A ts.length c).ownBlock ≠ some g2 := fun e => by have := (hown g2 e).2; omega
   have hty : ∃ cs fz, w1.heap[g2]? = some (.cells cs 3 fz) := by
    rcases ho.2 with ⟨e, _⟩ | ⟨g', cap, cur, hv, _, h2', _⟩
    · cases e
    · injection hv with e1 _ _; injection e1 with e1; injection e1 with e1 _ _; subst e1; exact ⟨_, _, h2'⟩
   obtain ⟨cs, fz, hty⟩ := hty; refine ⟨g2, rfl, by omega, by omega, hgne g2 o3 hne, ⟨cs, fz, (hgr.block g2 o3 (fun e => hne e.symm)).trans hty⟩, fun p x hx => ?_⟩
   · rw [← o4 p (.int .i64 x) (by simp [intsV, hx])]; unfold World.cell?; rw [hgr.block g2 o3 (fun e => hne e.symm)]
theorem TabsAt.push2 {w w1 : World} {base n c : Nat} {A : Option Addr} {ts : List (List Int)} (h : TabsAt w base (.slice A n c) ts) (hn : ts.length = n) (hb : Below w.heap.size w w1) {t : List Int} {A' : Option Addr} {q c' : Nat}
 (ho : w1.ownsRow w.heap.size 3 1 (.slice A' q c') q (intsV .i64 t)) (hq : t.length = q) (hl : q ≤ 1000) (hbase : base ≤ w.heap.size) :
 ∃ vs, w1.ownsRow base 27 1 (.slice A n c) n vs ∧ ∀ (w2 : World) (g cg H : Nat), w2.ownsRow base 27 1 (.slice (some ⟨g, 0, none⟩) (n + 1) cg) (n + 1) (vs ++ [.slice A' q c']) → w1.grownBy w2 (Value.slice A n c).ownBlock →
  ((Value.slice A n c).ownBlock = some g ∨ g = H) → w1.heap.size ≤ H → TabsAt w2 base (.slice (some ⟨g, 0, none⟩) (n + 1) cg) (ts ++ [t]) := by
 subst hn; obtain ⟨A0, c0, vs, e0, h2, h3, h4⟩ := h; injection e0 with e1 e2 e3; subst e1; subst e3; exact ⟨vs, own_keep h2 hb, fun w2 g cg H hw2 hgr hat hH => TabsAt.push h2 h3 h4 hb ho hq hl hw2 hgr hat hH hbase⟩
theorem TabsAt.more {w : World} {base b : Nat} {v : Value} {ts : List (List Int)} (h : TabsAt w base v ts) (hb : b ≤ base) : TabsAt w b v ts := by
 obtain ⟨A, c, vs, h1, h2, h3, h4⟩ := h; refine ⟨A, c, vs, h1, own_more h2 hb, h3, fun j t ht => ?_⟩; obtain ⟨A', c', k1, k2, k2', k2'', k3⟩ := h4 j t ht; refine ⟨A', c', k1, k2, k2', k2'', fun hn => ?_⟩; obtain ⟨g, e1, e2, e3⟩ := k3 hn; exact ⟨g, e1, by omega, e3⟩
theorem owner_bd (bs : List (List Spot)) (fs : List Int) (t : Int) : -1 ≤ ownerF bs fs t ∧ ownerF bs fs t < fs.length := by
 unfold ownerF; rcases h : ownGo bs fs t fs.length with _ | o
 · simp only [Option.getD_none]; omega
 · have := ownGo_lt bs fs t fs.length o h; simp only [Option.getD_some]; omega
def tabE (cur : List (List Spot)) (L : List RawI) (a z t i : Nat) : Int := atB cur ((a : Int) + pickL (rawAt L (t + i)).a ((z : Int) - (a : Int)))
theorem tabQ_own {cur bs : List (List Spot)} {fs : List Int} {L : List RawI} {t o a z : Nat} (how : ownerF bs fs (t : Int) = (o : Int)) (ha : fs[o]? = some (a : Int)) (hz : endB bs fs (o : Int) = (z : Int)) : tabQ cur bs fs L t = (List.range 3).map (tabE cur L a z t) := by
 unfold tabQ; rw [how, if_pos (by omega), hz, Int.toNat_natCast, List.getD_eq_getElem?_getD, ha]
 rfl
theorem tabQ_none {cur bs : List (List Spot)} {fs : List Int} {L : List RawI} {t : Nat} {ow : Int} (how : ownerF bs fs (t : Int) = ow) (h : ¬ 0 ≤ ow) : tabQ cur bs fs L t = [] := by
 unfold tabQ; rw [how, if_neg h]
theorem asm_fin {w wr wf wg wa : World} {cur : List (List Spot)} {fs : List Int} {L : List RawI} {tA fA lA : Option Addr} {tl tc nf fc ll lc : Nat} {bv : Value} (hz : w.heap.size + 3 ≤ wa.heap.size) (h1 : wa.heap.size ≤ wf.heap.size) (h2 : wf.heap.size ≤ wg.heap.size)
 (hchk : ∀ i ∈ resL cur fs 0 cur.flatten, i.chk = 0) (hT : TxL wr wa.heap.size (.slice tA tl tc) (.slice lA ll lc) (codeL cur fs 0 cur.flatten) (linL 0 0 cur.flatten)) (htl : (codeL cur fs 0 cur.flatten).length = tl) (hll : (linL 0 0 cur.flatten).length = ll)
 (hF : wr.ownsRow wf.heap.size 114 3 (.slice fA nf fc) nf (funcsV (fnL cur fs))) (hnf : fs.length = nf) (hB : TabsAt wr wg.heap.size bv ((List.range 3).map (tabQ cur cur fs L))) :
 AsmFin w wr cur fs L (.slice tA tl tc) (.slice fA nf fc) bv (.slice lA ll lc) := by
 have e := codeL_enc cur fs cur.flatten 0 hchk; have hfl : (fnL cur fs).length = nf := by simp [fnL, hnf]
 refine ⟨hchk, ⟨tA, tc, ?_, ?_⟩, ⟨fA, fc, by rw [hfl], ?_⟩, hB.more (by omega), ⟨lA, lc, by rw [hll], ?_⟩⟩
 · show _ = Value.slice tA (encAll (resL cur fs 0 cur.flatten)).length tc; rw [← e, htl]
 · show OwnB wr _ _ (encAll (resL cur fs 0 cur.flatten)); rw [← e]; exact own_more hT.tx hz
 · rw [hfl]; exact own_more hF (by omega)
 · have := hT.ln; exact own_more this hz
end Go.Proofs.YtcdlgjhdbmmomaaGreatDoor
namespace Go.Proofs.YtcdlgjhdbmmomaaGreatDoor
open Go.RowKit
set_option maxHeartbeats 4000000 in
set_option maxRecDepth 100000 in
theorem lineAt_ll (m : Img) (v : ImgV) (a : Int) (w : World) (hI : ImgRd w w.heap.size m v) (hll : m.lines.length ≤ 140737488355328) : Calls Tryz.prog 90 #[.agg (m.val v), .int .i64 a] w fun e w' => e = .returned (.int .i64 (lineAtF a 0 m.lines)) ∧ Below w.heap.size w w' := by
 obtain ⟨R, hR⟩ := ex' (lineAtF a 0 m.lines)
 rw [hR]; unfold Img.val; have HI := hd' hI; have HR := hd' hR; obtain ⟨T, hT⟩ := ex' m.text.length
 obtain ⟨N, hN⟩ := ex' m.lines.length
 rw [hN] at hll; rw [hT, hN]; have HN := hd' hN; obtain ⟨tA, tc, fA, fc, bA, bc, dA, dc, lA, lc⟩ := v; clear hT hN hI hR; simp only at *
 go_enter Tryz.func90, Tryz.ntmps90
 go_wp2
 obtain ⟨W0, hW0⟩ := ex' (w.alloc (.cells #[.slice tA T tc, .slice fA m.funcs.length fc, .slice bA m.tables.length bc, .slice dA m.data.length dc, .slice lA N lc, .int .i64 m.entry] 30))
 rw [hW0]; have hB0 : Below w.heap.size w W0 := by rw [← hW0]; exact (Below.refl _ _).alloc lr' _
 have HB0 := hd' hB0; clear hW0 hB0
 go_loopw [5, 11] (fun v3 v13 wr => ∃ (k : Nat) (n : Int), k ≤ N ∧ v13 = .int .i64 k ∧ v3 = .int .i64 n ∧ Below w.heap.size w wr ∧ Hid (lineAtF a n (m.lines.drop k) = R)) (fun _ v13 _ => N - (intOf v13).toNat)
 case atStart => exact ⟨0, 0, Nat.zero_le _, rfl, rfl, HB0.out, HR.out⟩
 case round =>
  obtain ⟨k, n, hk, rfl, rfl, hbr, hR⟩ := hrel; have hFr := HI.out.lines.below hbr; have HBw := hd' hbr; have hsz := hbr.size; have HR' := hd' hR; clear hbr hR
  by_cases hlt : k < N
  · have hx : m.lines[k]? = some (m.lines[k]'(by have := HN.out; omega)) := gE' _; have hdr : m.lines.drop k = m.lines[k]'(by have := HN.out; omega) :: m.lines.drop (k + 1) := List.drop_eq_getElem_cons _; obtain ⟨l, hl⟩ := ex' (m.lines[k]'(by have := HN.out; omega))
    rw [hl] at hx hdr; obtain ⟨l1, l2⟩ := l; obtain ⟨b, o, hA, hb', c0, c1⟩ := hFr.at2 hx; simp only at hA c0 c1; subst hA; have hR1 := HR'.out; rw [hdr] at hR1; simp only [lineAtF] at hR1; have HBW2 : ∀ X, Below w.heap.size w (wr.alloc X) := fun X => HBw.out.alloc HBw.out.size X
    clear hdr hl hx HR' hFr
    by_cases p : l1 ≤ a
    · rw [if_pos p] at hR1; have HRR := hd' hR1; clear hR1
      go_wp2
      go_roundw
      case rel => exact ⟨k + 1, l2, by omega, by go_num, rfl, HBW2 _, HRR.out⟩
      case measure => simp [intOf]; omega
    · rw [if_neg p] at hR1; have HRR := hd' hR1; clear hR1
      go_wp2
      go_roundw
      case rel => exact ⟨k + 1, n, by omega, by go_num, rfl, HBW2 _, HRR.out⟩
      case measure => simp [intOf]; omega
  · obtain rfl : k = N := by omega
    have hR := HR'.out; rw [List.drop_of_length_le (by have := HN.out; omega)] at hR; simp only [lineAtF] at hR; have HR2 := hd' hR; clear hR hlt
    go_wp2
    go_ret
    exact ⟨by rw [← HR2.out]; rfl, HBw.out⟩
theorem lineAt_any (m : Img) (v : ImgV) (a : Int) (w : World) (hI : ImgRd w w.heap.size m v) (hO : ImgOk m v) (_ha : N64 a) : Calls Tryz.prog 90 #[.agg (m.val v), .int .i64 a] w fun e w' => e = .returned (.int .i64 (lineAtF a 0 m.lines)) ∧ Below w.heap.size w w' := lineAt_ll m v a w hI hO.ll
end Go.Proofs.YtcdlgjhdbmmomaaGreatDoor
