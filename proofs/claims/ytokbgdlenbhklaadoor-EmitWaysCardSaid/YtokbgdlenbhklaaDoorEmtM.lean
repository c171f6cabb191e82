/- Emit's maker, in memory. -/
import Derived.Test.YtokbgdlenbhklaaDoorEmtH
import Derived.Test.YtokbgdlenbhklaaDoorPlanR
namespace Go.Proofs.YtokbgdlenbhklaaDoor
open Go.RowKit
def mkC (m : Img) (v : ImgV) (d : FlowD) (xA yA zA : Option Addr) (xc yc zc : Nat) (n : Nat) (iA : Option Addr) (ic fg nf bg nb : Nat) : List Value :=
 [.slice v.tA m.text.length v.tc, .slice v.fA m.funcs.length v.fc, .slice v.bA m.tables.length v.bc, .slice v.dA m.data.length v.dc, .slice v.lA m.lines.length v.lc, .int .i64 m.entry,
  .slice xA d.blocks.length xc, .slice yA d.tables.length yc, .slice zA d.firsts.length zc, .slice iA n ic, .slice (some ⟨fg, 0, none⟩) nf nf, .slice (some ⟨bg, 0, none⟩) nb nb]
structure MkM (W0 w : World) (X : Nat) (m : Img) (v : ImgV) (d : FlowD) (xA yA zA : Option Addr) (xc yc zc : Nat) (its : List ItD) (iA : Option Addr) (ic fg bg : Nat) (fs bs : List Int) : Prop where
 bel : Below W0.heap.size W0 w
 xge : W0.heap.size ≤ X
 blk : Blk w X 92 (mkC m v d xA yA zA xc yc zc its.length iA ic fg fs.length bg bs.length)
 img : ImgRd W0 W0.heap.size m v
 flw : FlowRd W0 xA xc yA yc zA zc d
 its : w.ownsRow W0.heap.size 138 11 (.slice iA its.length ic) its.length (itsV its)
 fst : w.ownsRow W0.heap.size 3 1 (.slice (some ⟨fg, 0, none⟩) fs.length fs.length) fs.length (intsV .i64 fs)
 bgn : w.ownsRow W0.heap.size 3 1 (.slice (some ⟨bg, 0, none⟩) bs.length bs.length) bs.length (intsV .i64 bs)
 ne : fg ≠ bg
theorem below_gb {W0 w w1 : World} {r : Option Nat} (h : Below W0.heap.size W0 w) (hg : w.grownBy w1 r) (hr : ∀ g, r = some g → W0.heap.size ≤ g) : Below W0.heap.size W0 w1 := by
 refine ⟨hg.os.trans h.os, hg.tape.trans h.tape, hg.output.trans h.output, Nat.le_trans h.size hg.size, fun k hk => ?_⟩; have hkw : k < w.heap.size := Nat.lt_of_lt_of_le hk h.size; exact (hg.block k hkw (fun e => by have := hr k e.symm; omega)).trans (h.block k hk)
def KeepT (Ts : List TypeId) (w w' : World) : Prop := w.heap.size ≤ w'.heap.size ∧ ∀ b, b < w.heap.size → (∀ T ∈ Ts, ¬ TypB w b T) → w'.heap[b]? = w.heap[b]?
theorem KeepT.refl (Ts : List TypeId) (w : World) : KeepT Ts w w := ⟨Nat.le_refl _, fun _ _ _ => rfl⟩
theorem KeepT.trans {Ts : List TypeId} {a b c : World} (h : KeepT Ts a b) (k : KeepT Ts b c) : KeepT Ts a c := by
 refine ⟨Nat.le_trans h.1 k.1, fun q hq ht => ?_⟩; have e := h.2 q hq ht; refine (k.2 q (Nat.lt_of_lt_of_le hq h.1) fun T hT ⟨cs, fz, h1⟩ => ht T hT ⟨cs, fz, ?_⟩).trans e; rw [← e]; exact h1
theorem KeepT.below {Ts : List TypeId} {a b : World} (h : Below a.heap.size a b) : KeepT Ts a b := ⟨h.size, fun q hq _ => h.block q hq⟩
theorem KeepT.gb {Ts : List TypeId} {a b : World} {r : Option Nat} (h : a.grownBy b r) {T : TypeId} (hT : T ∈ Ts) (hr : ∀ g, r = some g → TypB a g T) : KeepT Ts a b :=
 ⟨h.size, fun q hq ht => h.block q hq (fun e => ht T hT (hr q e.symm))⟩
theorem KeepT.blk {Ts : List TypeId} {a b : World} {q : Nat} {t : TypeId} {cs : List Value} (h : KeepT Ts a b) (hB : Blk a q t cs) (ht : ∀ T ∈ Ts, t ≠ T) : Blk b q t cs := by
 refine (h.2 q hB.lt fun T hT k => ?_).trans hB; exact (hB.typ.ne k (ht T hT)) rfl
theorem KeepT.mono {Ts Us : List TypeId} {a b : World} (h : KeepT Ts a b) (hU : ∀ T ∈ Ts, T ∈ Us) : KeepT Us a b := ⟨h.1, fun q hq ht => h.2 q hq fun T hT => ht T (hU T hT)⟩
section
variable {W0 w w1 : World} {X : Nat} {m : Img} {v : ImgV} {d : FlowD} {xA yA zA : Option Addr} {xc yc zc : Nat} {its : List ItD} {iA : Option Addr} {ic fg bg : Nat} {fs bs : List Int}
theorem MkM.below (h : MkM W0 w X m v d xA yA zA xc yc zc its iA ic fg bg fs bs) (hb : Below w.heap.size w w1) : MkM W0 w1 X m v d xA yA zA xc yc zc its iA ic fg bg fs bs :=
 ⟨h.bel.trans (hb.mono h.bel.size), h.xge, h.blk.keep hb, h.img, h.flw, own_keep h.its hb, own_keep h.fst hb, own_keep h.bgn hb, h.ne⟩
theorem MkM.rdI (h : MkM W0 w X m v d xA yA zA xc yc zc its iA ic fg bg fs bs) : ImgRd w w.heap.size m v := (h.img.below h.bel).more h.bel.size
theorem MkM.rdF (h : MkM W0 w X m v d xA yA zA xc yc zc its iA ic fg bg fs bs) : FlowRd w xA xc yA yc zA zc d := h.flw.below h.bel
theorem MkM.gbT (h : MkM W0 w X m v d xA yA zA xc yc zc its iA ic fg bg fs bs) {b : Nat} {T : TypeId} (hg : w.grownBy w1 (some b)) (ht : TypB w b T) (hb : W0.heap.size ≤ b) (hT : (92 ≠ T ∧ 138 ≠ T) ∧ 3 ≠ T) : MkM W0 w1 X m v d xA yA zA xc yc zc its iA ic fg bg fs bs := by
 have hr : ∀ g, some b = some g → TypB w g T := fun g e => by injection e with e; subst e; exact ht
 exact ⟨below_gb h.bel hg (fun g e => by injection e with e; subst e; exact hb), h.xge, h.blk.keepT hg hr hT.1.1, h.img, h.flw, own_keepT h.its hg hr hT.1.2, own_keepT h.fst hg hr hT.2, own_keepT h.bgn hg hr hT.2, h.ne⟩
theorem MkM.push (h : MkM W0 w X m v d xA yA zA xc yc zc its iA ic fg bg fs bs) {t : ItD} {g2 c2 n : Nat} (hn : its.length = n) (ho : w1.ownsRow W0.heap.size 138 11 (.slice (some ⟨g2, 0, none⟩) (n + 1) c2) (n + 1) (itsV its ++ itC t)) (hg : w.grownBy w1 (Value.slice iA n ic).ownBlock) :
 MkM W0 (w1.setCell ⟨X, 9, none⟩ (.slice (some ⟨g2, 0, none⟩) (n + 1) c2)) X m v d xA yA zA xc yc zc (its ++ [t]) (some ⟨g2, 0, none⟩) c2 fg bg fs bs := by
 subst hn; have hty : ∀ g, (Value.slice iA its.length ic).ownBlock = some g → TypB w g 138 := fun g e => own_typ h.its e
 have hb1 : Blk w1 X 92 _ := h.blk.keepT hg hty (by decide); have hf1 := own_keepT h.fst hg hty (by decide); have hg1 := own_keepT h.bgn hg hty (by decide); have hbel := below_gb h.bel hg (fun g e => (World.ownsRow.lt h.its g e).1); have hgX := gb_setCell (gb_refl w1 (some X)) 9 (.slice (some ⟨g2, 0, none⟩) (its.length + 1) c2); have htX : ∀ g, some X = some g → TypB w1 g 92 := fun g e => by injection e with e; subst e; exact hb1.typ
 refine ⟨below_gb hbel hgX (fun g e => by injection e with e; subst e; exact h.xge), h.xge, ?_, h.img, h.flw, ?_, own_keepT hf1 hgX htX (by decide), own_keepT hg1 hgX htX (by decide), h.ne⟩
 · rw [List.length_append, List.length_singleton]; exact hb1.set 9 _
 · rw [List.length_append, List.length_singleton, itsV_snoc]; exact own_keepT ho hgX htX (by decide)
theorem MkM.setF (h : MkM W0 w X m v d xA yA zA xc yc zc its iA ic fg bg fs bs) (j : Nat) (x : Int) : MkM W0 (w.setCell ⟨fg, j, none⟩ (.int .i64 x)) X m v d xA yA zA xc yc zc its iA ic fg bg (fs.set j x) bs := by
 have hg := gb_setCell (gb_refl w (some fg)) j (.int .i64 x); have hty : ∀ g, some fg = some g → TypB w g 3 := fun g e => by injection e with e; subst e; exact own_typ h.fst rfl
 have hset := own_set h.fst j (.int .i64 x); refine ⟨below_gb h.bel hg (fun g e => by injection e with e; subst e; exact (World.ownsRow.lt h.fst fg rfl).1), h.xge, ?_, h.img, h.flw, own_keepT h.its hg hty (by decide), ?_, own_gb h.bgn hg (fun e => by injection e with e; exact h.ne e.symm), h.ne⟩
 · rw [List.length_set]; exact h.blk.keepT hg hty (by decide)
 · have e : intsV .i64 (fs.set j x) = (intsV .i64 fs).set j (.int .i64 x) := by unfold intsV; rw [List.map_set]
   rw [List.length_set, e]; exact hset
theorem MkM.setB (h : MkM W0 w X m v d xA yA zA xc yc zc its iA ic fg bg fs bs) (j : Nat) (x : Int) : MkM W0 (w.setCell ⟨bg, j, none⟩ (.int .i64 x)) X m v d xA yA zA xc yc zc its iA ic fg bg fs (bs.set j x) := by
 have hg := gb_setCell (gb_refl w (some bg)) j (.int .i64 x); have hty : ∀ g, some bg = some g → TypB w g 3 := fun g e => by injection e with e; subst e; exact own_typ h.bgn rfl
 have hset := own_set h.bgn j (.int .i64 x); refine ⟨below_gb h.bel hg (fun g e => by injection e with e; subst e; exact (World.ownsRow.lt h.bgn bg rfl).1), h.xge, ?_, h.img, h.flw, own_keepT h.its hg hty (by decide), own_gb h.fst hg (fun e => by injection e with e; exact h.ne e), ?_, h.ne⟩
 · rw [List.length_set]; exact h.blk.keepT hg hty (by decide)
 · have e : intsV .i64 (bs.set j x) = (intsV .i64 bs).set j (.int .i64 x) := by unfold intsV; rw [List.map_set]
   rw [List.length_set, e]; exact hset
theorem MkM.item (h : MkM W0 w X m v d xA yA zA xc yc zc its iA ic fg bg fs bs) {j : Nat} {t : ItD} (ht : its[j]? = some t) : ∃ gi, iA = some ⟨gi, 0, none⟩ ∧ gi < w.heap.size ∧ W0.heap.size ≤ gi ∧ ∀ (q : Nat) (u : Value), (itC t)[q]? = some u → w.cell? ⟨gi, j * 11 + q, none⟩ = some u ∧ w.frozen? ⟨gi, j * 11 + q, none⟩ = false := by
 obtain ⟨gi, rfl⟩ := own_ptr h.its (by have := (List.getElem?_eq_some_iff.1 ht).1; omega); refine ⟨gi, rfl, (World.ownsRow.lt h.its gi rfl).2, (World.ownsRow.lt h.its gi rfl).1, fun q u hu => ?_⟩; have := own_cellf h.its (itsV_at ht q u hu); exact ⟨this.1, this.2.1⟩
theorem itsV_set {t' : ItD} {q : Nat} {u : Value} : ∀ {l : List ItD} {j : Nat} {t : ItD}, l[j]? = some t → q < 11 → itC t' = (itC t).set q u → itsV (l.set j t') = (itsV l).set (j * 11 + q) u
 | [], j, t, h, _, _ => by simp at h
 | x :: r, 0, t, h, hq, e => by
  simp only [List.getElem?_cons_zero, Option.some.injEq] at h; subst h; show itC t' ++ itsV r = (itC x ++ itsV r).set (0 * 11 + q) u; rw [List.set_append_left _ _ (by simp [itC]; omega), e]; simp
 | x :: r, j + 1, t, h, hq, e => by
  rw [List.getElem?_cons_succ] at h; show itC x ++ itsV (r.set j t') = (itC x ++ itsV r).set ((j + 1) * 11 + q) u; have hl : (itC x).length = 11 := rfl; rw [List.set_append_right _ _ (by rw [hl]; omega), itsV_set h hq e, hl]
  congr 2
  omega
theorem MkM.setI {gi : Nat} (h : MkM W0 w X m v d xA yA zA xc yc zc its (some ⟨gi, 0, none⟩) ic fg bg fs bs) {j : Nat} {t : ItD} (ht : its[j]? = some t) (t' : ItD) (q : Nat) (u : Value) (hq : q < 11) (e : itC t' = (itC t).set q u) : MkM W0 (w.setCell ⟨gi, j * 11 + q, none⟩ u) X m v d xA yA zA xc yc zc (its.set j t') (some ⟨gi, 0, none⟩) ic fg bg fs bs := by
 have hg := gb_setCell (gb_refl w (some gi)) (j * 11 + q) u; have hty : ∀ g, some gi = some g → TypB w g 138 := fun g e => by injection e with e; subst e; exact own_typ h.its rfl
 have hset := own_set h.its (j * 11 + q) u; refine ⟨below_gb h.bel hg (fun g e => by injection e with e; subst e; exact (World.ownsRow.lt h.its gi rfl).1), h.xge, ?_, h.img, h.flw, ?_, own_keepT h.fst hg hty (by decide), own_keepT h.bgn hg hty (by decide), h.ne⟩
 · rw [List.length_set]; exact h.blk.keepT hg hty (by decide)
 · rw [List.length_set, itsV_set ht hq e]; exact hset
end
end Go.Proofs.YtokbgdlenbhklaaDoor
