/- Recover, walked: where it finds fault. -/
import Derived.Test.YtcafhoobeggmeaaDoorEmtH
import Derived.Test.YtcafhoobeggmeaaDoorPlanR
import Derived.Test.YtcafhoobeggmeaaDoorRegX
import Derived.Deep.DeepCutAuto
import Derived.Deep.CutBlock
import Derived.Deep.QuietTactic
import Derived.BigQuiet
import Derived.IntWalk
import Derived.Test.YtcafhoobeggmeaaDoorFlowM
import Derived.Deep.LoopGhost
namespace Go.Proofs.YtcafhoobeggmeaaDoor
open Go.RowKit
def mkC (m : Img) (v : ImgV) (d : FlowD) (xA yA zA : Option Addr) (xc yc zc : Nat) (n : Nat) (iA : Option Addr) (ic fg nf bg nb : Nat) : List Value :=
 [.slice v.tA m.text.length v.tc, .slice v.fA m.funcs.length v.fc, .slice v.bA m.tables.length v.bc, .slice v.dA m.data.length v.dc, .slice v.lA m.lines.length v.lc, .int .i64 m.entry,
  .slice xA d.blocks.length xc, .slice yA d.tables.length yc, .slice zA d.firsts.length zc, .slice iA n ic, .slice (some ⟨fg, 0, none⟩) nf nf, .slice (some ⟨bg, 0, none⟩) nb nb]
structure MkM (W0 w : World) (X : Nat) (m : Img) (v : ImgV) (d : FlowD) (xA yA zA : Option Addr) (xc yc zc : Nat) (its : List ItD) (iA : Option Addr) (ic fg bg : Nat) (fs bs : List Int) : Prop where
 bel : Below W0.heap.size W0 w
 xge : W0.heap.size ≤ X
 blk : Blk w X 88 (mkC m v d xA yA zA xc yc zc its.length iA ic fg fs.length bg bs.length)
 img : ImgRd W0 W0.heap.size m v
 flw : FlowRd W0 xA xc yA yc zA zc d
 its : w.ownsRow W0.heap.size 135 11 (.slice iA its.length ic) its.length (itsV its)
 fst : w.ownsRow W0.heap.size 3 1 (.slice (some ⟨fg, 0, none⟩) fs.length fs.length) fs.length (intsV .i64 fs)
 bgn : w.ownsRow W0.heap.size 3 1 (.slice (some ⟨bg, 0, none⟩) bs.length bs.length) bs.length (intsV .i64 bs)
 ne : fg ≠ bg
theorem below_gb {W0 w w1 : World} {r : Option Nat} (h : Below W0.heap.size W0 w) (hg : w.grownBy w1 r) (hr : ∀ g, r = some g → W0.heap.size ≤ g) : Below W0.heap.size W0 w1 := by
 refine ⟨hg.os.trans h.os, hg.tape.trans h.tape, hg.output.trans h.output, Nat.le_trans h.size hg.size, fun k hk => ?_⟩; have hkw : k < w.heap.size := Nat.lt_of_lt_of_le hk h.size; exact (hg.block k hkw (fun e => by have := hr k e.symm; omega)).trans (h.block k hk)
def KeepT (Ts : List TypeId) (w w' : World) : Prop := w.heap.size ≤ w'.heap.size ∧ ∀ b, b < w.heap.size → (∀ T ∈ Ts, ¬ TypB w b T) → w'.heap[b]? = w.heap[b]?
theorem KeepT.refl (Ts : List TypeId) (w : World) : KeepT Ts w w := ⟨Nat.le_refl _, fun _ _ _ => rfl⟩
theorem KeepT.trans {Ts : List TypeId} {a b c : World} (h : KeepT Ts a b) (k : KeepT Ts b c) : KeepT Ts a c := by
 refine ⟨Nat.le_trans h.1 k.1, fun q hq ht => ?_⟩; have e := h.2 q hq ht; refine (k.2 q (Nat.lt_of_lt_of_le hq h.1) fun T hT ⟨cs, fz, h1⟩ => ht T hT ⟨cs, fz, ?_⟩).trans e; rw [← e]; exact h1
theorem KeepT.below {Ts : List TypeId} {a b : World} (h : Below a.heap.size a b) : KeepT Ts a b := ⟨h.size, fun q hq _ => h.block q hq⟩
theorem KeepT.gb {Ts : List TypeId} {a b : World} {r : Option Nat} (h : a.grownBy b r) {T : TypeId} (hT : T ∈ Ts) (hr : ∀ g, r = some g → TypB a g T) : KeepT Ts a b :=
 ⟨h.size, fun q hq ht => h.block q hq (fun e => ht T hT (hr q e.symm))⟩
theorem KeepT.blk {Ts : List TypeId} {a b : World} {q : Nat} {t : TypeId} {cs : List Value} (h : KeepT Ts a b) (hB : Blk a q t cs) (ht : ∀ T ∈ Ts, t ≠ T) : Blk b q t cs := by
 refine (h.2 q hB.lt fun T hT k => ?_).trans hB; exact (hB.typ.ne k (ht T hT)) rfl
theorem KeepT.mono {Ts Us : List TypeId} {a b : World} (h : KeepT Ts a b) (hU : ∀ T ∈ Ts, T ∈ Us) : KeepT Us a b := ⟨h.1, fun q hq ht => h.2 q hq fun T hT => ht T (hU T hT)⟩
section
variable {W0 w w1 : World} {X : Nat} {m : Img} {v : ImgV} {d : FlowD} {xA yA zA : Option Addr} {xc yc zc : Nat} {its : List ItD} {iA : Option Addr} {ic fg bg : Nat} {fs bs : List Int}
theorem MkM.below (h : MkM W0 w X m v d xA yA zA xc yc zc its iA ic fg bg fs bs) (hb : Below w.heap.size w w1) : MkM W0 w1 X m v d xA yA zA xc yc zc its iA ic fg bg fs bs :=
 ⟨h.bel.trans (hb.mono h.bel.size), h.xge, h.blk.keep hb, h.img, h.flw, own_keep h.its hb, own_keep h.fst hb, own_keep h.bgn hb, h.ne⟩
theorem MkM.rdI (h : MkM W0 w X m v d xA yA zA xc yc zc its iA ic fg bg fs bs) : ImgRd w w.heap.size m v := (h.img.below h.bel).more h.bel.size
theorem MkM.rdF (h : MkM W0 w X m v d xA yA zA xc yc zc its iA ic fg bg fs bs) : FlowRd w xA xc yA yc zA zc d := h.flw.below h.bel
theorem MkM.gbT (h : MkM W0 w X m v d xA yA zA xc yc zc its iA ic fg bg fs bs) {b : Nat} {T : TypeId} (hg : w.grownBy w1 (some b)) (ht : TypB w b T) (hb : W0.heap.size ≤ b) (hT : (88 ≠ T ∧ 135 ≠ T) ∧ 3 ≠ T) : MkM W0 w1 X m v d xA yA zA xc yc zc its iA ic fg bg fs bs := by
 have hr : ∀ g, some b = some g → TypB w g T := fun g e => by injection e with e; subst e; exact ht
 exact ⟨below_gb h.bel hg (fun g e => by injection e with e; subst e; exact hb), h.xge, h.blk.keepT hg hr hT.1.1, h.img, h.flw, own_keepT h.its hg hr hT.1.2, own_keepT h.fst hg hr hT.2, own_keepT h.bgn hg hr hT.2, h.ne⟩
theorem MkM.push (h : MkM W0 w X m v d xA yA zA xc yc zc its iA ic fg bg fs bs) {t : ItD} {g2 c2 n : Nat} (hn : its.length = n) (ho : w1.ownsRow W0.heap.size 135 11 (.slice (some ⟨g2, 0, none⟩) (n + 1) c2) (n + 1) (itsV its ++ itC t)) (hg : w.grownBy w1 (Value.slice iA n ic).ownBlock) :
 MkM W0 (w1.setCell ⟨X, 9, none⟩ (.slice (some ⟨g2, 0, none⟩) (n + 1) c2)) X m v d xA yA zA xc yc zc (its ++ [t]) (some ⟨g2, 0, none⟩) c2 fg bg fs bs := by
 subst hn; have hty : ∀ g, (Value.slice iA its.length ic).ownBlock = some g → TypB w g 135 := fun g e => own_typ h.its e
 have hb1 : Blk w1 X 88 _ := h.blk.keepT hg hty (by decide); have hf1 := own_keepT h.fst hg hty (by decide); have hg1 := own_keepT h.bgn hg hty (by decide); have hbel := below_gb h.bel hg (fun g e => (World.ownsRow.lt h.its g e).1); have hgX := gb_setCell (gb_refl w1 (some X)) 9 (.slice (some ⟨g2, 0, none⟩) (its.length + 1) c2); have htX : ∀ g, some X = some g → TypB w1 g 88 := fun g e => by injection e with e; subst e; exact hb1.typ
 refine ⟨below_gb hbel hgX (fun g e => by injection e with e; subst e; exact h.xge), h.xge, ?_, h.img, h.flw, ?_, own_keepT hf1 hgX htX (by decide), own_keepT hg1 hgX htX (by decide), h.ne⟩
 · rw [List.length_append, List.length_singleton]; exact hb1.set 9 _
 · rw [List.length_append, List.length_singleton, itsV_snoc]; exact own_keepT ho hgX htX (by decide)
theorem MkM.setF (h : MkM W0 w X m v d xA yA zA xc yc zc its iA ic fg bg fs bs) (j : Nat) (x : Int) : MkM W0 (w.setCell ⟨fg, j, none⟩ (.int .i64 x)) X m v d xA yA zA xc yc zc its iA ic fg bg (fs.set j x) bs := by
 have hg := gb_setCell (gb_refl w (some fg)) j (.int .i64 x); have hty : ∀ g, some fg = some g → TypB w g 3 := fun g e => by injection e with e; subst e; exact own_typ h.fst rfl
 have hset := own_set h.fst j (.int .i64 x); refine ⟨below_gb h.bel hg (fun g e => by injection e with e; subst e; exact (World.ownsRow.lt h.fst fg rfl).1), h.xge, ?_, h.img, h.flw, own_keepT h.its hg hty (by decide), ?_, own_gb h.bgn hg (fun e => by injection e with e; exact h.ne e.symm), h.ne⟩
 · rw [List.length_set]; exact h.blk.keepT hg hty (by decide)
 · have e : intsV .i64 (fs.set j x) = (intsV .i64 fs).set j (.int .i64 x) := by unfold intsV; rw [List.map_set]
   rw [List.length_set, e]; exact hset
theorem MkM.setB (h : MkM W0 w X m v d xA yA zA xc yc zc its iA ic fg bg fs bs) (j : Nat) (x : Int) : MkM W0 (w.setCell ⟨bg, j, none⟩ (.int .i64 x)) X m v d xA yA zA xc yc zc its iA ic fg bg fs (bs.set j x) := by
 have hg := gb_setCell (gb_refl w (some bg)) j (.int .i64 x); have hty : ∀ g, some bg = some g → TypB w g 3 := fun g e => by injection e with e; subst e; exact own_typ h.bgn rfl
 have hset := own_set h.bgn j (.int .i64 x); refine ⟨below_gb h.bel hg (fun g e => by injection e with e; subst e; exact (World.ownsRow.lt h.bgn bg rfl).1), h.xge, ?_, h.img, h.flw, own_keepT h.its hg hty (by decide), own_gb h.fst hg (fun e => by injection e with e; exact h.ne e), ?_, h.ne⟩
 · rw [List.length_set]; exact h.blk.keepT hg hty (by decide)
 · have e : intsV .i64 (bs.set j x) = (intsV .i64 bs).set j (.int .i64 x) := by unfold intsV; rw [List.map_set]
   rw [List.length_set, e]; exact hset
theorem MkM.item (h : MkM W0 w X m v d xA yA zA xc yc zc its iA ic fg bg fs bs) {j : Nat} {t : ItD} (ht : its[j]? = some t) : ∃ gi, iA = some ⟨gi, 0, none⟩ ∧ gi < w.heap.size ∧ W0.heap.size ≤ gi ∧ ∀ (q : Nat) (u : Value), (itC t)[q]? = some u → w.cell? ⟨gi, j * 11 + q, none⟩ = some u ∧ w.frozen? ⟨gi, j * 11 + q, none⟩ = false := by
 obtain ⟨gi, rfl⟩ := own_ptr h.its (by have := (List.getElem?_eq_some_iff.1 ht).1; omega); refine ⟨gi, rfl, (World.ownsRow.lt h.its gi rfl).2, (World.ownsRow.lt h.its gi rfl).1, fun q u hu => ?_⟩; have := own_cellf h.its (itsV_at ht q u hu); exact ⟨this.1, this.2.1⟩
theorem itsV_set {t' : ItD} {q : Nat} {u : Value} : ∀ {l : List ItD} {j : Nat} {t : ItD}, l[j]? = some t → q < 11 → itC t' = (itC t).set q u → itsV (l.set j t') = (itsV l).set (j * 11 + q) u
 | [], j, t, h, _, _ => by simp at h
 | x :: r, 0, t, h, hq, e => by
  simp only [List.getElem?_cons_zero, Option.some.injEq] at h; subst h; show itC t' ++ itsV r = (itC x ++ itsV r).set (0 * 11 + q) u; rw [List.set_append_left _ _ (by simp [itC]; omega), e]; simp
 | x :: r, j + 1, t, h, hq, e => by
  rw [List.getElem?_cons_succ] at h; show itC x ++ itsV (r.set j t') = (itC x ++ itsV r).set ((j + 1) * 11 + q) u; have hl : (itC x).length = 11 := rfl; rw [List.set_append_right _ _ (by rw [hl]; omega), itsV_set h hq e, hl]
  congr 2
  omega
theorem MkM.setI {gi : Nat} (h : MkM W0 w X m v d xA yA zA xc yc zc its (some ⟨gi, 0, none⟩) ic fg bg fs bs) {j : Nat} {t : ItD} (ht : its[j]? = some t) (t' : ItD) (q : Nat) (u : Value) (hq : q < 11) (e : itC t' = (itC t).set q u) : MkM W0 (w.setCell ⟨gi, j * 11 + q, none⟩ u) X m v d xA yA zA xc yc zc (its.set j t') (some ⟨gi, 0, none⟩) ic fg bg fs bs := by
 have hg := gb_setCell (gb_refl w (some gi)) (j * 11 + q) u; have hty : ∀ g, some gi = some g → TypB w g 135 := fun g e => by injection e with e; subst e; exact own_typ h.its rfl
 have hset := own_set h.its (j * 11 + q) u; refine ⟨below_gb h.bel hg (fun g e => by injection e with e; subst e; exact (World.ownsRow.lt h.its gi rfl).1), h.xge, ?_, h.img, h.flw, ?_, own_keepT h.fst hg hty (by decide), own_keepT h.bgn hg hty (by decide), h.ne⟩
 · rw [List.length_set]; exact h.blk.keepT hg hty (by decide)
 · rw [List.length_set, itsV_set ht hq e]; exact hset
end
end Go.Proofs.YtcafhoobeggmeaaDoor
namespace Go.Proofs.YtcafhoobeggmeaaDoor
open Go.RowKit Go.Deep
theorem infoItem : (Tryd.prog.info? 135).map (fun i => (i.zero, i.size, i.bytes)) = some (some (.agg #[.int .i64 0, .int .i64 0, .int .i64 0, .int .i64 0, .int .i64 0, .bool false, .int .i64 0, .int .i64 0, .int .i64 0, .int .i64 0, .int .i64 0]), 11, 88) := by kernel_rfl
set_option maxRecDepth 100000 in
theorem opposite_any (k : Int) (w : World) (h : 18 ≤ k ∧ k ≤ 21) : Calls Tryd.prog 50 #[.int .i64 k] w fun e w' => e = .returned (.int .i64 (oppK k)) ∧ w' = w := by
 have h4 : k = 18 ∨ k = 19 ∨ k = 20 ∨ k = 21 := by omega
 have hix : ∀ (j : Nat) (x : Int), ([0, 0, 0, 0, 0, 0, 0, 0, 0, 0, 0, 0, 0, 0, 0, 0, 0, 0, 19, 18, 21, 20] : List Int)[j]? = some x → (18 ≤ j) → (Instr.index 167 (.agg #[.int .i64 0, .int .i64 0, .int .i64 0, .int .i64 0, .int .i64 0, .int .i64 0, .int .i64 0, .int .i64 0, .int .i64 0, .int .i64 0, .int .i64 0, .int .i64 0, .int .i64 0, .int .i64 0, .int .i64 0, .int .i64 0, .int .i64 0, .int .i64 0, .int .i64 19, .int .i64 18, .int .i64 21, .int .i64 20]) (.int .i64 j)).run Tryd.prog w = .ok (.int .i64 x) w := by
  intro j x hx hj; have hl := (List.getElem?_eq_some_iff.1 hx).1; simp only [List.length_cons, List.length_nil] at hl; have : j = 18 ∨ j = 19 ∨ j = 20 ∨ j = 21 := by omega
  rcases this with rfl | rfl | rfl | rfl
  all_goals
   simp only [List.getElem?_cons_succ, List.getElem?_cons_zero, Option.some.injEq] at hx; subst hx
   rfl
 have h18 := hix 18 19 rfl (by decide); have h19 := hix 19 18 rfl (by decide); have h20 := hix 20 21 rfl (by decide); have h21 := hix 21 20 rfl (by decide); simp only [Int.cast_ofNat_Int] at h18 h19 h20 h21; clear hix; rcases h4 with rfl | rfl | rfl | rfl
 all_goals
  go_enter Tryd.func50, Tryd.ntmps50
  go_wp2
  go_ret
  exact ⟨rfl, rfl⟩
set_option maxHeartbeats 4000000 in
set_option maxRecDepth 100000 in
theorem address_any {W0 w : World} {X : Nat} {m : Img} {v : ImgV} {d : FlowD} {xA yA zA : Option Addr} {xc yc zc : Nat} {its : List ItD} {iA : Option Addr} {ic fg bg : Nat} {fs bs : List Int} (h : MkM W0 w X m v d xA yA zA xc yc zc its iA ic fg bg fs bs) (j : Nat) (size : Int) :
 Calls Tryd.prog 52 #[.pointer (some ⟨X, 0, none⟩), .int .i64 j, .int .i64 size] w fun e w' => e = .returned (.int .i64 (addrK its size j)) ∧ w' = w := by
 obtain ⟨R, hR⟩ := ex' (addrK its size (j : Int))
 rw [hR]; unfold addrK at hR; have x9 := h.blk.cell 9 rfl; have xl := h.blk.lt; obtain ⟨ni, hni⟩ := ex' its.length
 rw [hni] at x9 hR
 by_cases hj : j < ni
 · have hjI : (j : Int) < (ni : Int) := by omega
   rw [if_pos hjI] at hR; have ht : its[j]? = some (its[j]'(by omega)) := gE' _; obtain ⟨t, hte⟩ := ex' (its[j]'(by omega))
   rw [hte] at ht; obtain ⟨gi, rfl, hgl, hg0, hc⟩ := h.item ht; have c10 := (hc 10 _ rfl).1; have hcap : ni ≤ ic := by have := own_capG h.its; omega
   have hp : t.pos = R := by
    rw [← hR]; unfold posAt; rw [Int.toNat_natCast, ht]
    rfl
   rw [hp] at c10; have hj0 : (0 : Int) ≤ (j : Int) := by omega
   have hw := hd' h; clear h ht hte hc hp hR hni
   go_enter Tryd.func52, Tryd.ntmps52
   go_wp2
   go_ret
   exact ⟨rfl, rfl⟩
 · have hjI : ¬ (j : Int) < (ni : Int) := by omega
   rw [if_neg hjI] at hR; clear h hni
   go_enter Tryd.func52, Tryd.ntmps52
   go_wp2
   go_ret
   exact ⟨rfl, rfl⟩
def AddPost (Ts : List TypeId) (w W0 : World) (X : Nat) (m : Img) (v : ImgV) (d : FlowD) (xA yA zA : Option Addr) (xc yc zc : Nat) (its : List ItD) (fg bg : Nat) (fs bs : List Int) (e : Ending) (w' : World) : Prop :=
 e = .returned (.tuple #[]) ∧ KeepT Ts w w' ∧ ∃ (iA : Option Addr) (ic : Nat), MkM W0 w' X m v d xA yA zA xc yc zc its iA ic fg bg fs bs
set_option maxHeartbeats 4000000 in
set_option maxRecDepth 100000 in
theorem add_any {W0 w : World} {X : Nat} {m : Img} {v : ImgV} {d : FlowD} {xA yA zA : Option Addr} {xc yc zc : Nat} {its : List ItD} {iA : Option Addr} {ic fg bg : Nat} {fs bs : List Int} (h : MkM W0 w X m v d xA yA zA xc yc zc its iA ic fg bg fs bs) (hl : its.length ≤ 1000000) (k dd a b n : Int) (l : Bool) (bk fnn old line : Int) :
 Calls Tryd.prog 49 #[.pointer (some ⟨X, 0, none⟩), .agg #[.int .i64 k, .int .i64 dd, .int .i64 a, .int .i64 b, .int .i64 n, .bool l], .int .i64 bk, .int .i64 fnn, .int .i64 old, .int .i64 line] w (AddPost [135, 88] w W0 X m v d xA yA zA xc yc zc (its ++ [⟨⟨k, dd, a, b, n, l⟩, bk, fnn, old, line, 0⟩]) fg bg fs bs) := by
 have HPO : Hid (∀ e w' iA ic, e = .returned (.tuple #[]) → KeepT [135, 88] w w' → MkM W0 w' X m v d xA yA zA xc yc zc (its ++ [⟨⟨k, dd, a, b, n, l⟩, bk, fnn, old, line, 0⟩]) iA ic fg bg fs bs → AddPost [135, 88] w W0 X m v d xA yA zA xc yc zc (its ++ [⟨⟨k, dd, a, b, n, l⟩, bk, fnn, old, line, 0⟩]) fg bg fs bs e w') := hd' fun e w' iA ic h1 hk h2 => ⟨h1, hk, iA, ic, h2⟩
 obtain ⟨ni, hni⟩ := ex' its.length
 have HNI := hd' hni; have HM := hd' h; have hs0 := h.bel.size; rw [hni] at hl; clear h hni
 go_enter Tryd.func49, Tryd.ntmps49
 go_upto_region 1 with fail
 obtain ⟨W1, hW1⟩ := ex' (w.alloc (.cells #[.int .i64 k, .int .i64 dd, .int .i64 a, .int .i64 b, .int .i64 n, .bool l] 55))
 rw [hW1]; have hb1 : Below w.heap.size w W1 := by rw [← hW1]; exact (Below.refl _ _).alloc lr' _
 have hi1 : Blk W1 w.heap.size 55 [.int .i64 k, .int .i64 dd, .int .i64 a, .int .i64 b, .int .i64 n, .bool l] := by rw [← hW1]; exact Blk.new w _ _
 have HM1 := hd' (HM.out.below hb1); have HI1 := hd' hi1; have hs1 := hb1.size; have HK1 : Hid (KeepT [135, 88] w W1) := hd' (KeepT.below hb1); have x9 := HM1.out.blk.cell 9 rfl; rw [HNI.out] at x9; have xl := HM1.out.blk.lt; have i0 := hi1.cell 0 rfl; have i1 := hi1.cell 1 rfl; have i2 := hi1.cell 2 rfl; have i3 := hi1.cell 3 rfl; have i4 := hi1.cell 4 rfl; have i5 := hi1.cell 5 rfl; have il := hi1.lt; clear hW1 hb1 hi1
 refine wp_region_W (fun w' => w'.cell? ⟨X, 9, none⟩ = some (.slice iA ni ic) ∧ w'.cell? ⟨w.heap.size, 0, none⟩ = some (.int .i64 k) ∧ w'.cell? ⟨w.heap.size, 1, none⟩ = some (.int .i64 dd) ∧ w'.cell? ⟨w.heap.size, 2, none⟩ = some (.int .i64 a) ∧ w'.cell? ⟨w.heap.size, 3, none⟩ = some (.int .i64 b) ∧ w'.cell? ⟨w.heap.size, 4, none⟩ = some (.int .i64 n) ∧ w'.cell? ⟨w.heap.size, 5, none⟩ = some (.bool l)) 15 (by kernel_rfl) (by (try dsimp only); go_keep) (fun zH => ?_); refine wq 0 zH ?_; refine wq 1 zH ?_; refine wq 2 zH ?_; refine wq 3 zH ?_; refine wq 4 zH ?_; refine wq 5 zH ?_; refine wq 6 zH ?_; refine wq 7 zH ?_; refine wq 8 zH ?_; refine wq 9 zH ?_; refine wq 10 zH ?_; refine wpW_one 11 rfl (by kernel_rfl) (fun K hK => ?_)
 go_simp
 have hblA : Below W1.heap.size W1 (W1.drew.alloc (.cells #[.int .i64 k, .int .i64 dd, .int .i64 a, .int .i64 b, .int .i64 n, .bool l, .int .i64 bk, .int .i64 fnn, .int .i64 old, .int .i64 line, .int .i64 0] 135)) := (Below.refl _ _).drew.alloc lr' _; have hMA := HM1.out.below hblA; have hiA := HI1.out.keep hblA; have a9 := hMA.blk.cell 9 rfl; have a0 := hiA.cell 0 rfl; have a1 := hiA.cell 1 rfl; have a2 := hiA.cell 2 rfl; have a3 := hiA.cell 3 rfl; have a4 := hiA.cell 4 rfl; have a5 := hiA.cell 5 rfl; rw [HNI.out] at a9
 refine hK.out _ _ (by (try dsimp only); exact ⟨a9, a0, a1, a2, a3, a4, a5⟩) (fun zH => ?_); clear hK K; (try simp only [putE]); refine wpW_one 12 rfl (by kernel_rfl) (fun K hK => ?_)
 refine step_app_one rfl _ _ 86 135 11 88 _ Tryd.underlying86 infoItem rfl (by decide) rfl W0.heap.size _ ni _ rfl (by have := hMA.its; rw [HNI.out] at this; exact this) W1.heap.size 1 rfl [.int .i64 k, .int .i64 dd, .int .i64 a, .int .i64 b, .int .i64 n, .bool l, .int .i64 bk, .int .i64 fnn, .int .i64 old, .int .i64 line, .int .i64 0] 135 (0, 0) (heap_alloc_new W1.drew _) rfl (by simp [Value.oneCell']) (by omega) (by omega) (by simp; omega) (W1.heap.size + 1) (by simp) (fun g3 c3 w3 ho3 hgr3 hat3 hlt3 => ?_)
 have hty3 : ∀ q, (Value.slice iA ni ic).ownBlock = some q → TypB (W1.drew.alloc (.cells #[.int .i64 k, .int .i64 dd, .int .i64 a, .int .i64 b, .int .i64 n, .bool l, .int .i64 bk, .int .i64 fnn, .int .i64 old, .int .i64 line, .int .i64 0] 135)) q 135 := fun q e => own_typ (by have := hMA.its; rw [HNI.out] at this; exact this) e
 have hx3 : Blk w3 X 88 _ := hMA.blk.keepT hgr3 hty3 (by decide); rw [HNI.out] at hx3; have hi3 := hiA.keepT hgr3 hty3 (by decide); have b9 := hx3.cell 9 rfl; have b0 := hi3.cell 0 rfl; have b1 := hi3.cell 1 rfl; have b2 := hi3.cell 2 rfl; have b3 := hi3.cell 3 rfl; have b4 := hi3.cell 4 rfl; have b5 := hi3.cell 5 rfl; have bf := hx3.free 9; have bl := hx3.lt; refine hK.out _ _ (by (try dsimp only); exact ⟨b9, b0, b1, b2, b3, b4, b5⟩) (fun zH => ?_); clear hK K; (try simp only [putE]); refine wpW_one 13 rfl (by kernel_rfl) (fun K hK => ?_)
 go_simp
 refine hK.out _ _ (by (try dsimp only); exact ⟨b9, b0, b1, b2, b3, b4, b5⟩) (fun zH => ?_); clear hK K; (try simp only [putE]); refine wpW_one 14 rfl (by kernel_rfl) (fun K hK => ?_)
 go_simp
 refine hK.out _ _ (by (try dsimp only); exact ⟨b9, b0, b1, b2, b3, b4, b5⟩) (fun zH => ?_); clear hK K; (try simp only [putE]); refine wpW_last 15 rfl (by kernel_rfl) (by decide) (fun K hK => ?_)
 go_simp
 refine hK.out _ _ ?_; clear hK K; (try simp only [putE]); refine wpW_done (by kernel_rfl) ?_ _; have hkk := (HK1.out.trans (KeepT.below hblA)).trans ((KeepT.gb hgr3 (T := 135) (by simp) hty3).trans (KeepT.gb (gb_setCell (gb_refl w3 (some X)) 9 (.slice (some ⟨g3, 0, none⟩) (ni + 1) c3)) (T := 88) (by simp) (fun g e => by injection e with e; subst e; exact hx3.typ))); have hpu := hMA.push (t := ⟨⟨k, dd, a, b, n, l⟩, bk, fnn, old, line, 0⟩) HNI.out ho3 hgr3; clear ho3 hgr3 hat3 hlt3 hx3 hi3 hty3 b9 b0 b1 b2 b3 b4 b5 bf bl a9 a0 a1 a2 a3 a4 a5 x9 i0 i1 i2 i3 i4 i5
 go_wp2
 go_end0
 exact HPO.out _ _ _ _ rfl hkk hpu
structure RecW (w wr : World) (mc : List Value) : Prop where
 bm : Blk wr w.heap.size 42 mc
 br : Blk wr (w.heap.size + 1) 45 nil3
 bel : Below w.heap.size w wr
 sz : w.heap.size + 2 ≤ wr.heap.size
theorem RecW.below {w wr w' : World} {mc : List Value} (h : RecW w wr mc) (hb : Below (w.heap.size + 2) wr w') : RecW w w' mc :=
 ⟨(hb.block _ (by omega)).trans h.bm, (hb.block _ (by omega)).trans h.br, h.bel.trans (hb.mono (by omega)), Nat.le_trans h.sz hb.size⟩
theorem infoSps : (Tryd.prog.info? 124).map (fun i => (i.zero, i.size, i.bytes)) = some (some (.slice none 0 0), 1, 24) := by kernel_rfl
def BadPost (w : World) (E : Int) (e : Ending) (w' : World) : Prop := e = .returned (.tuple #[.agg #[.slice none 0 0, .slice none 0 0, .slice none 0 0], .int .i64 E]) ∧ Below w.heap.size w w'
theorem recE_C {m : Img} (h : checkE m ≠ 0) : recE m = checkE m := by
 unfold recE; rw [if_pos h]
theorem recE_T {m : Img} (h : checkE m = 0) (ht : 2000 < m.text.length) : recE m = 1 := by
 unfold recE; rw [if_neg (by omega), if_pos ht]
theorem recE_N {m : Img} (h : checkE m = 0) (ht : m.text.length ≤ 2000) (hr : recL m = none) : recE m = 9 := by
 unfold recE; rw [if_neg (by omega), if_neg (by omega), hr]
 rfl
theorem recE_S {m : Img} {d : FlowD} (h : checkE m = 0) (ht : m.text.length ≤ 2000) (hr : recL m = some d) : recE m = 0 := by
 unfold recE; rw [if_neg (by omega), if_neg (by omega), hr]
 rfl
end Go.Proofs.YtcafhoobeggmeaaDoor
