/- boltholekeep's plan of a program: words, and how it lies in memory. -/
import Derived.Test.YtcdlgjhdbmmomaaGreatDoorLawS
import Derived.Test.YtcdlgjhdbmmomaaGreatDoorIsaG
import Derived.Test.YtcdlgjhdbmmomaaGreatDoorImgC
import Derived.Test.YtcdlgjhdbmmomaaGreatDoorAppG
namespace Go.Proofs.YtcdlgjhdbmmomaaGreatDoor
open Go.RowKit
structure Spot where
 i : Ins
 blk : Int
 fn : Int
 line : Int
def spotC (s : Spot) : List Value := [.int .i64 s.i.k, .int .i64 s.i.d, .int .i64 s.i.a, .int .i64 s.i.b, .int .i64 s.i.n, .bool s.i.l, .int .i64 s.blk, .int .i64 s.fn, .int .i64 s.line]
def spotsC (b : List Spot) : List Value := b.flatMap spotC
theorem spotsC_at {b : List Spot} {j : Nat} {s : Spot} (h : b[j]? = some s) (q : Nat) (v : Value) (hv : (spotC s)[q]? = some v) : (spotsC b)[j * 9 + q]? = some v := by
 have hq : q < 9 := by
  have := (List.getElem?_eq_some_iff.1 hv).1; simpa [spotC] using this
 exact flat_at spotC 9 (fun _ => rfl) b j s h q v hq hv
def midSpot (funcs : Int) (r : RawI) : Spot :=
 if pickL r.k 23 = 22 then ⟨⟨23, 0, 0, 0, 0, false⟩, -1, pickL r.a funcs, pickL r.a 5⟩ else ⟨plainI r, -1, -1, pickL r.a 5⟩
def endSpot (r : RawI) (n first last : Int) : Spot :=
 if pickL r.k 12 < 5 ∧ n < last then ⟨⟨18 + pickL r.c 4, 0, pickL r.a 7, pickL r.b 7, 0, pickL r.a 3 == 0⟩, first + pickL r.b (last - first + 1), -1, pickL r.a 5⟩
 else if pickL r.k 12 < 8 then ⟨⟨22, 0, 0, 0, 0, pickL r.a 3 == 0⟩, first + pickL r.b (last - first + 1), -1, pickL r.a 5⟩
 else if pickL r.k 12 = 9 then ⟨⟨24, 0, pickL r.a 7, 0, pickL r.b 3, false⟩, -1, -1, pickL r.a 5⟩
 else if pickL r.k 12 = 10 ∨ n = 0 then ⟨⟨1, 0, 0, 0, 0, false⟩, -1, -1, pickL r.a 5⟩
 else ⟨⟨3, 0, 0, 0, 0, false⟩, -1, -1, pickL r.a 5⟩
def lastR (L : List RawI) : RawI := L.getLast?.getD ⟨0, 0, 0, 0⟩
def blockOf (L : List RawI) (n first last funcs : Int) : List Spot :=
 if pickL (lastR L).k 12 = 8 ∧ n < last ∧ 1 < L.length then L.dropLast.map (midSpot funcs) else L.dropLast.map (midSpot funcs) ++ [endSpot (lastR L) n first last]
def gsV : List (Nat × Nat) → List (List Spot) → List Value
 | g :: gs, b :: bs => .slice (some ⟨g.1, 0, none⟩) b.length g.2 :: gsV gs bs
 | _, _ => []
theorem gsV_at : ∀ (gs : List (Nat × Nat)) (bs : List (List Spot)) (j : Nat) (g : Nat × Nat) (b : List Spot), gs[j]? = some g → bs[j]? = some b → (gsV gs bs)[j]? = some (.slice (some ⟨g.1, 0, none⟩) b.length g.2)
 | g :: gs, b :: bs, 0, _, _, h1, h2 => by cases h1; cases h2; rfl
 | g :: gs, b :: bs, j + 1, g', b', h1, h2 => by
  have := gsV_at gs bs j g' b' (by simpa using h1) (by simpa using h2); simpa [gsV] using this
 | [], _, _, _, _, h1, _ => by simp at h1
 | _ :: _, [], _, _, _, _, h2 => by simp at h2
theorem gsV_snoc : ∀ (gs : List (Nat × Nat)) (bs : List (List Spot)) (g : Nat × Nat) (b : List Spot), gs.length = bs.length → gsV (gs ++ [g]) (bs ++ [b]) = gsV gs bs ++ [.slice (some ⟨g.1, 0, none⟩) b.length g.2]
 | [], [], _, _, _ => rfl
 | g' :: gs, b' :: bs, g, b, h => by simp [gsV, gsV_snoc gs bs g b (by simpa using h)]
 | [], b :: bs, _, _, h => by cases h
 | g :: gs, [], _, _, h => by cases h
structure PlanAt (w : World) (base X : Nat) (bs : List (List Spot)) (fs : List Int) (bA : Option Addr) (bc : Nat) (fA : Option Addr) (fc : Nat) (gs : List (Nat × Nat)) : Prop where
 blk : Blk w X 105 [.slice bA bs.length bc, .slice fA fs.length fc]
 bX : base ≤ X
 outer : w.ownsRow base 137 1 (.slice bA bs.length bc) bs.length (gsV gs bs)
 fown : w.ownsRow base 3 1 (.slice fA fs.length fc) fs.length (intsV .i64 fs)
 gl : gs.length = bs.length
 inner : ∀ (j : Nat) (g : Nat × Nat) (b : List Spot), gs[j]? = some g → bs[j]? = some b → w.ownsRow base 140 9 (.slice (some ⟨g.1, 0, none⟩) b.length g.2) b.length (spotsC b) ∧ g.1 ≠ X ∧ (Value.slice bA bs.length bc).ownBlock ≠ some g.1 ∧ (Value.slice fA fs.length fc).ownBlock ≠ some g.1
 nodup : ∀ (i j : Nat) (g h : Nat × Nat), gs[i]? = some g → gs[j]? = some h → i ≠ j → g.1 ≠ h.1
 oX : (Value.slice bA bs.length bc).ownBlock ≠ some X
 fX : (Value.slice fA fs.length fc).ownBlock ≠ some X
 fo : (Value.slice bA bs.length bc).ownBlock = none ∨ (Value.slice fA fs.length fc).ownBlock ≠ (Value.slice bA bs.length bc).ownBlock
theorem own_lt {w : World} {base : Nat} {e : TypeId} {size n g c : Nat} {xs : List Value} (h : w.ownsRow base e size (.slice (some ⟨g, 0, none⟩) n c) n xs) : base ≤ g ∧ g < w.heap.size := ⟨(own_at h).2.1, (own_at h).2.2.1⟩
theorem PlanAt.below {w w' : World} {base X : Nat} {bs : List (List Spot)} {fs : List Int} {bA : Option Addr} {bc : Nat} {fA : Option Addr} {fc : Nat} {gs : List (Nat × Nat)} (h : PlanAt w base X bs fs bA bc fA fc gs) (hb : Below w.heap.size w w') : PlanAt w' base X bs fs bA bc fA fc gs :=
 ⟨h.blk.keep hb, h.bX, own_keep h.outer hb, own_keep h.fown hb, h.gl, fun j g b hg hbb => ⟨own_keep (h.inner j g b hg hbb).1 hb, (h.inner j g b hg hbb).2⟩, h.nodup, h.oX, h.fX, h.fo⟩
theorem snoc_get {α : Type} {L : List α} {x y : α} {j : Nat} (h : (L ++ [x])[j]? = some y) : L[j]? = some y ∧ j < L.length ∨ j = L.length ∧ y = x := by
 rcases Nat.lt_or_ge j L.length with hl | hl
 · rw [List.getElem?_append_left hl] at h; exact .inl ⟨h, hl⟩
 · rw [List.getElem?_append_right hl] at h; rcases Nat.eq_or_lt_of_le hl with he | hlt
   · subst he; simp at h; exact .inr ⟨rfl, h.symm⟩
   · rw [List.getElem?_eq_none (by simp; omega)] at h
     cases h
theorem own_blk_lt {w : World} {base : Nat} {e : TypeId} {size n c : Nat} {A : Option Addr} {xs : List Value} {g : Nat} (h : w.ownsRow base e size (.slice A n c) n xs) (he : (Value.slice A n c).ownBlock = some g) : base ≤ g ∧ g < w.heap.size := by
 rcases h.2 with ⟨hn, _⟩ | ⟨g', cap', cur, hv, hb, hg, _⟩
 · rw [hn] at he
   cases he
 · rw [hv] at he; injection he with he; subst he; exact ⟨hb, (Array.getElem?_eq_some_iff.1 hg).1⟩
theorem gb_below_of {w w' : World} {B : Nat} {row : Option Nat} (h : w.grownBy w' row) (hr : ∀ g, row = some g → B ≤ g) (hB : B ≤ w.heap.size) : Below B w w' :=
 ⟨h.os, h.tape, h.output, h.size, fun q hq => h.block q (by omega) (fun e => by have := hr q e.symm; omega)⟩
theorem PlanAt.push {w w1 w2 : World} {base X : Nat} {bs : List (List Spot)} {fs : List Int} {bA : Option Addr} {bc : Nat} {fA : Option Addr} {fc : Nat} {gs : List (Nat × Nat)} (h : PlanAt w base X bs fs bA bc fA fc gs)
 (hb : Below w.heap.size w w1) {b : List Spot} {g c go co : Nat} (hg : w1.ownsRow w.heap.size 140 9 (.slice (some ⟨g, 0, none⟩) b.length c) b.length (spotsC b))
 (ho : w2.ownsRow base 137 1 (.slice (some ⟨go, 0, none⟩) (bs.length + 1) co) (bs.length + 1) (gsV gs bs ++ [.slice (some ⟨g, 0, none⟩) b.length c]))
 (hgr : w1.grownBy w2 (Value.slice bA bs.length bc).ownBlock) (hat : (Value.slice bA bs.length bc).ownBlock = some go ∨ go = w1.heap.size) :
 PlanAt (w2.setCell ⟨X, 0, none⟩ (.slice (some ⟨go, 0, none⟩) (bs.length + 1) co)) base X (bs ++ [b]) fs (some ⟨go, 0, none⟩) co fA fc (gs ++ [(g, c)]) ∧ Below base w (w2.setCell ⟨X, 0, none⟩ (.slice (some ⟨go, 0, none⟩) (bs.length + 1) co)) := by
 have hXl := h.blk.lt; have hs1 := hb.size; have hs2 := hgr.size; have h1 := h.below hb; obtain ⟨hg1, hg2⟩ := own_lt hg; have hbX := h.bX; have hst : w2.grownBy (w2.setCell ⟨X, 0, none⟩ (.slice (some ⟨go, 0, none⟩) (bs.length + 1) co)) (some X) := gb_setCell (gb_refl _ _) _ _
 have hgoX : go ≠ X := by
  rcases hat with e | e
  · intro e2; subst e2; exact h.oX e
  · omega
 have hogo : ∀ q, (Value.slice bA bs.length bc).ownBlock = some q → q < w.heap.size := fun q hq => (own_blk_lt h.outer hq).2
 have hfgo : ∀ q, (Value.slice fA fs.length fc).ownBlock = some q → q < w.heap.size := fun q hq => (own_blk_lt h.fown hq).2
 have hlen : (bs ++ [b]).length = bs.length + 1 := by simp
 have hbw : Below base w (w2.setCell ⟨X, 0, none⟩ (.slice (some ⟨go, 0, none⟩) (bs.length + 1) co)) :=
  ((hb.mono (by omega)).trans (gb_below_of hgr (fun q hq => (own_blk_lt h.outer hq).1) (by omega))).trans (gb_to_below hst hbX (by omega))
 refine ⟨⟨?_, hbX, ?_, ?_, ?_, ?_, ?_, ?_, h.fX, ?_⟩, hbw⟩
 · rw [hlen]; exact ((h1.blk.gb hgr h.oX).set 0 _)
 · rw [hlen, gsV_snoc gs bs (g, c) b h.gl]; exact own_gb ho hst (by simp [Value.ownBlock]; exact hgoX)
 · refine own_gb (gb_own h1.fown hgr ?_) hst h.fX; rcases h.fo with e | e
   · rw [e]; rcases hf : (Value.slice fA fs.length fc).ownBlock with _ | q
     · exact .inl rfl
     · exact .inr (by simp)
   · exact .inr e
 · simp [h.gl]
 · intro j gj bj hj hbj; rcases snoc_get hj with ⟨hj', hjl⟩ | ⟨hjl, rfl⟩
   · have hbj' : bs[j]? = some bj := by
      rcases snoc_get hbj with ⟨k, _⟩ | ⟨k, _⟩
      · exact k
      · have := h.gl; omega
     obtain ⟨i1, i2, i3, i4⟩ := h.inner j gj bj hj' hbj'; have hgl : gj.1 < w.heap.size := (own_lt i1).2; refine ⟨own_gb (gb_own (own_keep i1 hb) hgr (.inr fun e => i3 e.symm)) hst (by simp [Value.ownBlock]; exact i2), i2, ?_, i4⟩; simp only [Value.ownBlock]; intro e; injection e with e; subst e; rcases hat with e | e
     · exact i3 e
     · omega
   · have hbj' : bj = b := by
      rcases snoc_get hbj with ⟨_, k⟩ | ⟨_, k⟩
      · have := h.gl; omega
      · exact k
     subst hbj'; refine ⟨own_more (own_gb (gb_own hg hgr (.inr fun e => ?_)) hst (by simp [Value.ownBlock]; omega)) (by omega), by simp only; omega, ?_, fun e => ?_⟩
     · have := hogo g e.symm; omega
     · simp only [Value.ownBlock]; intro e; injection e with e; subst e; rcases hat with e | e
       · have := hogo _ e; omega
       · omega
     · have := hfgo g e; omega
 · intro i j gi gj hi hj hne; rcases snoc_get hi with ⟨hi', hil⟩ | ⟨hil, rfl⟩
   · rcases snoc_get hj with ⟨hj', _⟩ | ⟨_, rfl⟩
     · exact h.nodup i j gi gj hi' hj' hne
     · have hbi : bs[i]? = some (bs[i]'(by have := h.gl; omega)) := gE' _; have := (own_lt (h.inner i gi _ hi' hbi).1).2; simp only; omega
   · rcases snoc_get hj with ⟨hj', hjl⟩ | ⟨hjl, _⟩
     · have hbj : bs[j]? = some (bs[j]'(by have := h.gl; omega)) := gE' _; have := (own_lt (h.inner j gj _ hj' hbj).1).2; simp only; omega
     · omega
 · simp only [Value.ownBlock]; intro e; injection e with e; exact hgoX e
 · right
   simp only [Value.ownBlock]; intro e; rcases hat with e2 | e2
   · rcases h.fo with e3 | e3
     · rw [e3] at e2
       cases e2
     · exact e3 (e.trans e2.symm)
   · have := hfgo go e; omega
end Go.Proofs.YtcdlgjhdbmmomaaGreatDoor
