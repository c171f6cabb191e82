/- The finder of blocks: what mark does, in plain words; what is read of the finder. -/
import Derived.Test.YtbdlmafhcgndeaaDoorFlowD
import Derived.Test.YtbdlmafhcgndeaaDoorImgE
namespace Go.Proofs.YtbdlmafhcgndeaaDoor
open Go.RowKit
/-- one spot, marked -/
def markS (m : Img) (own : Int → Option Int) (f : Int) (s : Sp) (ld : Int → Bool) : Option (Int → Bool) :=
  if (branchI s.i || s.i.k == 22) = true then (if (own (s.p + s.i.n) == some f) = true then some (upF (upF ld (s.p + s.i.n) true) (s.p + s.z) true) else none)
  else if stopsI s.i = true then (if (s.i.k == 24 && decide (s.i.n < m.tables.length) && (m.tables.getD s.i.n.toNat []).any (fun a => !(own a == some f))) = true then none else some (upF ld (s.p + s.z) true))
  else if s.i.k = 23 then (if m.funcs.any (fun g => g.start == s.p + s.i.n) = true then some ld else none)
  else some ld
def markGo (m : Img) (own : Int → Option Int) (f : Int) : List Sp → (Int → Bool) → Option (Int → Bool)
  | [], ld => some ld
  | s :: r, ld => (markS m own f s ld).bind (markGo m own f r)
theorem markGo_snoc (m : Img) (own : Int → Option Int) (f : Int) : ∀ (l : List Sp) (s : Sp) (ld : Int → Bool), markGo m own f (l ++ [s]) ld = (markGo m own f l ld).bind (markS m own f s)
  | [], s, ld => by
    show (markS m own f s ld).bind (markGo m own f []) = markS m own f s ld
    cases markS m own f s ld <;> rfl
  | a :: r, s, ld => by
    show (markS m own f a ld).bind (markGo m own f (r ++ [s])) = ((markS m own f a ld).bind (markGo m own f r)).bind (markS m own f s)
    cases markS m own f a ld with
    | none => rfl
    | some x => exact markGo_snoc m own f r s x
theorem markGo_none (m : Img) (own : Int → Option Int) (f : Int) (l r : List Sp) (ld : Int → Bool) (h : markGo m own f l ld = none) : markGo m own f (l ++ r) ld = none := by
  induction l generalizing ld with
  | nil => cases h
  | cons a t ih =>
    have h' : (markS m own f a ld).bind (markGo m own f t) = none := h
    show (markS m own f a ld).bind (markGo m own f (t ++ r)) = none
    cases e : markS m own f a ld with
    | none => rfl
    | some x =>
      rw [e] at h'
      exact ih x h'
theorem mapB_is {w : World} {L n : Nat} {f : Int → Bool} (h : MapB w L n f) : ∃ es ck, w.heap[L]? = some (.map es ck) := by
  obtain ⟨D, ⟨es, ck, hb, _⟩, _⟩ := h
  exact ⟨es, ck, hb⟩
/-- what lies in cells stays where a map is written -/
theorem RdG.keepM {w w' : World} {H L n : Nat} {A : Option Addr} {xs : List Value} {f : Int → Bool} (h : RdG w H A xs) (hg : w.grownBy w' (some L)) (hm : MapB w L n f) : RdG w' H A xs := by
  obtain ⟨es, ck, hL⟩ := mapB_is hm
  intro hne
  obtain ⟨g, o, rfl, hgH, hc⟩ := h hne
  refine ⟨g, o, rfl, hgH, fun j u hu => ?_⟩
  have hcell := hc j u hu
  have hlt := lt_of_cell hcell
  have hgL : g ≠ L := by
    rintro rfl
    simp [World.cell?, hL] at hcell
  rw [← hcell]
  have e := hg.block g hlt (fun e => hgL (by injection e))
  simp [World.cell?, e]
theorem Blk.neM {w : World} {X L n : Nat} {t : TypeId} {cs : List Value} {f : Int → Bool} (h : Blk w X t cs) (hm : MapB w L n f) : L ≠ X := by
  obtain ⟨es, ck, hL⟩ := mapB_is hm
  rintro rfl
  unfold Blk at h
  rw [hL] at h
  cases h
theorem Blk.keepM {w w' : World} {X L n : Nat} {t : TypeId} {cs : List Value} {f : Int → Bool} (h : Blk w X t cs) (hg : w.grownBy w' (some L)) (hm : MapB w L n f) : Blk w' X t cs :=
  h.gb hg (fun e => h.neM hm (by injection e))
/-- the finder's cells -/
def finC (m : Img) (v : ImgV) (aA : Option Addr) (an ac o L k : Nat) (R3 : List Value) : List Value :=
  [.slice v.tA m.text.length v.tc, .slice v.fA m.funcs.length v.fc, .slice v.bA m.tables.length v.bc, .slice v.dA m.data.length v.dc, .slice v.lA m.lines.length v.lc, .int .i64 m.entry, .slice aA an ac, .map (some o), .map (some L), .map (some k)] ++ R3
structure FinRd (w : World) (B H X : Nat) (m : Img) (v : ImgV) (aA : Option Addr) (ac : Nat) (all : List (List Sp)) (o no : Nat) (own : Int → Option Int) (L k : Nat) (R3 : List Value) : Prop where
  blk : Blk w X 96 (finC m v aA all.length ac o L k R3)
  img : ImgRd w B m v
  rows : ∃ vs : List Value, vs.length = all.length ∧ RdG w H aA vs ∧ ∀ (j : Nat) (l : List Sp), all[j]? = some l → ∃ A c, vs[j]? = some (.slice A l.length c) ∧ l.length ≤ c ∧ RdG w H A (spsV l)
  own : MapI w o no own
  hB : B ≤ L ∧ B ≤ H
  hH : H ≤ w.heap.size
  ne : L ≠ o
section
variable {w w' : World} {B H X : Nat} {m : Img} {v : ImgV} {aA : Option Addr} {ac : Nat} {all : List (List Sp)} {o no : Nat} {own : Int → Option Int} {L k : Nat} {R3 : List Value}
theorem FinRd.keepL {n : Nat} {f : Int → Bool} (h : FinRd w B H X m v aA ac all o no own L k R3) (hg : w.grownBy w' (some L)) (hm : MapB w L n f) : FinRd w' B H X m v aA ac all o no own L k R3 := by
  obtain ⟨vs, h1, h2, h3⟩ := h.rows
  refine ⟨h.blk.keepM hg hm, h.img.below (gb_to_below hg h.hB.1 (by have := h.hB.2; have := h.hH; omega)), ⟨vs, h1, h2.keepM hg hm, fun j l hj => ?_⟩, h.own.gb hg (fun e => h.ne (by injection e)), h.hB, Nat.le_trans h.hH hg.size, h.ne⟩
  obtain ⟨A, c, k1, k2, k3⟩ := h3 j l hj
  exact ⟨A, c, k1, k2, k3.keepM hg hm⟩
theorem FinRd.below (h : FinRd w B H X m v aA ac all o no own L k R3) (hb : Below w.heap.size w w') : FinRd w' B H X m v aA ac all o no own L k R3 := by
  obtain ⟨vs, h1, h2, h3⟩ := h.rows
  have hH := h.hH
  have hB := h.hB.2
  refine ⟨h.blk.keep hb, h.img.below (hb.mono (by omega)), ⟨vs, h1, h2.below (hb.mono hH), fun j l hj => ?_⟩, h.own.keep hb, h.hB, Nat.le_trans h.hH hb.size, h.ne⟩
  obtain ⟨A, c, k1, k2, k3⟩ := h3 j l hj
  exact ⟨A, c, k1, k2, k3.below (hb.mono hH)⟩
end
end Go.Proofs.YtbdlmafhcgndeaaDoor
