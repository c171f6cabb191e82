/- How cut's state turns: a first place, a new block. -/
import Derived.Test.YtlekjnnofhjgjaaDoorFlowI
import Derived.Laws.OwnMore
namespace Go.Proofs.YtlekjnnofhjgjaaDoor
open Go.RowKit
section
variable {w w1 : World} {B H0 H X : Nat} {m : Img} {v : ImgV} {aA : Option Addr} {ac : Nat} {all : List (List Sp)} {vs : List Value} {L k : Nat} {bA : Option Addr} {bc : Nat} {fA : Option Addr} {fc n nk : Nat} {ld : Int → Bool} {bm : Int → Option Int} {ds cur : List (BlkD × BlkV)} {fs : List Int}
/-- a number is appended to firsts -/
theorem CutM.addFir (h : CutM w B H0 H X m v aA ac all vs L k bA bc fA fc n nk ld bm ds [] fs) {A' : Option Addr} {c' : Nat} {y : Int} (ho : w1.ownsRow H0 3 1 (.slice A' (fs.length + 1) c') (fs.length + 1) (intsV .i64 fs ++ [.int .i64 y]))
    (hg : w.grownBy w1 (firB fA fs.length fc)) (hat : ∀ g, firB A' (fs.length + 1) c' = some g → firB fA fs.length fc = some g ∨ w.heap.size ≤ g) :
    CutM w1 B H0 w1.heap.size X m v aA ac all vs L k bA bc A' c' n nk ld bm ds [] (fs ++ [y]) := by
  obtain ⟨s1, s2, s3, s4, s5, s6, s7, s8, s9⟩ := h.hs
  obtain ⟨h1, h2, h3⟩ := h.rows
  have hr0 : ∀ g, firB fA fs.length fc = some g → H0 ≤ g := fun g e => (World.ownsRow.lt h.fir g e).1
  have ht : ∀ g, firB fA fs.length fc = some g → TypB w g 3 := fun g e => own_typ h.fir e
  have hb : Below H0 w w1 := gb_below_of hg hr0 (by omega)
  have hz := hg.size
  have hl : (fs ++ [y]).length = fs.length + 1 := by simp
  refine ⟨h.img.below (hb.mono (by omega)), ⟨h1, h2.below hb, fun j l hj => ?_⟩, h.ldr.gb hg (fun e => by have := hr0 L e; omega), h.bmr.gb hg (fun e => by have := hr0 k e; omega), own_keepT h.row hg ht (by decide), ?_, fun g e => ?_, fun x hx => ?_, fun x hx => (by cases hx), ⟨s1, s2, s3, s4, s5, s6, s7, by omega, Nat.le_refl _⟩⟩
  · obtain ⟨A, c, k1, k2⟩ := h3 j l hj
    exact ⟨A, c, k1, k2.below hb⟩
  · rw [hl]
    have e : intsV .i64 (fs ++ [y]) = intsV .i64 fs ++ [.int .i64 y] := by simp [intsV]
    rw [e]
    exact ho
  · rw [hl] at e
    exact (World.ownsRow.lt ho g e).2
  · have hd := h.don x hx
    have ho' : ∀ g, firB A' (fs ++ [y]).length c' = some g → firB fA fs.length fc = some g ∨ H ≤ g := fun g e => by
      rw [hl] at e
      rcases hat g e with e2 | e2
      · exact .inl e2
      · exact .inr (by omega)
    exact ⟨(hd.code.keepT hg s9 ht (by decide)).more (by omega), ((hd.ats.gb hg s9).other ho').more (by omega), ((hd.lines.gb hg s9).other ho').more (by omega)⟩
/-- a block is appended -/
theorem CutM.addBlk (h : CutM w B H0 H X m v aA ac all vs L k bA bc fA fc n nk ld bm ds [] fs) {A' : Option Addr} {c' : Nat} (f p : Int) (ho : w1.ownsRow H0 49 14 (.slice A' (ds.length + 1) c') (ds.length + 1) (blksV ds ++ blkC (newB f p) ⟨none, 0, none, 0, none, 0⟩))
    (hg : w.grownBy w1 (Value.slice bA ds.length bc).ownBlock) :
    CutM w1 B H0 H X m v aA ac all vs L k A' c' fA fc n nk ld bm ds [(newB f p, ⟨none, 0, none, 0, none, 0⟩)] fs := by
  obtain ⟨s1, s2, s3, s4, s5, s6, s7, s8, s9⟩ := h.hs
  obtain ⟨h1, h2, h3⟩ := h.rows
  have hrow := h.row
  rw [List.append_nil] at hrow
  have hr0 : ∀ g, (Value.slice bA ds.length bc).ownBlock = some g → H0 ≤ g := fun g e => (World.ownsRow.lt hrow g e).1
  have ht : ∀ g, (Value.slice bA ds.length bc).ownBlock = some g → TypB w g 49 := fun g e => own_typ hrow e
  have hb : Below H0 w w1 := gb_below_of hg hr0 (by omega)
  have hz := hg.size
  refine ⟨h.img.below (hb.mono (by omega)), ⟨h1, h2.below hb, fun j l hj => ?_⟩, h.ldr.gb hg (fun e => by have := hr0 L e; omega), h.bmr.gb hg (fun e => by have := hr0 k e; omega), ?_, own_keepT h.fir hg ht (by decide), h.firH, fun x hx => ?_, fun x hx => ?_, ⟨s1, s2, s3, s4, s5, s6, s7, s8, by omega⟩⟩
  · obtain ⟨A, c, k1, k2⟩ := h3 j l hj
    exact ⟨A, c, k1, k2.below hb⟩
  · rw [List.length_append, blksV_snoc]
    exact ho
  · have hd := h.don x hx
    exact ⟨hd.code.keepT hg s9 ht (by decide), hd.ats.keepT hg s9 ht (by decide), hd.lines.keepT hg s9 ht (by decide)⟩
  · rw [List.mem_singleton] at hx
    subst hx
    exact ⟨⟨rfl, .inl ⟨rfl, rfl⟩⟩, ⟨rfl, .inl ⟨rfl, rfl⟩⟩, ⟨rfl, .inl ⟨rfl, rfl⟩⟩, fun g e => by cases e⟩
theorem CurB.keepO {w' : World} {x : BlkD × BlkV} (h : CurB w H x) {r : Option Nat} (hg : w.grownBy w' r) (ht : ∀ g, r = some g → TypB w g 49) : CurB w' H x :=
  ⟨own_keepT h.code hg ht (by decide), own_keepT h.ats hg ht (by decide), own_keepT h.lines hg ht (by decide), h.ne⟩
/-- one of the rows of the block that is filled has grown (or none), then its cell is written -/
theorem CutM.turn {x x' : BlkD × BlkV} {gb : Nat} (h : CutM w B H0 H X m v aA ac all vs L k (some ⟨gb, 0, none⟩) bc fA fc n nk ld bm ds [x] fs) {r : Option Nat} {T : TypeId} (hg : w.grownBy w1 r) (hr : ∀ g, r = some g → H ≤ g) (ht : ∀ g, r = some g → TypB w g T) (hT : 49 ≠ T)
    (hcu : CurB w1 H x') (q : Nat) (hq : q < 14) (u : Value) (hu : blkC x'.1 x'.2 = (blkC x.1 x.2).set q u) :
    CutM (w1.setCell ⟨gb, ds.length * 14 + q, none⟩ u) B H0 H X m v aA ac all vs L k (some ⟨gb, 0, none⟩) bc fA fc n nk ld bm ds [x'] fs := by
  obtain ⟨s1, s2, s3, s4, s5, s6, s7, s8, s9⟩ := h.hs
  obtain ⟨h1, h2, h3⟩ := h.rows
  have hb : Below H w w1 := gb_below_of hg hr s9
  have hz := hg.size
  have hrow := own_keepT h.row hg ht hT
  have hfir : w1.ownsRow H0 3 1 (.slice fA fs.length fc) fs.length (intsV .i64 fs) := own_ltH h.fir hb h.firH
  obtain ⟨hst, hg2⟩ := hrow.stored (ds.length * 14 + q) u
  have hb0 : ∀ g, some gb = some g → H0 ≤ g := fun g e => by injection e with e; subst e; exact (World.ownsRow.lt h.row gb rfl).1
  have ht2 : ∀ g, some gb = some g → TypB w1 g 49 := fun g e => by injection e with e; subst e; exact own_typ hrow rfl
  have hbb : Below H0 w1 (w1.setCell ⟨gb, ds.length * 14 + q, none⟩ u) := gb_below_of hg2 hb0 (by omega)
  have hz2 := hg2.size
  have hset : (blksV (ds ++ [x])).set (ds.length * 14 + q) u = blksV (ds ++ [x']) := by
    rw [blksV_snoc, blksV_snoc, hu, List.set_append_right _ _ (by rw [blksV_len]; omega), blksV_len, Nat.add_sub_cancel_left]
  have hlen : (ds ++ [x']).length = (ds ++ [x]).length := by simp
  refine ⟨(h.img.below (hb.mono (by omega))).below (hbb.mono (by omega)), ⟨h1, (h2.below (hb.mono s8)).below hbb, fun j l hj => ?_⟩, (h.ldr.gb hg (fun e => by have := hr L e; omega)).gb hg2 (fun e => by have := hb0 L e; omega), (h.bmr.gb hg (fun e => by have := hr k e; omega)).gb hg2 (fun e => by have := hb0 k e; omega), ?_, own_keepT hfir hg2 ht2 (by decide), h.firH, fun y hy => ?_, fun y hy => ?_, ⟨s1, s2, s3, s4, s5, s6, s7, s8, by omega⟩⟩
  · obtain ⟨A, c, k1, k2⟩ := h3 j l hj
    exact ⟨A, c, k1, (k2.below (hb.mono s8)).below hbb⟩
  · rw [hlen, ← hset]
    exact hst
  · have hd := (h.don y hy).below hb
    exact ⟨hd.code.keepT hg2 (by omega) ht2 (by decide), hd.ats.keepT hg2 (by omega) ht2 (by decide), hd.lines.keepT hg2 (by omega) ht2 (by decide)⟩
  · rw [List.mem_singleton] at hy
    subst hy
    exact hcu.keepO hg2 ht2
end
end Go.Proofs.YtlekjnnofhjgjaaDoor
