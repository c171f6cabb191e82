/- The state of Recover until the cutting begins. -/
import Derived.Test.YtlekjnnofhjgjaaDoorFlowJ
namespace Go.Proofs.YtlekjnnofhjgjaaDoor
open Go.RowKit
section
variable {w w' : World}
theorem RdN.keepM {b c J p q : Nat} {f : Int → Bool} {r : Option Nat} {e : TypeId} {A : Option Addr} {xs : List Value} (h : RdN w J r e A p q xs) (hJ : J ≤ w.heap.size) (hg : w.grownBy w' (some b)) (hm : MapB w b c f) : RdN w' J r e A p q xs :=
  h.gbO hg hJ fun hne g o hA e2 => by
    injection e2 with e2
    subst e2
    obtain ⟨es, ck, hL⟩ := mapB_is hm
    obtain ⟨-, cs, fz, k⟩ := h.2.2 hne b o hA
    rw [hL] at k
    cases k
theorem own_keepM {f : Int → Bool} {b c J e sz p : Nat} {vv : Value} {xs : List Value} (h : w.ownsRow J e sz vv p xs) (hg : w.grownBy w' (some b)) (hm : MapB w b c f) : w'.ownsRow J e sz vv p xs := by
  refine gb_own h hg ?_
  rcases hv : vv.ownBlock with _ | q
  · exact .inl rfl
  · right
    intro e2
    injection e2 with e2
    subst e2
    obtain ⟨es, ck, hL⟩ := mapB_is hm
    obtain ⟨cs, fz, h1⟩ := own_typ h hv
    rw [hL] at h1
    cases h1
end
def nil3 : List Value := [.slice none 0 0, .slice none 0 0, .slice none 0 0]
/-- THE STATE OF Recover, until the cutting begins. B: the heap's size when Recover began -/
structure RecS (w : World) (B X : Nat) (m : Img) (v : ImgV) (aA : Option Addr) (ac : Nat) (all : List (List Sp)) (vs : List Value) (o no : Nat) (own : Int → Option Int) (L nl : Nat) (ld : Int → Bool) (k : Nat) : Prop where
  img : ImgRd w B m v
  fin : Blk w X 102 (finC m v aA all.length ac o L k nil3)
  arow : w.ownsRow B 103 1 (.slice aA all.length ac) all.length vs
  rows : ∀ (j : Nat) (l : List Sp), all[j]? = some l → ∃ A c, vs[j]? = some (.slice A l.length c) ∧ RdN w w.heap.size (some X) 107 A l.length c (spsV l)
  own : MapI w o no own
  ldr : MapB w L nl ld
  blk : MapI w k 0 fun _ => none
  hs : B ≤ X ∧ B ≤ o ∧ B ≤ L ∧ B ≤ k ∧ o ≠ L ∧ o ≠ k ∧ L ≠ k
section
variable {w w' : World} {B X : Nat} {m : Img} {v : ImgV} {aA : Option Addr} {ac : Nat} {all : List (List Sp)} {vs : List Value} {o no : Nat} {own : Int → Option Int} {L nl : Nat} {ld : Int → Bool} {k : Nat}
theorem RecS.lt (h : RecS w B X m v aA ac all vs o no own L nl ld k) : X < w.heap.size ∧ B ≤ w.heap.size := ⟨h.fin.lt, by have := h.fin.lt; have := h.hs.1; omega⟩
theorem RecS.below (h : RecS w B X m v aA ac all vs o no own L nl ld k) (hb : Below w.heap.size w w') : RecS w' B X m v aA ac all vs o no own L nl ld k := by
  refine ⟨h.img.below (hb.mono h.lt.2), h.fin.keep hb, own_keep h.arow hb, fun j l hj => ?_, h.own.keep hb, h.ldr.keep hb, h.blk.keep hb, h.hs⟩
  obtain ⟨A, c, h1, h2⟩ := h.rows j l hj
  exact ⟨A, c, h1, (h2.below hb).more hb.size⟩
theorem RecS.upL {nl' : Nat} {ld' : Int → Bool} (h : RecS w B X m v aA ac all vs o no own L nl ld k) (hg : w.grownBy w' (some L)) (hm : MapB w' L nl' ld') : RecS w' B X m v aA ac all vs o no own L nl' ld' k := by
  obtain ⟨s1, s2, s3, s4, s5, s6, s7⟩ := h.hs
  refine ⟨h.img.below (gb_to_below hg s3 h.lt.2), h.fin.keepM hg h.ldr, own_keepM h.arow hg h.ldr, fun j l hj => ?_, h.own.gb hg (fun e => s5 (by injection e with e; exact e.symm)), hm, h.blk.gb hg (fun e => s7 (by injection e)), h.hs⟩
  obtain ⟨A, c, h1, h2⟩ := h.rows j l hj
  exact ⟨A, c, h1, (h2.keepM (Nat.le_refl _) hg h.ldr).more hg.size⟩
theorem RecS.upO {no' : Nat} {own' : Int → Option Int} (h : RecS w B X m v aA ac all vs o no own L nl ld k) (hg : w.grownBy w' (some o)) (hm : MapI w' o no' own') : RecS w' B X m v aA ac all vs o no' own' L nl ld k := by
  obtain ⟨s1, s2, s3, s4, s5, s6, s7⟩ := h.hs
  refine ⟨h.img.below (gb_to_below hg s2 h.lt.2), h.fin.keepI hg h.own, own_keepI h.arow hg h.own, fun j l hj => ?_, hm, h.ldr.gb hg (fun e => s5 (by injection e)), h.blk.gb hg (fun e => s6 (by injection e)), h.hs⟩
  obtain ⟨A, c, h1, h2⟩ := h.rows j l hj
  exact ⟨A, c, h1, (h2.keepI (Nat.le_refl _) hg h.own).more hg.size⟩
/-- a function's spots are appended -/
theorem RecS.app {w1 : World} {A' : Option Addr} {c' : Nat} {l : List Sp} {sA : Option Addr} {sc : Nat} (h : RecS w B X m v aA ac all vs o no own L nl ld k) (ho : w1.ownsRow B 103 1 (.slice A' (all.length + 1) c') (all.length + 1) (vs ++ [.slice sA l.length sc]))
    (hg : w.grownBy w1 (Value.slice aA all.length ac).ownBlock) (hl : RdN w w.heap.size (some X) 107 sA l.length sc (spsV l)) :
    RecS (w1.setCell ⟨X, 6, none⟩ (.slice A' (all.length + 1) c')) B X m v A' c' (all ++ [l]) (vs ++ [.slice sA l.length sc]) o no own L nl ld k := by
  obtain ⟨s1, s2, s3, s4, s5, s6, s7⟩ := h.hs
  have hlt := h.lt
  have hr0 : ∀ g, (Value.slice aA all.length ac).ownBlock = some g → B ≤ g := fun g e => (World.ownsRow.lt h.arow g e).1
  have ht : ∀ g, (Value.slice aA all.length ac).ownBlock = some g → TypB w g 103 := fun g e => own_typ h.arow e
  have hb : Below B w w1 := gb_below_of hg hr0 hlt.2
  have hz := hg.size
  have hfin := h.fin.keepT hg ht (by decide)
  have hown : MapI w1 o no own := h.own.gb hg (fun e => by
    obtain ⟨es, ck, hL⟩ := mapI_is h.own
    obtain ⟨cs, fz, k⟩ := ht o e
    rw [hL] at k
    cases k)
  have hldr : MapB w1 L nl ld := h.ldr.gb hg (fun e => by
    obtain ⟨es, ck, hL⟩ := mapB_is h.ldr
    obtain ⟨cs, fz, k⟩ := ht L e
    rw [hL] at k
    cases k)
  have hblk : MapI w1 k 0 (fun _ => none) := h.blk.gb hg (fun e => by
    obtain ⟨es, ck, hL⟩ := mapI_is h.blk
    obtain ⟨cs, fz, k⟩ := ht _ e
    rw [hL] at k
    cases k)
  have hg2 : w1.grownBy (w1.setCell ⟨X, 6, none⟩ (.slice A' (all.length + 1) c')) (some X) := gb_setCell (gb_refl _ _) _ _
  have ht2 : ∀ g, some X = some g → TypB w1 g 102 := fun g e => by injection e with e; subst e; exact hfin.typ
  obtain ⟨e1, c1, hl1⟩ := mapI_is hown
  obtain ⟨e2, c2, hl2⟩ := mapB_is hldr
  obtain ⟨e3, c3, hl3⟩ := mapI_is hblk
  have hlen : (all ++ [l]).length = all.length + 1 := by simp
  have hvl : vs.length = all.length := by
    have := h.arow.1
    omega
  refine ⟨(h.img.below hb).below (gb_to_below hg2 s1 (by omega)), ?_, ?_, fun j y hj => ?_, hown.gb hg2 (map_neX hfin hl1), hldr.gb hg2 (map_neX hfin hl2), hblk.gb hg2 (map_neX hfin hl3), h.hs⟩
  · rw [hlen]
    exact hfin.set 6 _
  · rw [hlen]
    exact own_keepT ho hg2 ht2 (by decide)
  · have hz2 := hg2.size
    have hk : ∀ {A : Option Addr} {c : Nat}, RdN w w.heap.size (some X) 107 A y.length c (spsV y) → RdN (w1.setCell ⟨X, 6, none⟩ (.slice A' (all.length + 1) c')) (w1.setCell ⟨X, 6, none⟩ (.slice A' (all.length + 1) c')).heap.size (some X) 107 A y.length c (spsV y) :=
      fun h2 => ((h2.keepT hg (Nat.le_refl _) ht (by decide)).gb hg2 hz).more (by omega)
    rcases Nat.lt_or_ge j all.length with hjl | hjl
    · rw [List.getElem?_append_left hjl] at hj
      obtain ⟨A, c, h1, h2⟩ := h.rows j y hj
      exact ⟨A, c, by rw [List.getElem?_append_left (by omega)]; exact h1, hk h2⟩
    · rw [List.getElem?_append_right hjl] at hj
      have hj0 : j - all.length = 0 := by
        rcases Nat.eq_zero_or_pos (j - all.length) with h | h
        · exact h
        · rw [List.getElem?_eq_none (by simp; omega)] at hj
          cases hj
      rw [hj0] at hj
      simp only [List.getElem?_cons_zero, Option.some.injEq] at hj
      subst hj
      exact ⟨sA, sc, by rw [List.getElem?_append_right (by omega), hvl, hj0]; rfl, hk hl⟩
/-- what mark reads -/
theorem RecS.rd (h : RecS w B X m v aA ac all vs o no own L nl ld k) : FinRd w B w.heap.size X m v aA ac all o no own L k nil3 := by
  obtain ⟨s1, s2, s3, s4, s5, s6, s7⟩ := h.hs
  refine ⟨h.fin, h.img, ⟨vs, ?_, own_rdg h.arow, fun j l hj => ?_⟩, h.own, ⟨s3, h.lt.2⟩, Nat.le_refl _, fun e => s5 e.symm⟩
  · have := h.arow.1
    omega
  · obtain ⟨A, c, h1, h2⟩ := h.rows j l hj
    exact ⟨A, c, h1, h2.2.1, h2.1⟩
/-- where the cutting begins -/
theorem RecS.cut (h : RecS w B X m v aA ac all vs o no own L nl ld k) : CutM w B w.heap.size w.heap.size X m v aA ac all vs L k none 0 none 0 nl 0 ld (fun _ => none) [] [] [] := by
  obtain ⟨s1, s2, s3, s4, s5, s6, s7⟩ := h.hs
  have hX := h.fin
  refine ⟨h.img, ⟨?_, own_done h.arow _ (fun g hg e => ?_), fun j l hj => ?_⟩, h.ldr, h.blk, ⟨rfl, .inl ⟨rfl, rfl⟩⟩, ⟨rfl, .inl ⟨rfl, rfl⟩⟩, fun g e => (by cases e), fun x hx => (by cases hx), fun x hx => (by cases hx), ⟨s1, h.lt.1, s3, h.ldr.lt, s4, h.blk.lt, s7, Nat.le_refl _, Nat.le_refl _⟩⟩
  · have := h.arow.1
    omega
  · injection e with e
    subst e
    exact (own_typ h.arow hg).ne hX.typ (by decide) rfl
  · obtain ⟨A, c, h1, h2⟩ := h.rows j l hj
    exact ⟨A, c, h1, h2⟩
end
end Go.Proofs.YtlekjnnofhjgjaaDoor
