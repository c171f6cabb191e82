/- How the blocks lie in memory while cut goes on. -/
import Derived.Test.YtlekjnnofhjgjaaDoorFlowH
import Derived.Test.YtlekjnnofhjgjaaDoorFlowG
import Derived.Test.YtlekjnnofhjgjaaDoorTyp
namespace Go.Proofs.YtlekjnnofhjgjaaDoor
open Go.RowKit
/-- where a block's rows lie -/
structure BlkV where
  cA : Option Addr
  cc : Nat
  aA : Option Addr
  ac : Nat
  lA : Option Addr
  lc : Nat
def blkC (b : BlkD) (v : BlkV) : List Value :=
  [.int .i64 b.fn, .int .i64 b.start, .slice v.cA b.code.length v.cc, .slice v.aA b.ats.length v.ac, .int .i64 b.last.k, .int .i64 b.last.d, .int .i64 b.last.a, .int .i64 b.last.b, .int .i64 b.last.n, .bool b.last.l, .int .i64 b.ends, .int .i64 b.dst, .int .i64 b.els, .slice v.lA b.lines.length v.lc]
def blksV (l : List (BlkD × BlkV)) : List Value := l.flatMap fun x => blkC x.1 x.2
theorem blksV_len (l : List (BlkD × BlkV)) : (blksV l).length = l.length * 14 := flat_len (fun x : BlkD × BlkV => blkC x.1 x.2) 14 (fun _ => rfl) l
theorem blksV_at {l : List (BlkD × BlkV)} {j : Nat} {x : BlkD × BlkV} (h : l[j]? = some x) (q : Nat) (u : Value) (hu : (blkC x.1 x.2)[q]? = some u) : (blksV l)[j * 14 + q]? = some u :=
  flat_at (fun x : BlkD × BlkV => blkC x.1 x.2) 14 (fun _ => rfl) l j x h q u (by have h1 := (List.getElem?_eq_some_iff.1 hu).1; simpa [blkC] using h1) hu
theorem blksV_snoc (l : List (BlkD × BlkV)) (x : BlkD × BlkV) : blksV (l ++ [x]) = blksV l ++ blkC x.1 x.2 := by simp [blksV]
/-- rows of type e that are read, beside block r -/
def RdN (w : World) (H : Nat) (r : Option Nat) (e : TypeId) (A : Option Addr) (n c : Nat) (xs : List Value) : Prop := RdG w H A xs ∧ n ≤ c ∧ (xs ≠ [] → ∀ g o, A = some ⟨g, o, none⟩ → r ≠ some g ∧ TypB w g e)
/-- a block's rows, done -/
structure DoneB (w : World) (H : Nat) (r : Option Nat) (x : BlkD × BlkV) : Prop where
  code : RdN w H none 47 x.2.cA x.1.code.length x.2.cc (insR x.1.code)
  ats : RdN w H r 3 x.2.aA x.1.ats.length x.2.ac (intsV .i64 x.1.ats)
  lines : RdN w H r 3 x.2.lA x.1.lines.length x.2.lc (intsV .i64 x.1.lines)
/-- a block's rows, of the call's own -/
structure CurB (w : World) (H : Nat) (x : BlkD × BlkV) : Prop where
  code : w.ownsRow H 47 6 (.slice x.2.cA x.1.code.length x.2.cc) x.1.code.length (insR x.1.code)
  ats : w.ownsRow H 3 1 (.slice x.2.aA x.1.ats.length x.2.ac) x.1.ats.length (intsV .i64 x.1.ats)
  lines : w.ownsRow H 3 1 (.slice x.2.lA x.1.lines.length x.2.lc) x.1.lines.length (intsV .i64 x.1.lines)
  ne : ∀ g, (Value.slice x.2.aA x.1.ats.length x.2.ac).ownBlock = some g → (Value.slice x.2.lA x.1.lines.length x.2.lc).ownBlock ≠ some g
section
variable {w w' : World} {H n c : Nat} {r : Option Nat} {e T : TypeId} {A : Option Addr} {xs : List Value}
theorem RdN.below (h : RdN w H r e A n c xs) (hb : Below H w w') : RdN w' H r e A n c xs := by
  refine ⟨h.1.below hb, h.2.1, fun hne g o hA => ?_⟩
  obtain ⟨k1, cs, fz, k2⟩ := h.2.2 hne g o hA
  obtain ⟨g', o', e1, hgH, -⟩ := h.1 hne
  rw [hA] at e1
  injection e1 with e1
  injection e1 with e2 e3 _
  subst e2
  exact ⟨k1, cs, fz, (hb.block g hgH).trans k2⟩
theorem RdN.more {H' : Nat} (h : RdN w H r e A n c xs) (hH : H ≤ H') : RdN w H' r e A n c xs := ⟨h.1.more hH, h.2⟩
/-- where another block is written (or a new one), what is read stays -/
theorem RdN.gbO {r' : Option Nat} (h : RdN w H r e A n c xs) (hg : w.grownBy w' r') (hH : H ≤ w.heap.size) (hr : xs ≠ [] → ∀ g o, A = some ⟨g, o, none⟩ → r' ≠ some g) : RdN w' H r e A n c xs := by
  refine ⟨fun hne => ?_, h.2.1, fun hne g o hA => ?_⟩
  · obtain ⟨g, o, rfl, hgH, hc⟩ := h.1 hne
    refine ⟨g, o, rfl, hgH, fun j u hu => ?_⟩
    rw [← hc j u hu]
    have e := hg.block g (by omega) (fun e => hr hne g o rfl e.symm)
    simp [World.cell?, e]
  · obtain ⟨k1, cs, fz, k2⟩ := h.2.2 hne g o hA
    obtain ⟨g', o', e1, hgH, -⟩ := h.1 hne
    rw [hA] at e1
    injection e1 with e1
    injection e1 with e2 e3 _
    subst e2
    exact ⟨k1, cs, fz, (hg.block g (by omega) (fun e => hr hne g o hA e.symm)).trans k2⟩
/-- .. where block r is written -/
theorem RdN.gb (h : RdN w H r e A n c xs) (hg : w.grownBy w' r) (hH : H ≤ w.heap.size) : RdN w' H r e A n c xs := h.gbO hg hH fun hne g o hA => (h.2.2 hne g o hA).1
/-- .. where a block of another type is written -/
theorem RdN.keepT {r' : Option Nat} (h : RdN w H r e A n c xs) (hg : w.grownBy w' r') (hH : H ≤ w.heap.size) (hr : ∀ g, r' = some g → TypB w g T) (hne : e ≠ T) : RdN w' H r e A n c xs :=
  h.gbO hg hH fun hx g o hA e2 => (h.2.2 hx g o hA).2.ne (hr g e2) hne rfl
end
theorem DoneB.below {w w' : World} {H : Nat} {r : Option Nat} {x : BlkD × BlkV} (h : DoneB w H r x) (hb : Below H w w') : DoneB w' H r x := ⟨h.code.below hb, h.ats.below hb, h.lines.below hb⟩
theorem DoneB.more {w : World} {H H' : Nat} {r : Option Nat} {x : BlkD × BlkV} (h : DoneB w H r x) (hH : H ≤ H') : DoneB w H' r x := ⟨h.code.more hH, h.ats.more hH, h.lines.more hH⟩
/-- a row of the call's own is done -/
theorem own_done {w : World} {B e sz n c : Nat} {A : Option Addr} {xs : List Value} (h : w.ownsRow B e sz (.slice A n c) n xs) (r : Option Nat) (hr : ∀ g, (Value.slice A n c).ownBlock = some g → r ≠ some g) : RdN w w.heap.size r e A n c xs := by
  refine ⟨own_rdg h, own_capG h, fun _ g o hA => ⟨hr g (by rw [hA]; rfl), own_typ h (by rw [hA]; rfl)⟩⟩
theorem CurB.done {w : World} {H : Nat} {x : BlkD × BlkV} (h : CurB w H x) (r : Option Nat) (hr : ∀ g, r = some g → g < H) : DoneB w w.heap.size r x :=
  ⟨own_done h.code _ (fun _ _ e => by cases e), own_done h.ats r (fun g hg e => by have h1 := hr g e; have h2 := (World.ownsRow.lt h.ats g hg).2; have h3 := (World.ownsRow.lt h.ats g hg).1; omega), own_done h.lines r (fun g hg e => by have h1 := hr g e; have h3 := (World.ownsRow.lt h.lines g hg).1; omega)⟩
/-- the block of the row of firsts -/
def firB (A : Option Addr) (n c : Nat) : Option Nat := (Value.slice A n c).ownBlock
/-- THE STATE OF cut. B: the heap's size when Recover began (the image lies below); X: the finder; H0: the heap's size when the cutting began (what sweep and mark made lies below, beside X); H: the heap's size when the block that is filled began (the rows of the blocks that are done lie below; those of the one that is filled, cur, lie at H or above) -/
structure CutM (w : World) (B H0 H X : Nat) (m : Img) (v : ImgV) (aA : Option Addr) (ac : Nat) (all : List (List Sp)) (vs : List Value) (L k : Nat) (bA : Option Addr) (bc : Nat) (fA : Option Addr) (fc n nk : Nat) (ld : Int → Bool) (bm : Int → Option Int) (ds cur : List (BlkD × BlkV)) (fs : List Int) : Prop where
  img : ImgRd w B m v
  rows : vs.length = all.length ∧ RdN w H0 (some X) 103 aA all.length ac vs ∧ ∀ (j : Nat) (l : List Sp), all[j]? = some l → ∃ A c, vs[j]? = some (.slice A l.length c) ∧ RdN w H0 (some X) 107 A l.length c (spsV l)
  ldr : MapB w L n ld
  bmr : MapI w k nk bm
  row : w.ownsRow H0 49 14 (.slice bA (ds ++ cur).length bc) (ds ++ cur).length (blksV (ds ++ cur))
  fir : w.ownsRow H0 3 1 (.slice fA fs.length fc) fs.length (intsV .i64 fs)
  firH : ∀ g, firB fA fs.length fc = some g → g < H
  don : ∀ x ∈ ds, DoneB w H (firB fA fs.length fc) x
  cu : ∀ x ∈ cur, CurB w H x
  hs : B ≤ X ∧ X < H0 ∧ B ≤ L ∧ L < H0 ∧ B ≤ k ∧ k < H0 ∧ L ≠ k ∧ H0 ≤ H ∧ H ≤ w.heap.size
section
variable {w w' : World} {B H0 H X : Nat} {m : Img} {v : ImgV} {aA : Option Addr} {ac : Nat} {all : List (List Sp)} {vs : List Value} {L k : Nat} {bA : Option Addr} {bc : Nat} {fA : Option Addr} {fc n nk : Nat} {ld : Int → Bool} {bm : Int → Option Int} {ds cur : List (BlkD × BlkV)} {fs : List Int}
theorem CurB.below {x : BlkD × BlkV} (h : CurB w H x) (hb : Below w.heap.size w w') : CurB w' H x := ⟨own_keep h.code hb, own_keep h.ats hb, own_keep h.lines hb, h.ne⟩
theorem CutM.below (h : CutM w B H0 H X m v aA ac all vs L k bA bc fA fc n nk ld bm ds cur fs) (hb : Below w.heap.size w w') : CutM w' B H0 H X m v aA ac all vs L k bA bc fA fc n nk ld bm ds cur fs := by
  obtain ⟨s1, s2, s3, s4, s5, s6, s7, s8, s9⟩ := h.hs
  obtain ⟨h1, h2, h3⟩ := h.rows
  refine ⟨h.img.below (hb.mono (by omega)), ⟨h1, h2.below (hb.mono (by omega)), fun j l hj => ?_⟩, h.ldr.keep hb, h.bmr.keep hb, own_keep h.row hb, own_keep h.fir hb, h.firH, fun x hx => (h.don x hx).below (hb.mono s9), fun x hx => (h.cu x hx).below hb, ⟨s1, s2, s3, s4, s5, s6, s7, s8, Nat.le_trans s9 hb.size⟩⟩
  obtain ⟨A, c, k1, k2⟩ := h3 j l hj
  exact ⟨A, c, k1, k2.below (hb.mono (by omega))⟩
/-- a block of maps is no block of cells -/
theorem mapI_is {f : Int → Option Int} {b c : Nat} (h : MapI w b c f) : ∃ es ck, w.heap[b]? = some (.map es ck) := by
  obtain ⟨D, ⟨es, ck, hb, _⟩, _⟩ := h
  exact ⟨es, ck, hb⟩
theorem RdG.keepI {f : Int → Option Int} {b c J : Nat} {A : Option Addr} {xs : List Value} (h : RdG w J A xs) (hg : w.grownBy w' (some b)) (hm : MapI w b c f) : RdG w' J A xs := by
  obtain ⟨es, ck, hL⟩ := mapI_is hm
  intro hne
  obtain ⟨g, o, rfl, hgH, hc⟩ := h hne
  refine ⟨g, o, rfl, hgH, fun j u hu => ?_⟩
  have hcell := hc j u hu
  have hlt := lt_of_cell hcell
  have hgL : g ≠ b := by
    rintro rfl
    simp [World.cell?, hL] at hcell
  rw [← hcell]
  have e := hg.block g hlt (fun e => hgL (by injection e))
  simp [World.cell?, e]
theorem RdN.keepI {f : Int → Option Int} {b c J p q : Nat} {r : Option Nat} {e : TypeId} {A : Option Addr} {xs : List Value} (h : RdN w J r e A p q xs) (hJ : J ≤ w.heap.size) (hg : w.grownBy w' (some b)) (hm : MapI w b c f) : RdN w' J r e A p q xs :=
  h.gbO hg hJ fun hne g o hA e2 => by
    injection e2 with e2
    subst e2
    obtain ⟨es, ck, hL⟩ := mapI_is hm
    obtain ⟨-, cs, fz, k⟩ := h.2.2 hne b o hA
    rw [hL] at k
    cases k
theorem Blk.keepI {f : Int → Option Int} {b c Y : Nat} {t : TypeId} {cs : List Value} (h : Blk w Y t cs) (hg : w.grownBy w' (some b)) (hm : MapI w b c f) : Blk w' Y t cs := by
  obtain ⟨es, ck, hL⟩ := mapI_is hm
  refine h.gb hg (fun e => ?_)
  injection e with e
  subst e
  unfold Blk at h
  rw [hL] at h
  cases h
theorem own_keepI {f : Int → Option Int} {b c J e sz p : Nat} {vv : Value} {xs : List Value} (h : w.ownsRow J e sz vv p xs) (hg : w.grownBy w' (some b)) (hm : MapI w b c f) : w'.ownsRow J e sz vv p xs := by
  refine gb_own h hg ?_
  rcases hv : vv.ownBlock with _ | q
  · exact .inl rfl
  · right
    intro e2
    injection e2 with e2
    subst e2
    obtain ⟨es, ck, hL⟩ := mapI_is hm
    obtain ⟨cs, fz, h1⟩ := own_typ h hv
    rw [hL] at h1
    cases h1
theorem CutM.upK {nk' : Nat} {bm' : Int → Option Int} (h : CutM w B H0 H X m v aA ac all vs L k bA bc fA fc n nk ld bm ds cur fs) (hg : w.grownBy w' (some k)) (hm : MapI w' k nk' bm') : CutM w' B H0 H X m v aA ac all vs L k bA bc fA fc n nk' ld bm' ds cur fs := by
  obtain ⟨s1, s2, s3, s4, s5, s6, s7, s8, s9⟩ := h.hs
  obtain ⟨h1, h2, h3⟩ := h.rows
  have hM := h.bmr
  refine ⟨h.img.below (gb_to_below hg s5 (by omega)), ⟨h1, h2.keepI (by omega) hg hM, fun j l hj => ?_⟩, h.ldr.gb hg (fun e => s7 (by injection e with e; exact e.symm)), hm, own_keepI h.row hg hM, own_keepI h.fir hg hM, h.firH,
    fun x hx => ⟨(h.don x hx).code.keepI s9 hg hM, (h.don x hx).ats.keepI s9 hg hM, (h.don x hx).lines.keepI s9 hg hM⟩,
    fun x hx => ⟨own_keepI (h.cu x hx).code hg hM, own_keepI (h.cu x hx).ats hg hM, own_keepI (h.cu x hx).lines hg hM, (h.cu x hx).ne⟩, ⟨s1, s2, s3, s4, s5, s6, s7, s8, Nat.le_trans s9 hg.size⟩⟩
  obtain ⟨A, c, k1, k2⟩ := h3 j l hj
  exact ⟨A, c, k1, k2.keepI (by omega) hg hM⟩
/-- the block that is filled is done -/
theorem CutM.close (h : CutM w B H0 H X m v aA ac all vs L k bA bc fA fc n nk ld bm ds cur fs) : CutM w B H0 w.heap.size X m v aA ac all vs L k bA bc fA fc n nk ld bm (ds ++ cur) [] fs := by
  obtain ⟨s1, s2, s3, s4, s5, s6, s7, s8, s9⟩ := h.hs
  refine ⟨h.img, h.rows, h.ldr, h.bmr, by rw [List.append_nil]; exact h.row, h.fir, fun g hg => Nat.lt_of_lt_of_le (h.firH g hg) s9, fun x hx => ?_, fun x hx => (by cases hx), ⟨s1, s2, s3, s4, s5, s6, s7, by omega, Nat.le_refl _⟩⟩
  rcases List.mem_append.1 hx with hx | hx
  · exact (h.don x hx).more s9
  · exact (h.cu x hx).done _ h.firH
/-- .. beside another block -/
theorem RdN.other {H n c : Nat} {r r' : Option Nat} {e : TypeId} {A : Option Addr} {xs : List Value} (h : RdN w H r e A n c xs) (hr : ∀ g, r' = some g → r = some g ∨ H ≤ g) : RdN w H r' e A n c xs := by
  refine ⟨h.1, h.2.1, fun hne g o hA => ⟨fun e2 => ?_, (h.2.2 hne g o hA).2⟩⟩
  rcases hr g e2 with e3 | e3
  · exact (h.2.2 hne g o hA).1 e3
  · obtain ⟨g', o', e1, hgH, -⟩ := h.1 hne
    rw [hA] at e1
    injection e1 with e1
    injection e1 with e4 _ _
    omega
theorem map_neX {Y : Nat} {t : TypeId} {cs : List Value} (h : Blk w Y t cs) {es : Array MapEntry} {ck b : Nat} (hm : w.heap[b]? = some (.map es ck)) : some Y ≠ some b := by
  intro e
  injection e with e
  subst e
  unfold Blk at h
  rw [hm] at h
  cases h
/-- a cell of the finder is written -/
theorem CutM.setX {cs : List Value} (h : CutM w B H0 H X m v aA ac all vs L k bA bc fA fc n nk ld bm ds cur fs) (hX : Blk w X 102 cs) (q : Nat) (u : Value) : CutM (w.setCell ⟨X, q, none⟩ u) B H0 H X m v aA ac all vs L k bA bc fA fc n nk ld bm ds cur fs := by
  obtain ⟨s1, s2, s3, s4, s5, s6, s7, s8, s9⟩ := h.hs
  obtain ⟨h1, h2, h3⟩ := h.rows
  have hg : w.grownBy (w.setCell ⟨X, q, none⟩ u) (some X) := gb_setCell (gb_refl _ _) _ _
  have ht : ∀ g, some X = some g → TypB w g 102 := fun g e => by injection e with e; subst e; exact hX.typ
  obtain ⟨e1, c1, hl⟩ := mapB_is h.ldr
  obtain ⟨e2, c2, hk⟩ := mapI_is h.bmr
  refine ⟨h.img.below (gb_to_below hg s1 (by omega)), ⟨h1, h2.gb hg (by omega), fun j l hj => ?_⟩, h.ldr.gb hg (map_neX hX hl), h.bmr.gb hg (map_neX hX hk), own_keepT h.row hg ht (by decide), own_keepT h.fir hg ht (by decide), h.firH,
    fun x hx => ⟨(h.don x hx).code.keepT hg s9 ht (by decide), (h.don x hx).ats.keepT hg s9 ht (by decide), (h.don x hx).lines.keepT hg s9 ht (by decide)⟩,
    fun x hx => ⟨own_keepT (h.cu x hx).code hg ht (by decide), own_keepT (h.cu x hx).ats hg ht (by decide), own_keepT (h.cu x hx).lines hg ht (by decide), (h.cu x hx).ne⟩, ⟨s1, s2, s3, s4, s5, s6, s7, s8, Nat.le_trans s9 hg.size⟩⟩
  obtain ⟨A, c, k1, k2⟩ := h3 j l hj
  exact ⟨A, c, k1, k2.gb hg (by omega)⟩
end
end Go.Proofs.YtlekjnnofhjgjaaDoor
