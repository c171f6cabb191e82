/- Rows and blocks kept apart by their types. The finder of blocks: what cut and join do, in plain words. What a function's spots are good for. How the blocks lie in memory while cut goes on. How cut's state turns: a first place, a new block. A round of cut: the block that is filled, row by row and cell by cell. join's state: a block's cell is written, a block's row of lines grows; what holds of blocks. -/
import Derived.Test.YtcdlgjhdbmmomaaGreatDoorAsmB
import Derived.Test.YtcdlgjhdbmmomaaGreatDoorAsmG
import Derived.Test.YtcdlgjhdbmmomaaGreatDoorFlowE
import Derived.Test.YtcdlgjhdbmmomaaGreatDoorFlowF
import Derived.Laws.OwnMore
namespace Go.Proofs.YtcdlgjhdbmmomaaGreatDoor
open Go.RowKit
def TypB (w : World) (g : Nat) (T : TypeId) : Prop := ∃ cs fz, w.heap[g]? = some (.cells cs T fz)
theorem TypB.ne {w : World} {g g' : Nat} {T T' : TypeId} (h : TypB w g T) (h' : TypB w g' T') (hne : T ≠ T') : g ≠ g' := by
 rintro rfl; obtain ⟨cs, fz, h1⟩ := h; obtain ⟨cs', fz', h2⟩ := h'; rw [h1] at h2; injection h2 with h2; injection h2 with _ h3 _; exact hne h3
theorem Blk.typ {w : World} {g : Nat} {T : TypeId} {cs : List Value} (h : Blk w g T cs) : TypB w g T := ⟨_, _, h⟩
theorem own_typ {w : World} {b : Nat} {e : TypeId} {sz n : Nat} {v : Value} {xs : List Value} (h : w.ownsRow b e sz v n xs) {g : Nat} (hg : v.ownBlock = some g) : TypB w g e := by
 rcases h.2 with ⟨rfl, _⟩ | ⟨g', cap, cur, rfl, _, h2, _⟩
 · cases hg
 · simp only [Value.ownBlock] at hg; injection hg with hg; subst hg; exact ⟨_, _, h2⟩
theorem own_keepT {w w' : World} {b : Nat} {e T : TypeId} {sz n : Nat} {v : Value} {xs : List Value} {r : Option Nat} (h : w.ownsRow b e sz v n xs) (hg : w.grownBy w' r) (hr : ∀ g, r = some g → TypB w g T) (hne : e ≠ T) : w'.ownsRow b e sz v n xs := by
 refine gb_own h hg ?_; rcases hv : v.ownBlock with _ | q
 · exact .inl rfl
 · right
   intro e2; exact (own_typ h hv).ne (hr q e2.symm) hne rfl
theorem Blk.keepT {w w' : World} {g : Nat} {e T : TypeId} {cs : List Value} {r : Option Nat} (h : Blk w g e cs) (hg : w.grownBy w' r) (hr : ∀ g, r = some g → TypB w g T) (hne : e ≠ T) : Blk w' g e cs :=
 h.gb hg fun e2 => h.typ.ne (hr g e2) hne rfl
theorem own_ltH {w w' : World} {b H : Nat} {e : TypeId} {sz n : Nat} {v : Value} {xs : List Value} (h : w.ownsRow b e sz v n xs) (hb : Below H w w') (hH : ∀ g, v.ownBlock = some g → g < H) : w'.ownsRow b e sz v n xs := by
 refine ⟨h.1, ?_⟩; rcases h.2 with hn | ⟨g, cap, cur, rfl, hbb, hgg, rest⟩
 · exact .inl hn
 · exact .inr ⟨g, cap, cur, rfl, hbb, (hb.block g (hH g rfl)).trans hgg, rest⟩
structure BlkD where
 fn : Int
 start : Int
 code : List Ins
 ats : List Int
 last : Ins
 ends : Int
 dst : Int
 els : Int
 lines : List Int
def newB (f p : Int) : BlkD := ⟨f, p, [], [], ⟨0, 0, 0, 0, 0, false⟩, 2, 0, 0, []⟩
def addB (m : Img) (s : Sp) (b : BlkD) : BlkD :=
 if branchI s.i = true then { b with ats := b.ats ++ [s.p], lines := b.lines ++ [lineAtF s.p 0 m.lines], ends := 4, last := ⟨s.i.k, 0, s.i.a, s.i.b, 0, false⟩, dst := s.p + s.i.n, els := s.p + s.z }
 else if s.i.k = 22 then { b with ats := b.ats ++ [s.p], lines := b.lines ++ [lineAtF s.p 0 m.lines], ends := 3, dst := s.p + s.i.n }
 else if stopsI s.i = true then { b with ats := b.ats ++ [s.p], lines := b.lines ++ [lineAtF s.p 0 m.lines], code := b.code ++ [finPl m.funcs s], ends := 1, dst := 0 }
 else { b with ats := b.ats ++ [s.p], lines := b.lines ++ [lineAtF s.p 0 m.lines], code := b.code ++ [finPl m.funcs s], dst := s.p + s.z }
def modLast (f : BlkD → BlkD) (l : List BlkD) : List BlkD := l.modify (l.length - 1) f
structure CutD where
 bs : List BlkD
 bm : Int → Option Int
def beginS (ld : Int → Bool) (f : Int) (s : Sp) (c : CutD) : CutD := if ld s.p = true then ⟨c.bs ++ [newB f s.p], upF c.bm s.p (some c.bs.length)⟩ else c
def cutS (m : Img) (ld : Int → Bool) (f : Int) (c : CutD) (s : Sp) : CutD := ⟨modLast (addB m s) (beginS ld f s c).bs, (beginS ld f s c).bm⟩
def finCut (m : Img) (ld : Int → Bool) (f : Int) (l : List Sp) (c : CutD) : CutD := l.foldl (cutS m ld f) c
theorem finCut_snoc (m : Img) (ld : Int → Bool) (f : Int) (l : List Sp) (s : Sp) (c : CutD) : finCut m ld f (l ++ [s]) c = cutS m ld f (finCut m ld f l c) s := by simp [finCut]
def joinB (bm : Int → Option Int) (b : BlkD) : BlkD :=
 let b1 : BlkD := if b.ends = 1 then b else { b with dst := (bm b.dst).getD 0 }
 let b2 : BlkD := if b.ends = 4 then { b1 with els := (bm b.els).getD 0 } else b1
 if b.ends = 1 ∨ b.ends = 2 then { b2 with lines := b.lines ++ [b.lines.getLastD 0] } else b2
structure FlowD where
 blocks : List BlkD
 tables : List (List Int)
 firsts : List Int
def finOwn : List (List Sp) → Int → (Int → Option Int) → (Int → Option Int)
 | [], _, own => own
 | l :: r, f, own => finOwn r (f + 1) (l.foldl (fun o s => upF o s.p (some f)) own)
def sweepAll (text : List Int) : List FnD → Option (List (List Sp))
 | [] => some []
 | f :: r => (sweepL text f).bind fun l => (sweepAll text r).map (l :: ·)
def tabsLd (own : Int → Option Int) : List Int → (Int → Bool) → Option (Int → Bool)
 | [], ld => some ld
 | a :: r, ld => if (own a).isSome = true then tabsLd own r (upF ld a true) else none
def markAll (m : Img) (own : Int → Option Int) : List (FnD × List Sp) → Int → (Int → Bool) → Option (Int → Bool)
 | [], _, ld => some ld
 | x :: r, f, ld => (markGo m own f x.2 (upF ld x.1.start true)).bind (markAll m own r (f + 1))
def cutAll (m : Img) (ld : Int → Bool) : List (List Sp) → Int → CutD → List Int → CutD × List Int
 | [], _, c, fs => (c, fs)
 | l :: r, f, c, fs => cutAll m ld r (f + 1) (finCut m ld f l c) (fs ++ [(c.bs.length : Int)])
def recL (m : Img) : Option FlowD :=
 (sweepAll m.text m.funcs).bind fun all =>
 (tabsLd (finOwn all 0 fun _ => none) m.tables.flatten fun _ => false).bind fun ld0 =>
 (markAll m (finOwn all 0 fun _ => none) (m.funcs.zip all) 0 ld0).map fun ld =>
  let c := cutAll m ld all 0 ⟨[], fun _ => none⟩ []
  ⟨c.1.bs.map (joinB c.1.bm), m.tables.map fun t => t.map fun a => (c.1.bm a).getD 0, c.2⟩
theorem chk_n {i : Ins} (h : i.chk = 0) : (-32768 ≤ i.n ∧ i.n ≤ 32767) ∧ (i.k = 24 → 0 ≤ i.n) := by
 obtain ⟨h1, h2, h3, h4⟩ := ins_chk_zero.1 h; obtain ⟨k, d, a, b, n, l⟩ := i; simp only at h1 h2 h4 ⊢
 constructor
 · unfold nOk at h4
   split at h4
   · rw [inside_iff] at h4; omega
   · split at h4
     · rw [inside_iff] at h4; omega
     · rw [inside_iff] at h4; omega
 · rintro rfl
   cases l
   · have e : nOk 24 n false = inside n 0 19 := by
      have s : shapeT 24 = 11 := by decide +kernel
      unfold nOk; rw [s]
      rfl
     rw [e, inside_iff] at h4; omega
   · have e : formBad 24 d a b n true = true := by
      have s : longT 24 = 0 := by decide +kernel
      unfold formBad; rw [s]; simp
     rw [e] at h2
     cases h2
theorem sweep_sp {text : List Int} {f : FnD} {l : List Sp} (h : sweepL text f = some l) (h0 : 0 ≤ f.start) (_h1 : 1 ≤ f.size) (h2 : f.start + f.size ≤ text.length) (h8 : text.length ≤ 8000) : ∀ s ∈ l, SpOk s ∧ f.start ≤ s.p ∧ s.p + s.z ≤ f.start + f.size ∧ 1 ≤ s.z := by
 intro s hs; unfold sweepL at h
 split at h
 · cases h
 · rename_i l' hg
   split at h
   · injection h with h; subst h; obtain ⟨j, hj⟩ := List.getElem?_of_mem hs; obtain ⟨a1, a2, a3⟩ := sweepGo_ok text (f.start + f.size) f.size.toNat f.start l' hg (by omega) j s hj; have e : (decB text s.p).2.2 = 0 := by rw [a3]
     have hz := decB_sz e; obtain ⟨hc, -⟩ := decB_ok e; rw [a3] at hz hc; simp only at hz hc; obtain ⟨n1, n2⟩ := chk_n hc; exact ⟨⟨⟨by omega, by omega⟩, ⟨by omega, by omega⟩, ⟨by omega, by omega⟩, n2⟩, a1, a2, hz.1⟩
   · cases h
structure BlkV where
 cA : Option Addr
 cc : Nat
 aA : Option Addr
 ac : Nat
 lA : Option Addr
 lc : Nat
def blkC (b : BlkD) (v : BlkV) : List Value :=
 [.int .i64 b.fn, .int .i64 b.start, .slice v.cA b.code.length v.cc, .slice v.aA b.ats.length v.ac, .int .i64 b.last.k, .int .i64 b.last.d, .int .i64 b.last.a, .int .i64 b.last.b, .int .i64 b.last.n, .bool b.last.l, .int .i64 b.ends, .int .i64 b.dst, .int .i64 b.els, .slice v.lA b.lines.length v.lc]
def blksV (l : List (BlkD × BlkV)) : List Value := l.flatMap fun x => blkC x.1 x.2
theorem blksV_len (l : List (BlkD × BlkV)) : (blksV l).length = l.length * 14 := flat_len (fun x : BlkD × BlkV => blkC x.1 x.2) 14 (fun _ => rfl) l
theorem blksV_at {l : List (BlkD × BlkV)} {j : Nat} {x : BlkD × BlkV} (h : l[j]? = some x) (q : Nat) (u : Value) (hu : (blkC x.1 x.2)[q]? = some u) : (blksV l)[j * 14 + q]? = some u :=
 flat_at (fun x : BlkD × BlkV => blkC x.1 x.2) 14 (fun _ => rfl) l j x h q u (by have h1 := (List.getElem?_eq_some_iff.1 hu).1; simpa [blkC] using h1) hu
theorem blksV_snoc (l : List (BlkD × BlkV)) (x : BlkD × BlkV) : blksV (l ++ [x]) = blksV l ++ blkC x.1 x.2 := by simp [blksV]
def RdN (w : World) (H : Nat) (r : Option Nat) (e : TypeId) (A : Option Addr) (n c : Nat) (xs : List Value) : Prop := RdG w H A xs ∧ n ≤ c ∧ (xs ≠ [] → ∀ g o, A = some ⟨g, o, none⟩ → r ≠ some g ∧ TypB w g e)
def rowA (x : BlkD × BlkV) : Option Nat := (Value.slice x.2.aA x.1.ats.length x.2.ac).ownBlock
def rowL (x : BlkD × BlkV) : Option Nat := (Value.slice x.2.lA x.1.lines.length x.2.lc).ownBlock
structure DoneB (w : World) (B H : Nat) (r : Option Nat) (x : BlkD × BlkV) : Prop where
 code : RdN w H none 52 x.2.cA x.1.code.length x.2.cc (insR x.1.code)
 ats : w.ownsRow B 3 1 (.slice x.2.aA x.1.ats.length x.2.ac) x.1.ats.length (intsV .i64 x.1.ats)
 lines : w.ownsRow B 3 1 (.slice x.2.lA x.1.lines.length x.2.lc) x.1.lines.length (intsV .i64 x.1.lines)
 lt : ∀ g, (rowA x = some g ∨ rowL x = some g) → g < H ∧ r ≠ some g
 ne : ∀ g, rowA x = some g → rowL x ≠ some g
theorem pw_one {α : Type} {R : α → α → Prop} : ∀ {l : List α}, l.length ≤ 1 → l.Pairwise R
 | [], _ => List.Pairwise.nil
 | [_], _ => List.pairwise_singleton _ _
 | _ :: _ :: _, h => absurd h (by simp)
def SepB (x y : BlkD × BlkV) : Prop := ∀ g, (rowA x = some g ∨ rowL x = some g) → rowA y ≠ some g ∧ rowL y ≠ some g
structure CurB (w : World) (H : Nat) (x : BlkD × BlkV) : Prop where
 code : w.ownsRow H 52 6 (.slice x.2.cA x.1.code.length x.2.cc) x.1.code.length (insR x.1.code)
 ats : w.ownsRow H 3 1 (.slice x.2.aA x.1.ats.length x.2.ac) x.1.ats.length (intsV .i64 x.1.ats)
 lines : w.ownsRow H 3 1 (.slice x.2.lA x.1.lines.length x.2.lc) x.1.lines.length (intsV .i64 x.1.lines)
 ne : ∀ g, (Value.slice x.2.aA x.1.ats.length x.2.ac).ownBlock = some g → (Value.slice x.2.lA x.1.lines.length x.2.lc).ownBlock ≠ some g
section
variable {w w' : World} {H n c : Nat} {r : Option Nat} {e T : TypeId} {A : Option Addr} {xs : List Value}
theorem RdN.below (h : RdN w H r e A n c xs) (hb : Below H w w') : RdN w' H r e A n c xs := by
 refine ⟨h.1.below hb, h.2.1, fun hne g o hA => ?_⟩; obtain ⟨k1, cs, fz, k2⟩ := h.2.2 hne g o hA; obtain ⟨g', o', e1, hgH, -⟩ := h.1 hne; rw [hA] at e1; injection e1 with e1; injection e1 with e2 e3 _; subst e2; exact ⟨k1, cs, fz, (hb.block g hgH).trans k2⟩
theorem RdN.more {H' : Nat} (h : RdN w H r e A n c xs) (hH : H ≤ H') : RdN w H' r e A n c xs := ⟨h.1.more hH, h.2⟩
theorem RdN.gbO {r' : Option Nat} (h : RdN w H r e A n c xs) (hg : w.grownBy w' r') (hH : H ≤ w.heap.size) (hr : xs ≠ [] → ∀ g o, A = some ⟨g, o, none⟩ → r' ≠ some g) : RdN w' H r e A n c xs := by
 refine ⟨fun hne => ?_, h.2.1, fun hne g o hA => ?_⟩
 · obtain ⟨g, o, rfl, hgH, hc⟩ := h.1 hne; refine ⟨g, o, rfl, hgH, fun j u hu => ?_⟩; rw [← hc j u hu]; have e := hg.block g (by omega) (fun e => hr hne g o rfl e.symm); simp [World.cell?, e]
 · obtain ⟨k1, cs, fz, k2⟩ := h.2.2 hne g o hA; obtain ⟨g', o', e1, hgH, -⟩ := h.1 hne; rw [hA] at e1; injection e1 with e1; injection e1 with e2 e3 _; subst e2; exact ⟨k1, cs, fz, (hg.block g (by omega) (fun e => hr hne g o hA e.symm)).trans k2⟩
theorem RdN.gb (h : RdN w H r e A n c xs) (hg : w.grownBy w' r) (hH : H ≤ w.heap.size) : RdN w' H r e A n c xs := h.gbO hg hH fun hne g o hA => (h.2.2 hne g o hA).1
theorem RdN.keepT {r' : Option Nat} (h : RdN w H r e A n c xs) (hg : w.grownBy w' r') (hH : H ≤ w.heap.size) (hr : ∀ g, r' = some g → TypB w g T) (hne : e ≠ T) : RdN w' H r e A n c xs :=
 h.gbO hg hH fun hx g o hA e2 => (h.2.2 hx g o hA).2.ne (hr g e2) hne rfl
end
theorem DoneB.below {w w' : World} {B H : Nat} {r : Option Nat} {x : BlkD × BlkV} (h : DoneB w B H r x) (hb : Below H w w') : DoneB w' B H r x :=
 ⟨h.code.below hb, own_ltH h.ats hb (fun g e => (h.lt g (.inl e)).1), own_ltH h.lines hb (fun g e => (h.lt g (.inr e)).1), h.lt, h.ne⟩
theorem DoneB.more {w : World} {B H H' : Nat} {r : Option Nat} {x : BlkD × BlkV} (h : DoneB w B H r x) (hH : H ≤ H') : DoneB w B H' r x := ⟨h.code.more hH, h.ats, h.lines, fun g e => ⟨Nat.lt_of_lt_of_le (h.lt g e).1 hH, (h.lt g e).2⟩, h.ne⟩
theorem DoneB.keepT {w w' : World} {B H : Nat} {r r' : Option Nat} {T : TypeId} {x : BlkD × BlkV} (h : DoneB w B H r x) (hg : w.grownBy w' r') (hH : H ≤ w.heap.size) (hr : ∀ g, r' = some g → TypB w g T) (hT : 52 ≠ T ∧ 3 ≠ T) : DoneB w' B H r x :=
 ⟨h.code.keepT hg hH hr hT.1, own_keepT h.ats hg hr hT.2, own_keepT h.lines hg hr hT.2, h.lt, h.ne⟩
theorem own_done {w : World} {B e sz n c : Nat} {A : Option Addr} {xs : List Value} (h : w.ownsRow B e sz (.slice A n c) n xs) (r : Option Nat) (hr : ∀ g, (Value.slice A n c).ownBlock = some g → r ≠ some g) : RdN w w.heap.size r e A n c xs := by
 refine ⟨own_rdg h, own_capG h, fun _ g o hA => ⟨hr g (by rw [hA]; rfl), own_typ h (by rw [hA]; rfl)⟩⟩
theorem CurB.done {w : World} {B H : Nat} {x : BlkD × BlkV} (h : CurB w H x) (r : Option Nat) (hr : ∀ g, r = some g → g < H) (hB : B ≤ H) : DoneB w B w.heap.size r x :=
 ⟨own_done h.code _ (fun _ _ e => by cases e), own_more h.ats hB, own_more h.lines hB, fun g hg => by
  rcases hg with hg | hg
  · have h1 := World.ownsRow.lt h.ats g hg; exact ⟨h1.2, fun e => by have := hr g e; omega⟩
  · have h1 := World.ownsRow.lt h.lines g hg
    exact ⟨h1.2, fun e => by have := hr g e; omega⟩, h.ne⟩
def firB (A : Option Addr) (n c : Nat) : Option Nat := (Value.slice A n c).ownBlock
structure CutM (W0 w : World) (B H0 H X : Nat) (m : Img) (v : ImgV) (aA : Option Addr) (ac : Nat) (all : List (List Sp)) (vs : List Value) (L k : Nat) (bA : Option Addr) (bc : Nat) (fA : Option Addr) (fc n nk : Nat) (ld : Int → Bool) (bm : Int → Option Int) (ds cur : List (BlkD × BlkV)) (fs : List Int) : Prop where
 img : ImgRd w B m v
 rows : vs.length = all.length ∧ RdN w H0 (some X) 115 aA all.length ac vs ∧ ∀ (j : Nat) (l : List Sp), all[j]? = some l → ∃ A c, vs[j]? = some (.slice A l.length c) ∧ RdN w H0 (some X) 119 A l.length c (spsV l)
 ldr : MapB w L n ld
 bmr : MapI w k nk bm
 row : w.ownsRow H0 54 14 (.slice bA (ds ++ cur).length bc) (ds ++ cur).length (blksV (ds ++ cur))
 fir : w.ownsRow H0 3 1 (.slice fA fs.length fc) fs.length (intsV .i64 fs)
 firH : ∀ g, firB fA fs.length fc = some g → g < H
 don : ∀ x ∈ ds, DoneB w H0 H (firB fA fs.length fc) x
 sep : ds.Pairwise SepB
 cu : ∀ x ∈ cur, CurB w H x
 hs : B ≤ X ∧ X < H0 ∧ B ≤ L ∧ L < H0 ∧ B ≤ k ∧ k < H0 ∧ L ≠ k ∧ H0 ≤ H ∧ H ≤ w.heap.size
 bel : Below B W0 w
section
variable {W0 w w' : World} {B H0 H X : Nat} {m : Img} {v : ImgV} {aA : Option Addr} {ac : Nat} {all : List (List Sp)} {vs : List Value} {L k : Nat} {bA : Option Addr} {bc : Nat} {fA : Option Addr} {fc n nk : Nat} {ld : Int → Bool} {bm : Int → Option Int} {ds cur : List (BlkD × BlkV)} {fs : List Int}
theorem CurB.below {x : BlkD × BlkV} (h : CurB w H x) (hb : Below w.heap.size w w') : CurB w' H x := ⟨own_keep h.code hb, own_keep h.ats hb, own_keep h.lines hb, h.ne⟩
theorem CutM.below (h : CutM W0 w B H0 H X m v aA ac all vs L k bA bc fA fc n nk ld bm ds cur fs) (hb : Below w.heap.size w w') : CutM W0 w' B H0 H X m v aA ac all vs L k bA bc fA fc n nk ld bm ds cur fs := by
 obtain ⟨s1, s2, s3, s4, s5, s6, s7, s8, s9⟩ := h.hs; obtain ⟨h1, h2, h3⟩ := h.rows; refine ⟨h.img.below (hb.mono (by omega)), ⟨h1, h2.below (hb.mono (by omega)), fun j l hj => ?_⟩, h.ldr.keep hb, h.bmr.keep hb, own_keep h.row hb, own_keep h.fir hb, h.firH, fun x hx => (h.don x hx).below (hb.mono s9), h.sep, fun x hx => (h.cu x hx).below hb, ⟨s1, s2, s3, s4, s5, s6, s7, s8, Nat.le_trans s9 hb.size⟩, h.bel.trans (hb.mono (by omega))⟩; obtain ⟨A, c, k1, k2⟩ := h3 j l hj; exact ⟨A, c, k1, k2.below (hb.mono (by omega))⟩
theorem mapI_is {f : Int → Option Int} {b c : Nat} (h : MapI w b c f) : ∃ es ck, w.heap[b]? = some (.map es ck) := by
 obtain ⟨D, ⟨es, ck, hb, _⟩, _⟩ := h; exact ⟨es, ck, hb⟩
theorem RdG.keepI {f : Int → Option Int} {b c J : Nat} {A : Option Addr} {xs : List Value} (h : RdG w J A xs) (hg : w.grownBy w' (some b)) (hm : MapI w b c f) : RdG w' J A xs := by
 obtain ⟨es, ck, hL⟩ := mapI_is hm; intro hne; obtain ⟨g, o, rfl, hgH, hc⟩ := h hne; refine ⟨g, o, rfl, hgH, fun j u hu => ?_⟩; have hcell := hc j u hu; have hlt := lt_of_cell hcell
 have hgL : g ≠ b := by
  rintro rfl; simp [World.cell?, hL] at hcell
 rw [← hcell]; have e := hg.block g hlt (fun e => hgL (by injection e)); simp [World.cell?, e]
theorem RdN.keepI {f : Int → Option Int} {b c J p q : Nat} {r : Option Nat} {e : TypeId} {A : Option Addr} {xs : List Value} (h : RdN w J r e A p q xs) (hJ : J ≤ w.heap.size) (hg : w.grownBy w' (some b)) (hm : MapI w b c f) : RdN w' J r e A p q xs :=
 h.gbO hg hJ fun hne g o hA e2 => by
  injection e2 with e2; subst e2; obtain ⟨es, ck, hL⟩ := mapI_is hm; obtain ⟨-, cs, fz, k⟩ := h.2.2 hne b o hA; rw [hL] at k
  cases k
theorem Blk.keepI {f : Int → Option Int} {b c Y : Nat} {t : TypeId} {cs : List Value} (h : Blk w Y t cs) (hg : w.grownBy w' (some b)) (hm : MapI w b c f) : Blk w' Y t cs := by
 obtain ⟨es, ck, hL⟩ := mapI_is hm; refine h.gb hg (fun e => ?_); injection e with e; subst e; unfold Blk at h; rw [hL] at h
 cases h
theorem own_keepI {f : Int → Option Int} {b c J e sz p : Nat} {vv : Value} {xs : List Value} (h : w.ownsRow J e sz vv p xs) (hg : w.grownBy w' (some b)) (hm : MapI w b c f) : w'.ownsRow J e sz vv p xs := by
 refine gb_own h hg ?_; rcases hv : vv.ownBlock with _ | q
 · exact .inl rfl
 · right
   intro e2; injection e2 with e2; subst e2; obtain ⟨es, ck, hL⟩ := mapI_is hm; obtain ⟨cs, fz, h1⟩ := own_typ h hv; rw [hL] at h1
   cases h1
theorem CutM.upK {nk' : Nat} {bm' : Int → Option Int} (h : CutM W0 w B H0 H X m v aA ac all vs L k bA bc fA fc n nk ld bm ds cur fs) (hg : w.grownBy w' (some k)) (hm : MapI w' k nk' bm') : CutM W0 w' B H0 H X m v aA ac all vs L k bA bc fA fc n nk' ld bm' ds cur fs := by
 obtain ⟨s1, s2, s3, s4, s5, s6, s7, s8, s9⟩ := h.hs; obtain ⟨h1, h2, h3⟩ := h.rows; have hM := h.bmr
 refine ⟨h.img.below (gb_to_below hg s5 (by omega)), ⟨h1, h2.keepI (by omega) hg hM, fun j l hj => ?_⟩, h.ldr.gb hg (fun e => s7 (by injection e with e; exact e.symm)), hm, own_keepI h.row hg hM, own_keepI h.fir hg hM, h.firH,
  fun x hx => ⟨(h.don x hx).code.keepI s9 hg hM, own_keepI (h.don x hx).ats hg hM, own_keepI (h.don x hx).lines hg hM, (h.don x hx).lt, (h.don x hx).ne⟩, h.sep,
  fun x hx => ⟨own_keepI (h.cu x hx).code hg hM, own_keepI (h.cu x hx).ats hg hM, own_keepI (h.cu x hx).lines hg hM, (h.cu x hx).ne⟩, ⟨s1, s2, s3, s4, s5, s6, s7, s8, Nat.le_trans s9 hg.size⟩, h.bel.trans (gb_to_below hg s5 (by omega))⟩
 obtain ⟨A, c, k1, k2⟩ := h3 j l hj; exact ⟨A, c, k1, k2.keepI (by omega) hg hM⟩
theorem CutM.close (h : CutM W0 w B H0 H X m v aA ac all vs L k bA bc fA fc n nk ld bm ds cur fs) (hc : cur.length ≤ 1) : CutM W0 w B H0 w.heap.size X m v aA ac all vs L k bA bc fA fc n nk ld bm (ds ++ cur) [] fs := by
 obtain ⟨s1, s2, s3, s4, s5, s6, s7, s8, s9⟩ := h.hs; refine ⟨h.img, h.rows, h.ldr, h.bmr, by rw [List.append_nil]; exact h.row, h.fir, fun g hg => Nat.lt_of_lt_of_le (h.firH g hg) s9, fun x hx => ?_, ?_, fun x hx => (by cases hx), ⟨s1, s2, s3, s4, s5, s6, s7, by omega, Nat.le_refl _⟩, h.bel⟩
 · rcases List.mem_append.1 hx with hx | hx
   · exact (h.don x hx).more s9
   · exact (h.cu x hx).done _ h.firH s8
 · rw [List.pairwise_append]; refine ⟨h.sep, ?_, fun x hx y hy g hg => ?_⟩
   · exact pw_one hc
   · have h1 := ((h.don x hx).lt g hg).1; exact ⟨fun e => by have := (World.ownsRow.lt (h.cu y hy).ats g e).1; omega, fun e => by have := (World.ownsRow.lt (h.cu y hy).lines g e).1; omega⟩
theorem RdN.other {H n c : Nat} {r r' : Option Nat} {e : TypeId} {A : Option Addr} {xs : List Value} (h : RdN w H r e A n c xs) (hr : ∀ g, r' = some g → r = some g ∨ H ≤ g) : RdN w H r' e A n c xs := by
 refine ⟨h.1, h.2.1, fun hne g o hA => ⟨fun e2 => ?_, (h.2.2 hne g o hA).2⟩⟩; rcases hr g e2 with e3 | e3
 · exact (h.2.2 hne g o hA).1 e3
 · obtain ⟨g', o', e1, hgH, -⟩ := h.1 hne; rw [hA] at e1; injection e1 with e1; injection e1 with e4 _ _; omega
theorem map_neX {Y : Nat} {t : TypeId} {cs : List Value} (h : Blk w Y t cs) {es : Array MapEntry} {ck b : Nat} (hm : w.heap[b]? = some (.map es ck)) : some Y ≠ some b := by
 intro e; injection e with e; subst e; unfold Blk at h; rw [hm] at h
 cases h
theorem CutM.setX {cs : List Value} (h : CutM W0 w B H0 H X m v aA ac all vs L k bA bc fA fc n nk ld bm ds cur fs) (hX : Blk w X 112 cs) (q : Nat) (u : Value) : CutM W0 (w.setCell ⟨X, q, none⟩ u) B H0 H X m v aA ac all vs L k bA bc fA fc n nk ld bm ds cur fs := by
 obtain ⟨s1, s2, s3, s4, s5, s6, s7, s8, s9⟩ := h.hs; obtain ⟨h1, h2, h3⟩ := h.rows; have hg : w.grownBy (w.setCell ⟨X, q, none⟩ u) (some X) := gb_setCell (gb_refl _ _) _ _; have ht : ∀ g, some X = some g → TypB w g 112 := fun g e => by injection e with e; subst e; exact hX.typ
 obtain ⟨e1, c1, hl⟩ := mapB_is h.ldr; obtain ⟨e2, c2, hk⟩ := mapI_is h.bmr
 refine ⟨h.img.below (gb_to_below hg s1 (by omega)), ⟨h1, h2.gb hg (by omega), fun j l hj => ?_⟩, h.ldr.gb hg (map_neX hX hl), h.bmr.gb hg (map_neX hX hk), own_keepT h.row hg ht (by decide), own_keepT h.fir hg ht (by decide), h.firH,
  fun x hx => (h.don x hx).keepT hg s9 ht (by decide), h.sep,
  fun x hx => ⟨own_keepT (h.cu x hx).code hg ht (by decide), own_keepT (h.cu x hx).ats hg ht (by decide), own_keepT (h.cu x hx).lines hg ht (by decide), (h.cu x hx).ne⟩, ⟨s1, s2, s3, s4, s5, s6, s7, s8, Nat.le_trans s9 hg.size⟩, h.bel.trans (gb_to_below hg s1 (by omega))⟩
 obtain ⟨A, c, k1, k2⟩ := h3 j l hj; exact ⟨A, c, k1, k2.gb hg (by omega)⟩
end
section
variable {W0 w w1 : World} {B H0 H X : Nat} {m : Img} {v : ImgV} {aA : Option Addr} {ac : Nat} {all : List (List Sp)} {vs : List Value} {L k : Nat} {bA : Option Addr} {bc : Nat} {fA : Option Addr} {fc n nk : Nat} {ld : Int → Bool} {bm : Int → Option Int} {ds cur : List (BlkD × BlkV)} {fs : List Int}
theorem CutM.addFir (h : CutM W0 w B H0 H X m v aA ac all vs L k bA bc fA fc n nk ld bm ds [] fs) {A' : Option Addr} {c' : Nat} {y : Int} (ho : w1.ownsRow H0 3 1 (.slice A' (fs.length + 1) c') (fs.length + 1) (intsV .i64 fs ++ [.int .i64 y]))
 (hg : w.grownBy w1 (firB fA fs.length fc)) (hat : ∀ g, firB A' (fs.length + 1) c' = some g → firB fA fs.length fc = some g ∨ w.heap.size ≤ g) :
 CutM W0 w1 B H0 w1.heap.size X m v aA ac all vs L k bA bc A' c' n nk ld bm ds [] (fs ++ [y]) := by
 obtain ⟨s1, s2, s3, s4, s5, s6, s7, s8, s9⟩ := h.hs; obtain ⟨h1, h2, h3⟩ := h.rows; have hr0 : ∀ g, firB fA fs.length fc = some g → H0 ≤ g := fun g e => (World.ownsRow.lt h.fir g e).1
 have ht : ∀ g, firB fA fs.length fc = some g → TypB w g 3 := fun g e => own_typ h.fir e
 have hb : Below H0 w w1 := gb_below_of hg hr0 (by omega); have hz := hg.size; have hl : (fs ++ [y]).length = fs.length + 1 := by simp
 refine ⟨h.img.below (hb.mono (by omega)), ⟨h1, h2.below hb, fun j l hj => ?_⟩, h.ldr.gb hg (fun e => by have := hr0 L e; omega), h.bmr.gb hg (fun e => by have := hr0 k e; omega), own_keepT h.row hg ht (by decide), ?_, fun g e => ?_, fun x hx => ?_, h.sep, fun x hx => (by cases hx), ⟨s1, s2, s3, s4, s5, s6, s7, by omega, Nat.le_refl _⟩, h.bel.trans (hb.mono (by omega))⟩
 · obtain ⟨A, c, k1, k2⟩ := h3 j l hj; exact ⟨A, c, k1, k2.below hb⟩
 · rw [hl]; have e : intsV .i64 (fs ++ [y]) = intsV .i64 fs ++ [.int .i64 y] := by simp [intsV]
   rw [e]; exact ho
 · rw [hl] at e; exact (World.ownsRow.lt ho g e).2
 · have hd := h.don x hx
   have ho' : ∀ g, firB A' (fs ++ [y]).length c' = some g → firB fA fs.length fc = some g ∨ H ≤ g := fun g e => by
    rw [hl] at e; rcases hat g e with e2 | e2
    · exact .inl e2
    · exact .inr (by omega)
   have hgn : ∀ g, (rowA x = some g ∨ rowL x = some g) → firB fA fs.length fc ≠ some g := fun g e => (hd.lt g e).2
   exact ⟨(hd.code.keepT hg s9 ht (by decide)).more (by omega), gb_own hd.ats hg (by
    rcases hv : (Value.slice x.2.aA x.1.ats.length x.2.ac).ownBlock with _ | q
    · exact .inl rfl
    · exact .inr fun e => hgn q (.inl hv) e.symm), gb_own hd.lines hg (by
    rcases hv : (Value.slice x.2.lA x.1.lines.length x.2.lc).ownBlock with _ | q
    · exact .inl rfl
    · exact .inr fun e => hgn q (.inr hv) e.symm), fun g e => ⟨by have := (hd.lt g e).1; omega, fun e2 => by
    rcases ho' g e2 with e3 | e3
    · exact hgn g e e3
    · have := (hd.lt g e).1
      omega⟩, hd.ne⟩
theorem CutM.addBlk (h : CutM W0 w B H0 H X m v aA ac all vs L k bA bc fA fc n nk ld bm ds [] fs) {A' : Option Addr} {c' : Nat} (f p : Int) (ho : w1.ownsRow H0 54 14 (.slice A' (ds.length + 1) c') (ds.length + 1) (blksV ds ++ blkC (newB f p) ⟨none, 0, none, 0, none, 0⟩))
 (hg : w.grownBy w1 (Value.slice bA ds.length bc).ownBlock) :
 CutM W0 w1 B H0 H X m v aA ac all vs L k A' c' fA fc n nk ld bm ds [(newB f p, ⟨none, 0, none, 0, none, 0⟩)] fs := by
 obtain ⟨s1, s2, s3, s4, s5, s6, s7, s8, s9⟩ := h.hs; obtain ⟨h1, h2, h3⟩ := h.rows; have hrow := h.row; rw [List.append_nil] at hrow; have hr0 : ∀ g, (Value.slice bA ds.length bc).ownBlock = some g → H0 ≤ g := fun g e => (World.ownsRow.lt hrow g e).1
 have ht : ∀ g, (Value.slice bA ds.length bc).ownBlock = some g → TypB w g 54 := fun g e => own_typ hrow e
 have hb : Below H0 w w1 := gb_below_of hg hr0 (by omega); have hz := hg.size; refine ⟨h.img.below (hb.mono (by omega)), ⟨h1, h2.below hb, fun j l hj => ?_⟩, h.ldr.gb hg (fun e => by have := hr0 L e; omega), h.bmr.gb hg (fun e => by have := hr0 k e; omega), ?_, own_keepT h.fir hg ht (by decide), h.firH, fun x hx => ?_, h.sep, fun x hx => ?_, ⟨s1, s2, s3, s4, s5, s6, s7, s8, by omega⟩, h.bel.trans (hb.mono (by omega))⟩
 · obtain ⟨A, c, k1, k2⟩ := h3 j l hj; exact ⟨A, c, k1, k2.below hb⟩
 · rw [List.length_append, blksV_snoc]; exact ho
 · have hd := h.don x hx; exact hd.keepT hg s9 ht (by decide)
 · rw [List.mem_singleton] at hx; subst hx; exact ⟨⟨rfl, .inl ⟨rfl, rfl⟩⟩, ⟨rfl, .inl ⟨rfl, rfl⟩⟩, ⟨rfl, .inl ⟨rfl, rfl⟩⟩, fun g e => by cases e⟩
theorem CurB.keepO {w' : World} {x : BlkD × BlkV} (h : CurB w H x) {r : Option Nat} (hg : w.grownBy w' r) (ht : ∀ g, r = some g → TypB w g 54) : CurB w' H x :=
 ⟨own_keepT h.code hg ht (by decide), own_keepT h.ats hg ht (by decide), own_keepT h.lines hg ht (by decide), h.ne⟩
theorem CutM.turn {x x' : BlkD × BlkV} {gb : Nat} (h : CutM W0 w B H0 H X m v aA ac all vs L k (some ⟨gb, 0, none⟩) bc fA fc n nk ld bm ds [x] fs) {r : Option Nat} {T : TypeId} (hg : w.grownBy w1 r) (hr : ∀ g, r = some g → H ≤ g) (ht : ∀ g, r = some g → TypB w g T) (hT : 54 ≠ T)
 (hcu : CurB w1 H x') (q : Nat) (hq : q < 14) (u : Value) (hu : blkC x'.1 x'.2 = (blkC x.1 x.2).set q u) :
 CutM W0 (w1.setCell ⟨gb, ds.length * 14 + q, none⟩ u) B H0 H X m v aA ac all vs L k (some ⟨gb, 0, none⟩) bc fA fc n nk ld bm ds [x'] fs := by
 obtain ⟨s1, s2, s3, s4, s5, s6, s7, s8, s9⟩ := h.hs; obtain ⟨h1, h2, h3⟩ := h.rows; have hb : Below H w w1 := gb_below_of hg hr s9; have hz := hg.size; have hrow := own_keepT h.row hg ht hT; have hfir : w1.ownsRow H0 3 1 (.slice fA fs.length fc) fs.length (intsV .i64 fs) := own_ltH h.fir hb h.firH; obtain ⟨hst, hg2⟩ := hrow.stored (ds.length * 14 + q) u; have hb0 : ∀ g, some gb = some g → H0 ≤ g := fun g e => by injection e with e; subst e; exact (World.ownsRow.lt h.row gb rfl).1
 have ht2 : ∀ g, some gb = some g → TypB w1 g 54 := fun g e => by injection e with e; subst e; exact own_typ hrow rfl
 have hbb : Below H0 w1 (w1.setCell ⟨gb, ds.length * 14 + q, none⟩ u) := gb_below_of hg2 hb0 (by omega); have hz2 := hg2.size
 have hset : (blksV (ds ++ [x])).set (ds.length * 14 + q) u = blksV (ds ++ [x']) := by
  rw [blksV_snoc, blksV_snoc, hu, List.set_append_right _ _ (by rw [blksV_len]; omega), blksV_len, Nat.add_sub_cancel_left]
 have hlen : (ds ++ [x']).length = (ds ++ [x]).length := by simp
 refine ⟨(h.img.below (hb.mono (by omega))).below (hbb.mono (by omega)), ⟨h1, (h2.below (hb.mono s8)).below hbb, fun j l hj => ?_⟩, (h.ldr.gb hg (fun e => by have := hr L e; omega)).gb hg2 (fun e => by have := hb0 L e; omega), (h.bmr.gb hg (fun e => by have := hr k e; omega)).gb hg2 (fun e => by have := hb0 k e; omega), ?_, own_keepT hfir hg2 ht2 (by decide), h.firH, fun y hy => ?_, h.sep, fun y hy => ?_, ⟨s1, s2, s3, s4, s5, s6, s7, s8, by omega⟩, (h.bel.trans (hb.mono (by omega))).trans (hbb.mono (by omega))⟩
 · obtain ⟨A, c, k1, k2⟩ := h3 j l hj; exact ⟨A, c, k1, (k2.below (hb.mono s8)).below hbb⟩
 · rw [hlen, ← hset]; exact hst
 · have hd := (h.don y hy).below hb; exact hd.keepT hg2 (by omega) ht2 (by decide)
 · rw [List.mem_singleton] at hy; subst hy; exact hcu.keepO hg2 ht2
end
section
variable {W0 w w1 w' : World} {B H0 H X b5 : Nat} {m : Img} {v : ImgV} {aA : Option Addr} {ac : Nat} {all : List (List Sp)} {vs : List Value} {o L k : Nat} {gb bc : Nat} {fA : Option Addr} {fc n nk : Nat} {ld : Int → Bool} {bm : Int → Option Int} {ds : List (BlkD × BlkV)} {x x' : BlkD × BlkV} {fs : List Int} {tV : Value} {s : Sp}
structure RnS (W0 w : World) (B H0 H X b5 : Nat) (m : Img) (v : ImgV) (aA : Option Addr) (ac : Nat) (all : List (List Sp)) (vs : List Value) (o L k gb bc : Nat) (fA : Option Addr) (fc n nk : Nat) (ld : Int → Bool) (bm : Int → Option Int) (ds : List (BlkD × BlkV)) (x : BlkD × BlkV) (fs : List Int) (tV : Value) (s : Sp) : Prop where
 cm : CutM W0 w B H0 H X m v aA ac all vs L k (some ⟨gb, 0, none⟩) bc fA fc n nk ld bm ds [x] fs
 fx : Blk w X 112 (finC m v aA all.length ac o L k [.slice (some ⟨gb, 0, none⟩) (ds.length + 1) bc, tV, .slice fA fs.length fc])
 sp : Blk w b5 119 (spC s)
theorem RnS.below (h : RnS W0 w B H0 H X b5 m v aA ac all vs o L k gb bc fA fc n nk ld bm ds x fs tV s) (hb : Below w.heap.size w w') : RnS W0 w' B H0 H X b5 m v aA ac all vs o L k gb bc fA fc n nk ld bm ds x fs tV s :=
 ⟨h.cm.below hb, h.fx.keep hb, h.sp.keep hb⟩
theorem RnS.bcell (h : RnS W0 w B H0 H X b5 m v aA ac all vs o L k gb bc fA fc n nk ld bm ds x fs tV s) (q : Nat) (u : Value) (hu : (blkC x.1 x.2)[q]? = some u) : w.cell? ⟨gb, ds.length * 14 + q, none⟩ = some u ∧ w.frozen? ⟨gb, ds.length * 14 + q, none⟩ = false := by
 obtain ⟨o1, o2, o3, o4⟩ := own_at h.cm.row
 exact ⟨o4 _ _ (blksV_at (by simp) q u hu), by
  obtain ⟨cs, fz, hb⟩ := own_typ h.cm.row rfl; rcases h.cm.row.2 with ⟨e, _⟩ | ⟨g, cap, cur, hv, hbb, hg, _⟩
  · cases e
  · injection hv with e1 _ _; injection e1 with e1; injection e1 with e1 _ _; subst e1
    exact frozen_of_row _ _ _ _ _ hg⟩
theorem RnS.glt (h : RnS W0 w B H0 H X b5 m v aA ac all vs o L k gb bc fA fc n nk ld bm ds x fs tV s) : H0 ≤ gb ∧ gb < w.heap.size := World.ownsRow.lt h.cm.row gb rfl
theorem RnS.neS (h : RnS W0 w B H0 H X b5 m v aA ac all vs o L k gb bc fA fc n nk ld bm ds x fs tV s) : gb ≠ b5 := (own_typ h.cm.row rfl).ne h.sp.typ (by decide)
theorem RnS.turn (h : RnS W0 w B H0 H X b5 m v aA ac all vs o L k gb bc fA fc n nk ld bm ds x fs tV s) {r : Option Nat} {T : TypeId} (hg : w.grownBy w1 r) (hr : ∀ g, r = some g → H ≤ g) (ht : ∀ g, r = some g → TypB w g T) (hT : 54 ≠ T ∧ 112 ≠ T ∧ 119 ≠ T)
 (hcu : CurB w1 H x') (q : Nat) (hq : q < 14) (u : Value) (hu : blkC x'.1 x'.2 = (blkC x.1 x.2).set q u) :
 RnS W0 (w1.setCell ⟨gb, ds.length * 14 + q, none⟩ u) B H0 H X b5 m v aA ac all vs o L k gb bc fA fc n nk ld bm ds x' fs tV s := by
 have hrow := own_keepT h.cm.row hg ht hT.1; have hg2 : w1.grownBy (w1.setCell ⟨gb, ds.length * 14 + q, none⟩ u) (some gb) := gb_setCell (gb_refl _ _) _ _; have ht2 : ∀ g, some gb = some g → TypB w1 g 54 := fun g e => by injection e with e; subst e; exact own_typ hrow rfl
 exact ⟨h.cm.turn hg hr ht hT.1 hcu q hq u hu, (h.fx.keepT hg ht hT.2.1).keepT hg2 ht2 (by decide), (h.sp.keepT hg ht hT.2.2).keepT hg2 ht2 (by decide)⟩
theorem own_cellf {B e sz n c g q : Nat} {xs : List Value} {u : Value} (h : w.ownsRow B e sz (.slice (some ⟨g, 0, none⟩) n c) n xs) (hu : xs[q]? = some u) : w.cell? ⟨g, q, none⟩ = some u ∧ w.frozen? ⟨g, q, none⟩ = false ∧ g < w.heap.size := by
 obtain ⟨o1, o2, o3, o4⟩ := own_at h; refine ⟨o4 _ _ hu, ?_, o3⟩; rcases h.2 with ⟨e, _⟩ | ⟨g', cap, cur, hv, hbb, hg, _⟩
 · cases e
 · injection hv with e1 _ _; injection e1 with e1; injection e1 with e1 _ _; subst e1; exact frozen_of_row _ _ _ _ _ hg
theorem RnS.gcell (h : RnS W0 w B H0 H X b5 m v aA ac all vs o L k gb bc fA fc n nk ld bm ds x fs tV s) {r : Option Nat} {T : TypeId} (hg : w.grownBy w1 r) (ht : ∀ g, r = some g → TypB w g T) (hT : 54 ≠ T) (q : Nat) (u : Value) (hu : (blkC x.1 x.2)[q]? = some u) :
 w1.cell? ⟨gb, ds.length * 14 + q, none⟩ = some u ∧ w1.frozen? ⟨gb, ds.length * 14 + q, none⟩ = false ∧ gb < w1.heap.size :=
 own_cellf (own_keepT h.cm.row hg ht hT) (blksV_at (by simp) q u hu)
theorem RnS.set (h : RnS W0 w B H0 H X b5 m v aA ac all vs o L k gb bc fA fc n nk ld bm ds x fs tV s) (y : BlkD) (hc : y.code = x.1.code) (ha : y.ats = x.1.ats) (hl : y.lines = x.1.lines) (q : Nat) (hq : q < 14) (u : Value) (hu : blkC y x.2 = (blkC x.1 x.2).set q u) :
 RnS W0 (w.setCell ⟨gb, ds.length * 14 + q, none⟩ u) B H0 H X b5 m v aA ac all vs o L k gb bc fA fc n nk ld bm ds (y, x.2) fs tV s := by
 have hx := h.cm.cu x (by simp); refine h.turn (r := none) (T := 3) (gb_below (Below.refl _ _)) (fun g e => (by cases e)) (fun g e => (by cases e)) (by decide) ⟨?_, ?_, ?_, ?_⟩ q hq u hu
 · show w.ownsRow H 52 6 (.slice x.2.cA y.code.length x.2.cc) y.code.length (insR y.code); rw [hc]; exact hx.code
 · show w.ownsRow H 3 1 (.slice x.2.aA y.ats.length x.2.ac) y.ats.length (intsV .i64 y.ats); rw [ha]; exact hx.ats
 · show w.ownsRow H 3 1 (.slice x.2.lA y.lines.length x.2.lc) y.lines.length (intsV .i64 y.lines); rw [hl]; exact hx.lines
 · show ∀ g, (Value.slice x.2.aA y.ats.length x.2.ac).ownBlock = some g → (Value.slice x.2.lA y.lines.length x.2.lc).ownBlock ≠ some g; rw [ha, hl]; exact hx.ne
theorem RnS.addAt (h : RnS W0 w B H0 H X b5 m v aA ac all vs o L k gb bc fA fc n nk ld bm ds x fs tV s) {g2 c2 : Nat} {p : Int} (ho : w1.ownsRow H 3 1 (.slice (some ⟨g2, 0, none⟩) (x.1.ats.length + 1) c2) (x.1.ats.length + 1) (intsV .i64 x.1.ats ++ [.int .i64 p]))
 (hg : w.grownBy w1 (Value.slice x.2.aA x.1.ats.length x.2.ac).ownBlock) (hat : (Value.slice x.2.aA x.1.ats.length x.2.ac).ownBlock = some g2 ∨ w.heap.size ≤ g2) :
 RnS W0 (w1.setCell ⟨gb, ds.length * 14 + 3, none⟩ (.slice (some ⟨g2, 0, none⟩) (x.1.ats.length + 1) c2)) B H0 H X b5 m v aA ac all vs o L k gb bc fA fc n nk ld bm ds ({ x.1 with ats := x.1.ats ++ [p] }, { x.2 with aA := some ⟨g2, 0, none⟩, ac := c2 }) fs tV s := by
 have hx := h.cm.cu x (by simp); have ht : ∀ g, (Value.slice x.2.aA x.1.ats.length x.2.ac).ownBlock = some g → TypB w g 3 := fun g e => own_typ hx.ats e
 refine h.turn (x' := ({ x.1 with ats := x.1.ats ++ [p] }, { x.2 with aA := some ⟨g2, 0, none⟩, ac := c2 })) hg (fun g e => (World.ownsRow.lt hx.ats g e).1) ht (by decide) ⟨own_keepT hx.code hg ht (by decide), ?_, ?_, ?_⟩ 3 (by decide) _ ?_
 · simp only [List.length_append, List.length_cons, List.length_nil, Nat.zero_add]; have e : intsV .i64 (x.1.ats ++ [p]) = intsV .i64 x.1.ats ++ [.int .i64 p] := by simp [intsV]
   rw [e]; exact ho
 · refine gb_own hx.lines hg ?_; rcases hv : (Value.slice x.2.lA x.1.lines.length x.2.lc).ownBlock with _ | q
   · exact .inl rfl
   · right
     intro e; exact hx.ne q e.symm hv
 · intro g hg2 e; have hg2' : some g2 = some g := hg2; injection hg2' with hg2'; subst hg2'; have hlt := (World.ownsRow.lt hx.lines g2 e).2; rcases hat with h1 | h1
   · exact hx.ne g2 h1 e
   · omega
 · simp [blkC]
theorem RnS.addLn (h : RnS W0 w B H0 H X b5 m v aA ac all vs o L k gb bc fA fc n nk ld bm ds x fs tV s) {g2 c2 : Nat} {p : Int} (ho : w1.ownsRow H 3 1 (.slice (some ⟨g2, 0, none⟩) (x.1.lines.length + 1) c2) (x.1.lines.length + 1) (intsV .i64 x.1.lines ++ [.int .i64 p]))
 (hg : w.grownBy w1 (Value.slice x.2.lA x.1.lines.length x.2.lc).ownBlock) (hat : (Value.slice x.2.lA x.1.lines.length x.2.lc).ownBlock = some g2 ∨ w.heap.size ≤ g2) :
 RnS W0 (w1.setCell ⟨gb, ds.length * 14 + 13, none⟩ (.slice (some ⟨g2, 0, none⟩) (x.1.lines.length + 1) c2)) B H0 H X b5 m v aA ac all vs o L k gb bc fA fc n nk ld bm ds ({ x.1 with lines := x.1.lines ++ [p] }, { x.2 with lA := some ⟨g2, 0, none⟩, lc := c2 }) fs tV s := by
 have hx := h.cm.cu x (by simp); have ht : ∀ g, (Value.slice x.2.lA x.1.lines.length x.2.lc).ownBlock = some g → TypB w g 3 := fun g e => own_typ hx.lines e
 refine h.turn (x' := ({ x.1 with lines := x.1.lines ++ [p] }, { x.2 with lA := some ⟨g2, 0, none⟩, lc := c2 })) hg (fun g e => (World.ownsRow.lt hx.lines g e).1) ht (by decide) ⟨own_keepT hx.code hg ht (by decide), ?_, ?_, ?_⟩ 13 (by decide) _ ?_
 · refine gb_own hx.ats hg ?_; rcases hv : (Value.slice x.2.aA x.1.ats.length x.2.ac).ownBlock with _ | q
   · exact .inl rfl
   · right
     intro e; exact hx.ne q hv e.symm
 · simp only [List.length_append, List.length_cons, List.length_nil, Nat.zero_add]; have e : intsV .i64 (x.1.lines ++ [p]) = intsV .i64 x.1.lines ++ [.int .i64 p] := by simp [intsV]
   rw [e]; exact ho
 · intro g hg2 e; have e' : some g2 = some g := e; injection e' with e'; subst e'; have hlt := (World.ownsRow.lt hx.ats g2 hg2).2; rcases hat with h1 | h1
   · exact hx.ne g2 hg2 h1
   · omega
 · simp [blkC]
theorem RnS.addCo (h : RnS W0 w B H0 H X b5 m v aA ac all vs o L k gb bc fA fc n nk ld bm ds x fs tV s) {g2 c2 : Nat} {i : Ins} (ho : w1.ownsRow H 52 6 (.slice (some ⟨g2, 0, none⟩) (x.1.code.length + 1) c2) (x.1.code.length + 1) (insR x.1.code ++ insC i))
 (hg : w.grownBy w1 (Value.slice x.2.cA x.1.code.length x.2.cc).ownBlock) :
 RnS W0 (w1.setCell ⟨gb, ds.length * 14 + 2, none⟩ (.slice (some ⟨g2, 0, none⟩) (x.1.code.length + 1) c2)) B H0 H X b5 m v aA ac all vs o L k gb bc fA fc n nk ld bm ds ({ x.1 with code := x.1.code ++ [i] }, { x.2 with cA := some ⟨g2, 0, none⟩, cc := c2 }) fs tV s := by
 have hx := h.cm.cu x (by simp); have ht : ∀ g, (Value.slice x.2.cA x.1.code.length x.2.cc).ownBlock = some g → TypB w g 52 := fun g e => own_typ hx.code e
 refine h.turn (x' := ({ x.1 with code := x.1.code ++ [i] }, { x.2 with cA := some ⟨g2, 0, none⟩, cc := c2 })) hg (fun g e => (World.ownsRow.lt hx.code g e).1) ht (by decide) ⟨?_, own_keepT hx.ats hg ht (by decide), own_keepT hx.lines hg ht (by decide), hx.ne⟩ 2 (by decide) _ ?_
 · simp only [List.length_append, List.length_cons, List.length_nil, Nat.zero_add]; have e : insR (x.1.code ++ [i]) = insR x.1.code ++ insC i := by simp [insR]
   rw [e]; exact ho
 · simp [blkC]
end
theorem modify_end (f : BlkD → BlkD) (x : BlkD) : ∀ l : List BlkD, (l ++ [x]).modify l.length f = l ++ [f x]
 | [] => rfl
 | a :: r => by
  show (a :: (r ++ [x])).modify (r.length + 1) f = a :: (r ++ [f x]); rw [List.modify_succ_cons, modify_end f x r]
theorem modLast_snoc (f : BlkD → BlkD) (l : List BlkD) (x : BlkD) : modLast f (l ++ [x]) = l ++ [f x] := by
 unfold modLast; rw [List.length_append, List.length_singleton, Nat.add_sub_cancel]; exact modify_end f x l
theorem blksV_set {q : Nat} (hq : q < 14) (u : Value) {x' : BlkD × BlkV} : ∀ (l : List (BlkD × BlkV)) (i : Nat) (x : BlkD × BlkV), l[i]? = some x → blkC x'.1 x'.2 = (blkC x.1 x.2).set q u → (blksV l).set (i * 14 + q) u = blksV (l.set i x')
 | [], i, x, h, _ => by simp at h
 | a :: r, 0, x, h, hu => by
  simp only [List.getElem?_cons_zero, Option.some.injEq] at h; subst h; show (blkC a.1 a.2 ++ blksV r).set (0 * 14 + q) u = blkC x'.1 x'.2 ++ blksV r; rw [Nat.zero_mul, Nat.zero_add, List.set_append_left _ _ (by simpa [blkC] using hq), hu]
 | a :: r, i + 1, x, h, hu => by
  rw [List.getElem?_cons_succ] at h; show (blkC a.1 a.2 ++ blksV r).set ((i + 1) * 14 + q) u = blkC a.1 a.2 ++ blksV (r.set i x'); have hl : (blkC a.1 a.2).length = 14 := rfl; rw [List.set_append_right _ _ (by rw [hl]; omega), hl, show (i + 1) * 14 + q - 14 = i * 14 + q by omega, blksV_set hq u r i x h hu]
theorem SepB.symm {x y : BlkD × BlkV} (h : SepB x y) : SepB y x := fun g hg => ⟨fun e => by
 rcases hg with hg | hg
 · exact (h g (.inl e)).1 hg
 · exact (h g (.inl e)).2 hg, fun e => by
 rcases hg with hg | hg
 · exact (h g (.inr e)).1 hg
 · exact (h g (.inr e)).2 hg⟩
theorem sep_at {ds : List (BlkD × BlkV)} (h : ds.Pairwise SepB) {i j : Nat} {x y : BlkD × BlkV} (hx : ds[i]? = some x) (hy : ds[j]? = some y) (hne : i ≠ j) : SepB x y := by
 obtain ⟨hi, rfl⟩ := List.getElem?_eq_some_iff.1 hx; obtain ⟨hj, rfl⟩ := List.getElem?_eq_some_iff.1 hy; rw [List.pairwise_iff_getElem] at h; rcases Nat.lt_or_gt_of_ne hne with h1 | h1
 · exact h i j hi hj h1
 · exact (h j i hj hi h1).symm
theorem sep_set {ds : List (BlkD × BlkV)} (h : ds.Pairwise SepB) {i : Nat} {x' : BlkD × BlkV} (hn : ∀ (j : Nat) (y : BlkD × BlkV), ds[j]? = some y → j ≠ i → SepB x' y) : (ds.set i x').Pairwise SepB := by
 rw [List.pairwise_iff_getElem] at h ⊢; intro a b ha hb hab; rw [List.length_set] at ha hb; rw [List.getElem_set, List.getElem_set]
 split
 · rename_i e
   split
   · rename_i e2
     omega
   · rename_i e2
     exact hn b _ (gE' hb) (fun e3 => e2 e3.symm)
 · split
   · rename_i e e2
     exact (hn a _ (gE' ha) (fun e3 => e e3.symm)).symm
   · exact h a b ha hb hab
theorem mem_set_at {ds : List (BlkD × BlkV)} {i : Nat} {x' z : BlkD × BlkV} (h : z ∈ ds.set i x') : z = x' ∨ ∃ j, j ≠ i ∧ ds[j]? = some z := by
 obtain ⟨j, hj⟩ := List.getElem?_of_mem h; rw [List.getElem?_set] at hj
 split at hj
 · split at hj
   · injection hj with hj; exact .inl hj.symm
   · cases hj
 · rename_i e
   exact .inr ⟨j, fun e2 => e e2.symm, hj⟩
section
variable {W0 w w1 w' : World} {B H0 H X : Nat} {m : Img} {v : ImgV} {aA : Option Addr} {ac : Nat} {all : List (List Sp)} {vs : List Value} {L k : Nat} {bA : Option Addr} {gb bc : Nat} {fA : Option Addr} {fc n nk : Nat} {ld : Int → Bool} {bm : Int → Option Int} {ds : List (BlkD × BlkV)} {x : BlkD × BlkV} {fs : List Int}
theorem CutM.setD (h : CutM W0 w B H0 H X m v aA ac all vs L k (some ⟨gb, 0, none⟩) bc fA fc n nk ld bm ds [] fs) {i : Nat} (hx : ds[i]? = some x) (y : BlkD) (hc : y.code = x.1.code) (ha : y.ats = x.1.ats) (hl : y.lines = x.1.lines) (q : Nat) (hq : q < 14) (u : Value) (hu : blkC y x.2 = (blkC x.1 x.2).set q u) :
 CutM W0 (w.setCell ⟨gb, i * 14 + q, none⟩ u) B H0 H X m v aA ac all vs L k (some ⟨gb, 0, none⟩) bc fA fc n nk ld bm (ds.set i (y, x.2)) [] fs := by
 obtain ⟨s1, s2, s3, s4, s5, s6, s7, s8, s9⟩ := h.hs; obtain ⟨h1, h2, h3⟩ := h.rows; have hrow := h.row; rw [List.append_nil] at hrow; obtain ⟨hst, hg2⟩ := hrow.stored (i * 14 + q) u; have hb0 : ∀ g, some gb = some g → H0 ≤ g := fun g e => by injection e with e; subst e; exact (World.ownsRow.lt hrow gb rfl).1
 have ht2 : ∀ g, some gb = some g → TypB w g 54 := fun g e => by injection e with e; subst e; exact own_typ hrow rfl
 have hbb : Below H0 w (w.setCell ⟨gb, i * 14 + q, none⟩ u) := gb_below_of hg2 hb0 (by omega); have hz2 := hg2.size; have hset := blksV_set hq u (x' := (y, x.2)) ds i x hx hu; have hrA : rowA (y, x.2) = rowA x := by unfold rowA; rw [ha]
 have hrL : rowL (y, x.2) = rowL x := by unfold rowL; rw [hl]
 refine ⟨h.img.below (hbb.mono (by omega)), ⟨h1, h2.below hbb, fun j l hj => ?_⟩, h.ldr.gb hg2 (fun e => by have := hb0 L e; omega), h.bmr.gb hg2 (fun e => by have := hb0 k e; omega), ?_, own_keepT h.fir hg2 ht2 (by decide), h.firH, fun z hz => ?_, ?_, fun z hz => (by cases hz), ⟨s1, s2, s3, s4, s5, s6, s7, s8, by omega⟩, h.bel.trans (hbb.mono (by omega))⟩
 · obtain ⟨A, c, k1, k2⟩ := h3 j l hj; exact ⟨A, c, k1, k2.below hbb⟩
 · rw [List.append_nil, List.length_set, ← hset]; exact hst
 · rcases mem_set_at hz with rfl | ⟨j, -, hj⟩
   · have hd := (h.don x (mG' hx)).keepT hg2 s9 ht2 (by decide); refine ⟨?_, ?_, ?_, fun g e => hd.lt g (by rw [hrA, hrL] at e; exact e), fun g e => by rw [hrA] at e; rw [hrL]; exact hd.ne g e⟩
     · simp only; rw [hc]; exact hd.code
     · simp only; rw [ha]; exact hd.ats
     · simp only; rw [hl]; exact hd.lines
   · exact (h.don z (mG' hj)).keepT hg2 s9 ht2 (by decide)
 · refine sep_set h.sep fun j z hj hne g hg => ?_
   rw [hrA, hrL] at hg; exact sep_at h.sep hx hj (Ne.symm hne) g hg
theorem CutM.growL (h : CutM W0 w B H0 H X m v aA ac all vs L k (some ⟨gb, 0, none⟩) bc fA fc n nk ld bm ds [] fs) {i : Nat} (hx : ds[i]? = some x) {g2 c2 : Nat} {p : Int} (ho : w1.ownsRow H0 3 1 (.slice (some ⟨g2, 0, none⟩) (x.1.lines.length + 1) c2) (x.1.lines.length + 1) (intsV .i64 x.1.lines ++ [.int .i64 p]))
 (hg : w.grownBy w1 (rowL x)) (hat : rowL x = some g2 ∨ w.heap.size ≤ g2) :
 CutM W0 (w1.setCell ⟨gb, i * 14 + 13, none⟩ (.slice (some ⟨g2, 0, none⟩) (x.1.lines.length + 1) c2)) B H0 w1.heap.size X m v aA ac all vs L k (some ⟨gb, 0, none⟩) bc fA fc n nk ld bm (ds.set i ({ x.1 with lines := x.1.lines ++ [p] }, { x.2 with lA := some ⟨g2, 0, none⟩, lc := c2 })) [] fs := by
 obtain ⟨s1, s2, s3, s4, s5, s6, s7, s8, s9⟩ := h.hs; obtain ⟨h1, h2, h3⟩ := h.rows; have hdx := h.don x (mG' hx); have hr0 : ∀ g, rowL x = some g → H0 ≤ g := fun g e => (World.ownsRow.lt hdx.lines g e).1
 have ht : ∀ g, rowL x = some g → TypB w g 3 := fun g e => own_typ hdx.lines e
 have hb : Below H0 w w1 := gb_below_of hg hr0 (by omega); have hz := hg.size; have hrow0 := h.row; rw [List.append_nil] at hrow0; have hrow := own_keepT hrow0 hg ht (by decide); obtain ⟨hst, hg2⟩ := hrow.stored (i * 14 + 13) (.slice (some ⟨g2, 0, none⟩) (x.1.lines.length + 1) c2); have hb0 : ∀ g, some gb = some g → H0 ≤ g := fun g e => by injection e with e; subst e; exact (World.ownsRow.lt hrow gb rfl).1
 have ht2 : ∀ g, some gb = some g → TypB w1 g 54 := fun g e => by injection e with e; subst e; exact own_typ hrow rfl
 have hbb : Below H0 w1 (w1.setCell ⟨gb, i * 14 + 13, none⟩ (.slice (some ⟨g2, 0, none⟩) (x.1.lines.length + 1) c2)) := gb_below_of hg2 hb0 (by omega); have hz2 := hg2.size; have hset := blksV_set (by decide) (.slice (some ⟨g2, 0, none⟩) (x.1.lines.length + 1) c2) (x' := ({ x.1 with lines := x.1.lines ++ [p] }, { x.2 with lA := some ⟨g2, 0, none⟩, lc := c2 })) ds i x hx (q := 13) (by simp [blkC])
 have hfn : firB fA fs.length fc = none ∨ firB fA fs.length fc ≠ rowL x := by
  rcases hv : rowL x with _ | q
  · rcases hw : firB fA fs.length fc with _ | q2
    · exact .inl rfl
    · exact .inr (by simp)
  · exact .inr (hdx.lt q (.inr hv)).2
 have hfir : w1.ownsRow H0 3 1 (.slice fA fs.length fc) fs.length (intsV .i64 fs) := gb_own h.fir hg hfn
 have hg2r : ∀ g, rowL ({ x.1 with lines := x.1.lines ++ [p] }, { x.2 with lA := some ⟨g2, 0, none⟩, lc := c2 }) = some g → g = g2 := fun g e => by
  have e' : some g2 = some g := e; injection e' with e'; exact e'.symm
 have hold : ∀ {z : BlkD × BlkV} {j : Nat}, ds[j]? = some z → j ≠ i → DoneB w1 H0 w1.heap.size (firB fA fs.length fc) z := fun {z j} hj hji => by
  have hd := h.don z (mG' hj); have hsp := sep_at h.sep hj hx hji; refine ⟨(hd.code.keepT hg s9 ht (by decide)).more (by omega), gb_own hd.ats hg ?_, gb_own hd.lines hg ?_, fun g e => ⟨by have := (hd.lt g e).1; omega, (hd.lt g e).2⟩, hd.ne⟩
  · rcases hv : (Value.slice z.2.aA z.1.ats.length z.2.ac).ownBlock with _ | q
    · exact .inl rfl
    · exact .inr fun e => (hsp q (.inl hv)).2 e.symm
  · rcases hv : (Value.slice z.2.lA z.1.lines.length z.2.lc).ownBlock with _ | q
    · exact .inl rfl
    · exact .inr fun e => (hsp q (.inr hv)).2 e.symm
 refine ⟨(h.img.below (hb.mono (by omega))).below (hbb.mono (by omega)), ⟨h1, (h2.below hb).below hbb, fun j l hj => ?_⟩, (h.ldr.gb hg (fun e => by have := hr0 L e; omega)).gb hg2 (fun e => by have := hb0 L e; omega), (h.bmr.gb hg (fun e => by have := hr0 k e; omega)).gb hg2 (fun e => by have := hb0 k e; omega), ?_, own_keepT hfir hg2 ht2 (by decide), fun g e => ?_, fun z hz => ?_, ?_, fun z hz => (by cases hz), ⟨s1, s2, s3, s4, s5, s6, s7, by omega, by omega⟩, (h.bel.trans (hb.mono (by omega))).trans (hbb.mono (by omega))⟩
 · obtain ⟨A, c, k1, k2⟩ := h3 j l hj; exact ⟨A, c, k1, (k2.below hb).below hbb⟩
 · rw [List.append_nil, List.length_set, ← hset]; exact hst
 · have := h.firH g e; omega
 · rcases mem_set_at hz with rfl | ⟨j, hji, hj⟩
   · refine DoneB.keepT (H := w1.heap.size) ⟨(hdx.code.keepT hg s9 ht (by decide)).more (by omega), gb_own hdx.ats hg ?_, ?_, fun g e => ?_, fun g e e2 => ?_⟩ hg2 lr' ht2 (by decide)
     · rcases hv : (Value.slice x.2.aA x.1.ats.length x.2.ac).ownBlock with _ | q
       · exact .inl rfl
       · exact .inr fun e => hdx.ne q hv e.symm
     · simp only [List.length_append, List.length_cons, List.length_nil, Nat.zero_add]; have e : intsV .i64 (x.1.lines ++ [p]) = intsV .i64 x.1.lines ++ [.int .i64 p] := by simp [intsV]
       rw [e]; exact ho
     · rcases e with e | e
       · exact ⟨by have := (hdx.lt g (.inl e)).1; omega, (hdx.lt g (.inl e)).2⟩
       · have hgg := hg2r g e; subst hgg; refine ⟨(World.ownsRow.lt ho g rfl).2, fun e2 => ?_⟩; rcases hat with h4 | h4
         · exact (hdx.lt g (.inr h4)).2 e2
         · have := h.firH g e2; omega
     · have hgg := hg2r g e2; subst hgg; have e' : rowA x = some g := e; rcases hat with h4 | h4
       · exact hdx.ne g e' h4
       · have := (hdx.lt g (.inl e')).1; omega
   · exact (hold hj hji).keepT hg2 lr' ht2 (by decide)
 · refine sep_set h.sep fun j z hj hne g hg3 => ?_
   have hd := h.don z (mG' hj); have hsp := sep_at h.sep hx hj (Ne.symm hne); rcases hg3 with e | e
   · exact hsp g (.inl e)
   · have hgg := hg2r g e; subst hgg; rcases hat with h4 | h4
     · exact hsp g (.inr h4)
     · exact ⟨fun e2 => by have := (hd.lt g (.inl e2)).1; omega, fun e2 => by have := (hd.lt g (.inr e2)).1; omega⟩
theorem CutM.gbX {cur : List (BlkD × BlkV)} (h : CutM W0 w B H0 H X m v aA ac all vs L k bA bc fA fc n nk ld bm ds cur fs) (hX : TypB w X 112) (hg : w.grownBy w' (some X)) : CutM W0 w' B H0 H X m v aA ac all vs L k bA bc fA fc n nk ld bm ds cur fs := by
 obtain ⟨s1, s2, s3, s4, s5, s6, s7, s8, s9⟩ := h.hs; obtain ⟨h1, h2, h3⟩ := h.rows; have ht : ∀ g, some X = some g → TypB w g 112 := fun g e => by injection e with e; subst e; exact hX
 obtain ⟨cs, fz, hXc⟩ := hX; obtain ⟨e1, c1, hl⟩ := mapB_is h.ldr; obtain ⟨e2, c2, hk⟩ := mapI_is h.bmr
 refine ⟨h.img.below (gb_to_below hg s1 (by omega)), ⟨h1, h2.gb hg (by omega), fun j l hj => ?_⟩, h.ldr.gb hg (fun e => by injection e with e; subst e; rw [hXc] at hl; cases hl), h.bmr.gb hg (fun e => by injection e with e; subst e; rw [hXc] at hk; cases hk), own_keepT h.row hg ht (by decide), own_keepT h.fir hg ht (by decide), h.firH,
  fun x hx => (h.don x hx).keepT hg s9 ht (by decide), h.sep,
  fun x hx => ⟨own_keepT (h.cu x hx).code hg ht (by decide), own_keepT (h.cu x hx).ats hg ht (by decide), own_keepT (h.cu x hx).lines hg ht (by decide), (h.cu x hx).ne⟩, ⟨s1, s2, s3, s4, s5, s6, s7, s8, Nat.le_trans s9 hg.size⟩, h.bel.trans (gb_to_below hg s1 (by omega))⟩
 obtain ⟨A, c, k1, k2⟩ := h3 j l hj; exact ⟨A, c, k1, k2.gb hg (by omega)⟩
theorem CutM.cell (h : CutM W0 w B H0 H X m v aA ac all vs L k (some ⟨gb, 0, none⟩) bc fA fc n nk ld bm ds [] fs) {i : Nat} (hx : ds[i]? = some x) (q : Nat) (u : Value) (hu : (blkC x.1 x.2)[q]? = some u) : w.cell? ⟨gb, i * 14 + q, none⟩ = some u ∧ w.frozen? ⟨gb, i * 14 + q, none⟩ = false ∧ gb < w.heap.size := by
 have hrow := h.row; rw [List.append_nil] at hrow; exact own_cellf hrow (blksV_at hx q u hu)
end
def BlkOk (K : Nat) (b : BlkD) : Prop := N64 b.dst ∧ N64 b.els ∧ 1 ≤ b.lines.length ∧ b.lines.length ≤ K
theorem BlkOk.more {K K' : Nat} {b : BlkD} (h : BlkOk K b) (hK : K ≤ K') : BlkOk K' b := ⟨h.1, h.2.1, h.2.2.1, by have := h.2.2.2; omega⟩
theorem addB_ok {m : Img} {s : Sp} {b : BlkD} {K : Nat} (hs : SpOk s) (_h1 : N64 b.dst) (h2 : N64 b.els) (h3 : b.lines.length ≤ K) : BlkOk (K + 1) (addB m s b) := by
 obtain ⟨⟨p1, p2⟩, ⟨z1, z2⟩, ⟨n1, n2⟩, -⟩ := hs; unfold addB
 split
 · exact ⟨by unfold N64; simp only; omega, by unfold N64; simp only; omega, by simp, by simp; omega⟩
 · split
   · exact ⟨by unfold N64; simp only; omega, h2, by simp, by simp; omega⟩
   · split
     · exact ⟨by unfold N64; simp only; omega, h2, by simp, by simp; omega⟩
     · exact ⟨by unfold N64; simp only; omega, h2, by simp, by simp; omega⟩
theorem cutS_ok {m : Img} {ld : Int → Bool} {f : Int} {c : CutD} {s : Sp} {K : Nat} (hs : SpOk s) (hc : ∀ b ∈ c.bs, BlkOk K b) : ∀ b ∈ (cutS m ld f c s).bs, BlkOk (K + 1) b := by
 intro b hb; unfold cutS beginS at hb; simp only at hb
 split at hb
 · simp only at hb; rw [modLast_snoc] at hb; rcases List.mem_append.1 hb with hb | hb
   · exact (hc b hb).more (by omega)
   · rw [List.mem_singleton] at hb; subst hb; exact addB_ok hs (by unfold newB N64; simp) (by unfold newB N64; simp) (by unfold newB; simp)
 · rcases List.eq_nil_or_concat c.bs with e | ⟨l, x, e⟩
   · rw [e] at hb
     cases hb
   · rw [List.concat_eq_append] at e; rw [e, modLast_snoc] at hb; have hx := hc x (by rw [e]; simp); rcases List.mem_append.1 hb with hb | hb
     · exact (hc b (by rw [e]; simp [hb])).more (by omega)
     · rw [List.mem_singleton] at hb; subst hb; exact addB_ok hs hx.1 hx.2.1 hx.2.2.2
theorem finCut_ok {m : Img} {ld : Int → Bool} {f : Int} : ∀ (l : List Sp) (c : CutD) (K : Nat), (∀ s ∈ l, SpOk s) → (∀ b ∈ c.bs, BlkOk K b) → ∀ b ∈ (finCut m ld f l c).bs, BlkOk (K + l.length) b
 | [], c, K, _, hc => hc
 | s :: r, c, K, hs, hc => by
  have h := finCut_ok (m := m) (ld := ld) (f := f) r (cutS m ld f c s) (K + 1) (fun t ht => hs t (by simp [ht])) (cutS_ok (hs s (by simp)) hc); intro b hb; rw [List.length_cons, show K + (r.length + 1) = K + 1 + r.length by omega]; exact h b hb
end Go.Proofs.YtcdlgjhdbmmomaaGreatDoor
