/- The finder of blocks: what cut and join do, in plain words. -/
import Derived.Test.YtlekjnnofhjgjaaDoorFlowE
import Derived.Test.YtlekjnnofhjgjaaDoorAsmG
namespace Go.Proofs.YtlekjnnofhjgjaaDoor
open Go.RowKit
/-- a block -/
structure BlkD where
  fn : Int
  start : Int
  code : List Ins
  ats : List Int
  last : Ins
  ends : Int
  dst : Int
  els : Int
  lines : List Int
/-- a block that has just begun -/
def newB (f p : Int) : BlkD := ⟨f, p, [], [], ⟨0, 0, 0, 0, 0, false⟩, 2, 0, 0, []⟩
/-- a spot put into its block -/
def addB (m : Img) (s : Sp) (b : BlkD) : BlkD :=
  if branchI s.i = true then { b with ats := b.ats ++ [s.p], lines := b.lines ++ [lineAtF s.p 0 m.lines], ends := 4, last := ⟨s.i.k, 0, s.i.a, s.i.b, 0, false⟩, dst := s.p + s.i.n, els := s.p + s.z }
  else if s.i.k = 22 then { b with ats := b.ats ++ [s.p], lines := b.lines ++ [lineAtF s.p 0 m.lines], ends := 3, dst := s.p + s.i.n }
  else if stopsI s.i = true then { b with ats := b.ats ++ [s.p], lines := b.lines ++ [lineAtF s.p 0 m.lines], code := b.code ++ [finPl m.funcs s], ends := 1, dst := 0 }
  else { b with ats := b.ats ++ [s.p], lines := b.lines ++ [lineAtF s.p 0 m.lines], code := b.code ++ [finPl m.funcs s], dst := s.p + s.z }
/-- the last one turned -/
def modLast (f : BlkD → BlkD) (l : List BlkD) : List BlkD := l.modify (l.length - 1) f
/-- the blocks and the places of their beginnings -/
structure CutD where
  bs : List BlkD
  bm : Int → Option Int
def beginS (ld : Int → Bool) (f : Int) (s : Sp) (c : CutD) : CutD := if ld s.p = true then ⟨c.bs ++ [newB f s.p], upF c.bm s.p (some c.bs.length)⟩ else c
def cutS (m : Img) (ld : Int → Bool) (f : Int) (c : CutD) (s : Sp) : CutD := ⟨modLast (addB m s) (beginS ld f s c).bs, (beginS ld f s c).bm⟩
def finCut (m : Img) (ld : Int → Bool) (f : Int) (l : List Sp) (c : CutD) : CutD := l.foldl (cutS m ld f) c
theorem finCut_snoc (m : Img) (ld : Int → Bool) (f : Int) (l : List Sp) (s : Sp) (c : CutD) : finCut m ld f (l ++ [s]) c = cutS m ld f (finCut m ld f l c) s := by simp [finCut]
/-- join, of one block -/
def joinB (bm : Int → Option Int) (b : BlkD) : BlkD :=
  let b1 : BlkD := if b.ends = 1 then b else { b with dst := (bm b.dst).getD 0 }
  let b2 : BlkD := if b.ends = 4 then { b1 with els := (bm b.els).getD 0 } else b1
  if b.ends = 1 ∨ b.ends = 2 then { b2 with lines := b.lines ++ [b.lines.getLastD 0] } else b2
/-- what Recover finds -/
structure FlowD where
  blocks : List BlkD
  tables : List (List Int)
  firsts : List Int
def finOwn : List (List Sp) → Int → (Int → Option Int) → (Int → Option Int)
  | [], _, own => own
  | l :: r, f, own => finOwn r (f + 1) (l.foldl (fun o s => upF o s.p (some f)) own)
def sweepAll (text : List Int) : List FnD → Option (List (List Sp))
  | [] => some []
  | f :: r => (sweepL text f).bind fun l => (sweepAll text r).map (l :: ·)
def tabsLd (own : Int → Option Int) : List Int → (Int → Bool) → Option (Int → Bool)
  | [], ld => some ld
  | a :: r, ld => if (own a).isSome = true then tabsLd own r (upF ld a true) else none
def markAll (m : Img) (own : Int → Option Int) : List (FnD × List Sp) → Int → (Int → Bool) → Option (Int → Bool)
  | [], _, ld => some ld
  | x :: r, f, ld => (markGo m own f x.2 (upF ld x.1.start true)).bind (markAll m own r (f + 1))
def cutAll (m : Img) (ld : Int → Bool) : List (List Sp) → Int → CutD → List Int → CutD × List Int
  | [], _, c, fs => (c, fs)
  | l :: r, f, c, fs => cutAll m ld r (f + 1) (finCut m ld f l c) (fs ++ [(c.bs.length : Int)])
/-- flow.Recover of an image that image.Check lets pass (text at most 8000 long); none: ErrCode -/
def recL (m : Img) : Option FlowD :=
  (sweepAll m.text m.funcs).bind fun all =>
  (tabsLd (finOwn all 0 fun _ => none) m.tables.flatten fun _ => false).bind fun ld0 =>
  (markAll m (finOwn all 0 fun _ => none) (m.funcs.zip all) 0 ld0).map fun ld =>
    let c := cutAll m ld all 0 ⟨[], fun _ => none⟩ []
    ⟨c.1.bs.map (joinB c.1.bm), m.tables.map fun t => t.map fun a => (c.1.bm a).getD 0, c.2⟩
end Go.Proofs.YtlekjnnofhjgjaaDoor
