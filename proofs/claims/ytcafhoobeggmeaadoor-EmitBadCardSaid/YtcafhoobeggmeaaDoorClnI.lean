/- slices.Clone of numbers. -/
import Derived.Test.YtcafhoobeggmeaaDoorFlowN
import Derived.Test.YtcafhoobeggmeaaDoorImgX
import Derived.Lib.SliceRun
import Derived.Deep.DeepCutAuto
import Derived.IntWalk
import Derived.WalkLawsBesides
namespace Go.Proofs.YtcafhoobeggmeaaDoor
open Go.RowKit
structure OutS (w0 w : World) (O b0 : Nat) (m : Img) (v : ImgV) : Prop where
 bel : Below w0.heap.size w0 w
 oge : w0.heap.size ≤ O
 blk : Blk w O 42 [.slice v.tA m.text.length v.tc, .slice v.fA m.funcs.length v.fc, .slice v.bA m.tables.length v.bc, .slice v.dA m.data.length v.dc, .slice v.lA m.lines.length v.lc, .int .i64 m.entry]
 tx : OwnB w w0.heap.size (.slice v.tA m.text.length v.tc) m.text
 fn : w.ownsRow w0.heap.size 72 3 (.slice v.fA m.funcs.length v.fc) m.funcs.length (funcsV m.funcs)
 dt : w.ownsRow w0.heap.size 3 1 (.slice v.dA m.data.length v.dc) m.data.length (intsV .i64 m.data)
 ln : w.ownsRow w0.heap.size 106 2 (.slice v.lA m.lines.length v.lc) m.lines.length (linesV m.lines)
 tb : TabsAt w b0 (.slice v.bA m.tables.length v.bc) m.tables
 bge : w0.heap.size ≤ b0
 ble : b0 ≤ w.heap.size
 dlt : ∀ q, (Value.slice v.dA m.data.length v.dc).ownBlock = some q → q < b0
theorem OutS.own {w0 w : World} {O b0 : Nat} {m : Img} {v : ImgV} (h : OutS w0 w O b0 m v) : ImgOwn w w0.heap.size m v := ⟨h.tx, h.fn, h.dt, h.ln, b0, h.bge, h.tb, h.dlt⟩
theorem OutS.keep {w0 w w1 : World} {O b0 : Nat} {m : Img} {v : ImgV} (h : OutS w0 w O b0 m v) (hb : Below w.heap.size w w1) : OutS w0 w1 O b0 m v :=
 ⟨h.bel.trans (hb.mono h.bel.size), h.oge, h.blk.keep hb, own_keep h.tx hb, own_keep h.fn hb, own_keep h.dt hb, own_keep h.ln hb, h.tb.keep hb, h.bge, Nat.le_trans h.ble hb.size, h.dlt⟩
theorem OutS.var {w0 w w1 : World} {O b0 : Nat} {m : Img} {v : ImgV} (h : OutS w0 w O b0 m v) {r : Option Nat} {T : TypeId} (hg : w.grownBy w1 r) (hr : ∀ g, r = some g → TypB w g T) (hT : 42 ≠ T) : Blk w1 O 42 [.slice v.tA m.text.length v.tc, .slice v.fA m.funcs.length v.fc, .slice v.bA m.tables.length v.bc, .slice v.dA m.data.length v.dc, .slice v.lA m.lines.length v.lc, .int .i64 m.entry] := h.blk.keepT hg hr hT
theorem TabsAt.row {w : World} {base : Nat} {v : Value} {ts : List (List Int)} (h : TabsAt w base v ts) : ∃ vs, w.ownsRow base 35 1 v ts.length vs := by
 obtain ⟨A, c, vs, -, h2, -⟩ := h; exact ⟨vs, h2⟩
theorem TabsAt.growT {w w1 : World} {base : Nat} {v : Value} {ts : List (List Int)} {r : Option Nat} {T : TypeId} (h : TabsAt w base v ts) (hg : w.grownBy w1 r) (hr : ∀ g, r = some g → TypB w g T) (hT : 3 ≠ T ∧ 35 ≠ T) : TabsAt w1 base v ts := by
 refine h.gbT hg ?_ hr hT.1; obtain ⟨vs, hv⟩ := h.row; rcases hvo : v.ownBlock with _ | g
 · exact .inl rfl
 · refine .inr fun e => ?_
   obtain ⟨cs, fz, k1⟩ := own_typ hv hvo; obtain ⟨cs2, fz2, k2⟩ := hr g e.symm; rw [k1] at k2; injection k2 with k2; injection k2 with _ k3 _; exact hT.2 k3
theorem OutS.text {w0 w w1 : World} {O b0 n c' : Nat} {m : Img} {v : ImgV} {A' : Option Addr} {L' : List Int} (h : OutS w0 w O b0 m v) (hg : w.grownBy w1 (Value.slice v.tA m.text.length v.tc).ownBlock) (ho : OwnB w1 w0.heap.size (.slice A' n c') L') (hn : L'.length = n) :
 OutS w0 (w1.setCell ⟨O, 0, none⟩ (.slice A' n c')) O b0 { m with text := L' } { v with tA := A', tc := c' } := by
 subst hn; have hr : ∀ g, (Value.slice v.tA m.text.length v.tc).ownBlock = some g → TypB w g 5 := fun g e => own_typ h.tx e
 have hb1 := h.var hg hr (by decide); have gX := gb_setCell (gb_refl w1 (some O)) 0 (.slice A' L'.length c'); have tX : ∀ g, some O = some g → TypB w1 g 42 := fun g e => by injection e with e; subst e; exact hb1.typ
 exact ⟨below_gb (below_gb h.bel hg (fun g e => (World.ownsRow.lt h.tx g e).1)) gX (fun g e => by injection e with e; subst e; exact h.oge), h.oge, hb1.set 0 _, own_keepT ho gX tX (by decide), own_keepT (own_keepT h.fn hg hr (by decide)) gX tX (by decide), own_keepT (own_keepT h.dt hg hr (by decide)) gX tX (by decide), own_keepT (own_keepT h.ln hg hr (by decide)) gX tX (by decide),
  (h.tb.growT hg hr (by decide)).growT gX tX (by decide), h.bge, Nat.le_trans h.ble (Nat.le_trans hg.size gX.size), h.dlt⟩
theorem OutS.func {w0 w w1 : World} {O b0 n c' : Nat} {m : Img} {v : ImgV} {A' : Option Addr} {L' : List FnD} (h : OutS w0 w O b0 m v) (hg : w.grownBy w1 (Value.slice v.fA m.funcs.length v.fc).ownBlock) (ho : w1.ownsRow w0.heap.size 72 3 (.slice A' n c') n (funcsV L')) (hn : L'.length = n) :
 OutS w0 (w1.setCell ⟨O, 1, none⟩ (.slice A' n c')) O b0 { m with funcs := L' } { v with fA := A', fc := c' } := by
 subst hn; have hr : ∀ g, (Value.slice v.fA m.funcs.length v.fc).ownBlock = some g → TypB w g 72 := fun g e => own_typ h.fn e
 have hb1 := h.var hg hr (by decide); have gX := gb_setCell (gb_refl w1 (some O)) 1 (.slice A' L'.length c'); have tX : ∀ g, some O = some g → TypB w1 g 42 := fun g e => by injection e with e; subst e; exact hb1.typ
 exact ⟨below_gb (below_gb h.bel hg (fun g e => (World.ownsRow.lt h.fn g e).1)) gX (fun g e => by injection e with e; subst e; exact h.oge), h.oge, hb1.set 1 _, own_keepT (own_keepT h.tx hg hr (by decide)) gX tX (by decide), own_keepT ho gX tX (by decide), own_keepT (own_keepT h.dt hg hr (by decide)) gX tX (by decide), own_keepT (own_keepT h.ln hg hr (by decide)) gX tX (by decide),
  (h.tb.growT hg hr (by decide)).growT gX tX (by decide), h.bge, Nat.le_trans h.ble (Nat.le_trans hg.size gX.size), h.dlt⟩
theorem OutS.line {w0 w w1 : World} {O b0 n c' : Nat} {m : Img} {v : ImgV} {A' : Option Addr} {L' : List (Int × Int)} (h : OutS w0 w O b0 m v) (hg : w.grownBy w1 (Value.slice v.lA m.lines.length v.lc).ownBlock) (ho : w1.ownsRow w0.heap.size 106 2 (.slice A' n c') n (linesV L')) (hn : L'.length = n) :
 OutS w0 (w1.setCell ⟨O, 4, none⟩ (.slice A' n c')) O b0 { m with lines := L' } { v with lA := A', lc := c' } := by
 subst hn; have hr : ∀ g, (Value.slice v.lA m.lines.length v.lc).ownBlock = some g → TypB w g 106 := fun g e => own_typ h.ln e
 have hb1 := h.var hg hr (by decide); have gX := gb_setCell (gb_refl w1 (some O)) 4 (.slice A' L'.length c'); have tX : ∀ g, some O = some g → TypB w1 g 42 := fun g e => by injection e with e; subst e; exact hb1.typ
 exact ⟨below_gb (below_gb h.bel hg (fun g e => (World.ownsRow.lt h.ln g e).1)) gX (fun g e => by injection e with e; subst e; exact h.oge), h.oge, hb1.set 4 _, own_keepT (own_keepT h.tx hg hr (by decide)) gX tX (by decide), own_keepT (own_keepT h.fn hg hr (by decide)) gX tX (by decide), own_keepT (own_keepT h.dt hg hr (by decide)) gX tX (by decide), own_keepT ho gX tX (by decide),
  (h.tb.growT hg hr (by decide)).growT gX tX (by decide), h.bge, Nat.le_trans h.ble (Nat.le_trans hg.size gX.size), h.dlt⟩
theorem OutS.tabs {w0 w w1 : World} {O b0 n c' : Nat} {m : Img} {v : ImgV} {A' : Option Addr} {L' : List (List Int)} (h : OutS w0 w O b0 m v) (hg : w.grownBy w1 (Value.slice v.bA m.tables.length v.bc).ownBlock) (ho : TabsAt w1 b0 (.slice A' n c') L') (hn : L'.length = n) :
 OutS w0 (w1.setCell ⟨O, 2, none⟩ (.slice A' n c')) O b0 { m with tables := L' } { v with bA := A', bc := c' } := by
 subst hn; obtain ⟨vs, hv⟩ := h.tb.row; have hr : ∀ g, (Value.slice v.bA m.tables.length v.bc).ownBlock = some g → TypB w g 35 := fun g e => own_typ hv e
 have hb1 := h.var hg hr (by decide); have gX := gb_setCell (gb_refl w1 (some O)) 2 (.slice A' L'.length c'); have tX : ∀ g, some O = some g → TypB w1 g 42 := fun g e => by injection e with e; subst e; exact hb1.typ
 exact ⟨below_gb (below_gb h.bel hg (fun g e => Nat.le_trans h.bge (World.ownsRow.lt hv g e).1)) gX (fun g e => by injection e with e; subst e; exact h.oge), h.oge, hb1.set 2 _, own_keepT (own_keepT h.tx hg hr (by decide)) gX tX (by decide), own_keepT (own_keepT h.fn hg hr (by decide)) gX tX (by decide), own_keepT (own_keepT h.dt hg hr (by decide)) gX tX (by decide), own_keepT (own_keepT h.ln hg hr (by decide)) gX tX (by decide),
  ho.growT gX tX (by decide), h.bge, Nat.le_trans h.ble (Nat.le_trans hg.size gX.size), h.dlt⟩
theorem OutS.entry {w0 w : World} {O b0 : Nat} {m : Img} {v : ImgV} (h : OutS w0 w O b0 m v) (x : Int) : OutS w0 (w.setCell ⟨O, 5, none⟩ (.int .i64 x)) O b0 { m with entry := x } v := by
 have gX := gb_setCell (gb_refl w (some O)) 5 (.int .i64 x); have tX : ∀ g, some O = some g → TypB w g 42 := fun g e => by injection e with e; subst e; exact h.blk.typ
 exact ⟨below_gb h.bel gX (fun g e => by injection e with e; subst e; exact h.oge), h.oge, h.blk.set 5 _, own_keepT h.tx gX tX (by decide), own_keepT h.fn gX tX (by decide), own_keepT h.dt gX tX (by decide), own_keepT h.ln gX tX (by decide), h.tb.growT gX tX (by decide), h.bge, Nat.le_trans h.ble gX.size, h.dlt⟩
theorem outFuncs_at (m : Img) (s : MkD) (its : List ItD) (size : Int) : ∀ (l : List PartD) (k : Nat) (p : PartD), l[k]? = some p →
 (outFuncs m s its size l)[k]? = some ⟨(m.funcs.getD p.fn.toNat ⟨⟨#[]⟩, 0, 0⟩).name, addrK its size (s.begin_.getD p.fn.toNat 0), ((l[k + 1]?).map fun q => addrK its size (s.begin_.getD q.fn.toNat 0)).getD size - addrK its size (s.begin_.getD p.fn.toNat 0)⟩
 | [], k, p, h => by simp at h
 | x :: r, 0, p, h => by
  simp only [List.getElem?_cons_zero, Option.some.injEq] at h; subst h; unfold outFuncs
  cases r <;> rfl
 | x :: r, k + 1, p, h => by
  rw [List.getElem?_cons_succ] at h; unfold outFuncs; rw [List.getElem?_cons_succ, outFuncs_at m s its size r k p h, List.getElem?_cons_succ]
theorem outFuncs_len (m : Img) (s : MkD) (its : List ItD) (size : Int) : ∀ l : List PartD, (outFuncs m s its size l).length = l.length
 | [] => rfl
 | x :: r => by
  unfold outFuncs; rw [List.length_cons, outFuncs_len m s its size r]
  rfl
theorem outEntry_take (e : Int) : ∀ (l : List PartD) (x k : Int) (j : Nat) (p : PartD), l[j]? = some p → outEntry e x k (l.take (j + 1)) = if p.fn = e then k + j else outEntry e x k (l.take j)
 | [], x, k, j, p, h => by simp at h
 | q :: r, x, k, 0, p, h => by
  simp only [List.getElem?_cons_zero, Option.some.injEq] at h; subst h; simp [outEntry]
 | q :: r, x, k, j + 1, p, h => by
  rw [List.getElem?_cons_succ] at h; rw [List.take_succ_cons, List.take_succ_cons]; unfold outEntry; rw [outEntry_take e r _ _ j p h]
  split
  · push_cast
    omega
  · rfl
def lnAft : Int → List ItD → Int
 | q, [] => q
 | _, t :: r => lnAft t.line r
theorem lnAft_snoc (t : ItD) : ∀ (l : List ItD) (q : Int), lnAft q (l ++ [t]) = t.line
 | [], _ => rfl
 | x :: r, _ => lnAft_snoc t r x.line
theorem itLines_snoc (t : ItD) : ∀ (l : List ItD) (q : Int), itLines q (l ++ [t]) = itLines q l ++ (if t.line ≠ lnAft q l then [(t.pos, t.line)] else [])
 | [], _ => rfl
 | x :: r, q => by
  have h1 := itLines_snoc t r x.line; have h2 := itLines_snoc t r q
  by_cases h : x.line = q
  · have e1 : itLines q ((x :: r) ++ [t]) = itLines q (r ++ [t]) := if_neg (by simpa using h); have e2 : itLines q (x :: r) = itLines q r := if_neg (by simpa using h); have e3 : lnAft q (x :: r) = lnAft q r := by rw [← h]; cases r <;> rfl
    rw [e1, e2, e3]; exact h2
  · have e1 : itLines q ((x :: r) ++ [t]) = (x.pos, x.line) :: itLines x.line (r ++ [t]) := if_pos h; have e2 : itLines q (x :: r) = (x.pos, x.line) :: itLines x.line r := if_pos h; have e3 : lnAft q (x :: r) = lnAft x.line r := rfl; rw [e1, e2, e3, h1]
    rfl
theorem itLines_len : ∀ (l : List ItD) (q : Int), (itLines q l).length ≤ l.length
 | [], _ => Nat.le_refl _
 | t :: r, q => by
  have h1 := itLines_len r t.line; have h2 := itLines_len r q; simp only [itLines]
  split <;> simp only [List.length_cons] <;> omega
def txtL (its : List ItD) (s : MkD) (l : List ItD) : List Int := (l.map (resIt its s)).flatMap Ins.enc
theorem txtL_snoc (its : List ItD) (s : MkD) (l : List ItD) (t : ItD) : txtL its s (l ++ [t]) = txtL its s l ++ (resIt its s t).enc := by simp [txtL]
theorem linesV_snoc2 (L : List (Int × Int)) (x : Int × Int) : linesV (L ++ [x]) = linesV L ++ [.int .i64 x.1, .int .i64 x.2] := by simp [linesV, lineV]
structure PgOk (m : Img) (d : FlowD) (l : List PartD) (s : MkD) (its : List ItD) : Prop where
 nf : s.begin_.length = m.funcs.length
 nl : l.length ≤ 1000
 ni : its.length ≤ 100000
 nt : d.tables.length ≤ 1000
 parts : ∀ p ∈ l, 0 ≤ p.fn ∧ p.fn < m.funcs.length
 beg : ∀ x ∈ s.begin_, 0 ≤ x ∧ x ≤ its.length
 blk : ∀ t ∈ its, 0 ≤ t.blk → t.blk < s.first.length ∧ 0 ≤ s.first.getD t.blk.toNat 0 ∧ s.first.getD t.blk.toNat 0 < its.length
 fn : ∀ t ∈ its, 0 ≤ t.fn → t.fn < s.begin_.length ∧ 0 ≤ s.begin_.getD t.fn.toNat 0 ∧ s.begin_.getD t.fn.toNat 0 < its.length
 chk : ∀ t ∈ its, (resIt its s t).chk = 0
 pos : ∀ t ∈ its, 0 ≤ t.pos ∧ t.pos ≤ 400000
 tabs : ∀ t ∈ d.tables, t.length ≤ 1000 ∧ ∀ b ∈ t, 0 ≤ b ∧ b < s.first.length ∧ 0 ≤ s.first.getD b.toNat 0 ∧ s.first.getD b.toNat 0 < its.length
theorem PgOk.posAt {m : Img} {d : FlowD} {l : List PartD} {s : MkD} {its : List ItD} (h : PgOk m d l s its) (k : Int) : 0 ≤ posAt its k ∧ posAt its k ≤ 400000 := by
 unfold Proofs.YtcafhoobeggmeaaDoor.posAt; rcases hk : its[k.toNat]? with _ | t
 · simp
 · exact h.pos t (mG' hk)
theorem PgOk.addr {m : Img} {d : FlowD} {l : List PartD} {s : MkD} {its : List ItD} (h : PgOk m d l s its) {size : Int} (hs : 0 ≤ size ∧ size ≤ 400000) (k : Int) : 0 ≤ addrK its size k ∧ addrK its size k ≤ 400000 := by
 unfold addrK
 split
 · exact h.posAt k
 · exact hs
theorem txtL_len {its l : List ItD} {s : MkD} (h : ∀ t ∈ l, (resIt its s t).chk = 0) : (txtL its s l).length ≤ 4 * l.length := by
 induction l with
 | nil => simp [txtL]
 | cons t r ih =>
  have h1 := ih fun u hu => h u (by simp [hu])
  have h2 := (enc_pos (h t (by simp))).2; have e : txtL its s (t :: r) = (resIt its s t).enc ++ txtL its s r := rfl; rw [e, List.length_append, List.length_cons]; omega
def PgPost (w : World) (x : Img) (e : Ending) (w' : World) : Prop := Below w.heap.size w w' ∧ ∃ v : ImgV, e = .returned (.agg (x.val v)) ∧ ImgOwn w' w.heap.size x v
end Go.Proofs.YtcafhoobeggmeaaDoor
namespace Go.Proofs.YtcafhoobeggmeaaDoor
open Go.RowKit Go.Deep
theorem infoIntNOE : (Tryd.prog.info? 3).map (fun i => (i.zero, i.size, i.bytes)) = some (some (.int .i64 0), 1, 8) := by kernel_rfl
theorem app_liesOE {w : World} {ops : Array Oper} {rest : List Oper} {o : Oper} {a : Act} {Q : Exit → Act → World → Prop} (hgd : o.guard = none) (s x : Operand) (ST ET sz by_ : Nat) (z : Value)
 (hu : Tryd.prog.underlying ST = some (.slice ET)) (hinfo : (Tryd.prog.info? ET).map (fun i => (i.zero, i.size, i.bytes)) = some (some z, sz, by_)) (hzs : z.cells.size = sz) (hsz : 0 < sz)
 (ho : o.op = .call { callee := .builtin .append, args := #[s, x], argTypes := #[ST, ST] }) (base : Nat) (v : Value) (n : Nat) (xs : List Value) (hs : a.eval s = v) (hown : w.ownsRow base ET sz v n xs)
 (ad : Addr) (m c : Nat) (cs : List Value) (hx : a.eval x = .slice (some ad) m c) (hcl : cs.length = m * sz) (hb : ∀ j u, cs[j]? = some u → w.cell? (ad.add j) = some u) (h1 : ∀ u ∈ cs, u.oneCell' = true) (hm : 0 < m)
 (hn : n + m ≤ maxLen) (hn2 : (n + m) * by_ ≤ 140737488355328) (hbase : base ≤ w.heap.size) (H : Nat) (hH : w.heap.size = H)
 (h : ∀ g' cap' w', w'.ownsRow base ET sz (.slice (some ⟨g', 0, none⟩) (n + m) cap') (n + m) (xs ++ cs) → w.grownBy w' v.ownBlock → (v.ownBlock = some g' ∨ g' = H) → g' < w'.heap.size → wpList Tryd.prog ops Q rest (a.put o.dst (.slice (some ⟨g', 0, none⟩) (n + m) cap')) w') : wpList Tryd.prog ops Q (o :: rest) a w := by
 obtain ⟨i0, hi, hz0, hz1, hz2⟩ := info_parts hinfo; exact wpList_append_lies w hgd s x ST ho base ET i0 z sz by_ hu hi hz0 hz1 hz2 hzs hsz v n xs hs hown ad m c cs hx hcl hb h1 hm hn hn2 hbase H hH h
theorem ints_oneOE (l : List Int) : ∀ u ∈ intsV .i64 l, u.oneCell' = true := by
 intro u hu; unfold intsV at hu; obtain ⟨x, -, rfl⟩ := List.mem_map.1 hu
 rfl
theorem run_append_zeroE {P : Program} (w : World) (t ty e : TypeId) (i : TypeInfo) (ht : P.underlying t = some (.slice e)) (hi : P.info? e = some i) (A : Option Addr) (n c : Nat) (hn : n ≤ c) (a : Addr) (cx : Nat) :
 (Builtin.append_ #[t, t] ty #[.slice A n c, .slice (some a) 0 cx]).run P w = .ok (.slice A n c) w := by
 cases A <;> simp [Builtin.append_, run_underlying ht, sizeOf, typeInfo, hi, Builtin.lenOf, Builtin.firstCells, hn, storeCells, loadCells, loadCellsFrom]
def ClonePostE (w : World) (e : TypeId) (sz : Nat) (n : Nat) (xs : List Value) (en : Ending) (w' : World) : Prop :=
 ∃ A c, en = .returned (.slice A n c) ∧ Below w.heap.size w w' ∧ w'.ownsRow w.heap.size e sz (.slice A n c) n xs
theorem own_emptyE (w : World) (e : TypeId) (sz : Nat) : (w.alloc (.cells #[] e)).ownsRow w.heap.size e sz (.slice (some ⟨w.heap.size, 0, none⟩) 0 0) 0 [] :=
 ⟨by simp, .inr ⟨w.heap.size, 0, #[], rfl, Nat.le_refl _, heap_alloc_new w _, Nat.le_refl _, by decide, by simp, by simp⟩⟩
theorem infoC_iE : (Tryd.prog.info? 3).map (fun i => (i.zero, i.size, i.bytes)) = some (some (.int .i64 0), 1, 8) := by kernel_rfl
theorem app_zeroGE {w : World} {ops : Array Oper} {rest : List Oper} {o : Oper} {a : Act} {Q : Exit → Act → World → Prop} (hgd : o.guard = none) (s x : Operand) (ST ET sz by_ : Nat) (z : Value) (hu : Tryd.prog.underlying ST = some (.slice ET)) (hinfo : (Tryd.prog.info? ET).map (fun i => (i.zero, i.size, i.bytes)) = some (some z, sz, by_))
 (ho : o.op = .call { callee := .builtin .append, args := #[s, x], argTypes := #[ST, ST] }) (A : Option Addr) (n c : Nat) (hs : a.eval s = .slice A n c) (g : Addr) (cx : Nat) (hx : a.eval x = .slice (some g) 0 cx) (hn : n ≤ c)
 (h : wpList Tryd.prog ops Q rest (a.put o.dst (.slice A n c)) w) : wpList Tryd.prog ops Q (o :: rest) a w := by
 obtain ⟨i0, hi, hz0, hz1, hz2⟩ := info_parts hinfo; have hr := run_append_zeroE (P := Tryd.prog) w ST o.type ET i0 hu hi A n c hn g cx; refine wpList_plain hgd fun _ hK => ?_
 unfold Oper.wp execOp; simp only [ho, resolve, invoke, builtin, Sem.run_bind, Sem.run_pure, Result.andThen_ok, List.map_toArray, List.map_cons, List.map_nil, hs, hx, hr]; exact hK _ _ h
set_option maxRecDepth 100000 in
theorem clone_intE (L : List (Int)) (A : Option Addr) (n c : Nat) (w : World) (hn : L.length = n) (hA : A = none → n = 0) (hm : n ≤ 1000000) (hR : RdG w w.heap.size A ((intsV .i64) L)) :
 Calls Tryd.prog 20 #[.slice A n c] w (ClonePostE w 3 1 n ((intsV .i64) L)) := by
 rcases A with _ | ⟨g0, og0, p0⟩
 · obtain rfl := hA rfl; obtain rfl := List.length_eq_zero_iff.1 hn; have hu : (binOp .eql 35 (.slice none 0 c) (.slice none 0 0)).run Tryd.prog w = .ok (.bool true) w := by kernel_rfl
   go_enter Tryd.func20, Tryd.ntmps20
   go_wp2
   go_ret
   exact ⟨none, 0, rfl, Below.refl _ _, rfl, .inl ⟨rfl, rfl⟩⟩
 · have hu : (binOp .eql 35 (.slice (some ⟨g0, og0, p0⟩) n c) (.slice none 0 0)).run Tryd.prog w = .ok (.bool false) w := Lib.run_eql_slice_nil w _ _ _ n c 0 0 Tryd.underlying35; rcases Nat.eq_zero_or_pos n with rfl | hpos
   · obtain rfl := List.length_eq_zero_iff.1 hn
     go_enter Tryd.func20, Tryd.ntmps20
     go_wp2_with (first | (refine app_zeroGE rfl _ _ 35 3 1 8 _ Tryd.underlying35 infoC_iE rfl _ 0 0 rfl ⟨g0, og0, p0⟩ c rfl lr' ?_))
     go_ret
     exact ⟨_, 0, rfl, (Below.refl _ _).alloc lr' _, own_emptyE _ _ _⟩
   · obtain ⟨b, o, he, hb, hc⟩ := hR (fun e => by have e2 := congrArg List.length e; simp [intsV] at e2; rw [e2] at hn; simp at hn; omega); injection he with he; injection he with e1 e2 e3; subst e1 e2 e3; have HC : Hid (∀ j u, ((intsV .i64) L)[j]? = some u → (w.alloc (.cells #[] 3)).cell? ⟨g0, og0 + j, none⟩ = some u) := hd' fun j u hj => (((Below.refl w.heap.size w).alloc lr' _).cell (p := ⟨g0, og0 + j, none⟩) hb).trans (hc j u hj)
     have HC2 : Hid (∀ j u, ((intsV .i64) L)[j]? = some u → (w.alloc (.cells #[] 3)).cell? ((⟨g0, og0, none⟩ : Addr).add j) = some u) := hd' fun j u hu => by have h := HC.out j u hu; unfold Addr.add; split; (rename_i e; rw [e] at h; exact h); exact h
     have HM : Hid (0 + n ≤ maxLen ∧ (0 + n) * 8 ≤ 140737488355328) := hd' ⟨by unfold maxLen; omega, by omega⟩; have HL : Hid (((intsV .i64) L).length = n * 1) := hd' (by simp [intsV, hn]); clear hc hn hR
     go_enter Tryd.func20, Tryd.ntmps20
     go_wp2_with (first | (refine app_liesOE rfl _ _ 35 3 1 8 _ Tryd.underlying35 infoC_iE rfl (by decide) rfl w.heap.size _ 0 [] rfl (own_emptyE _ _ _) ⟨g0, og0, none⟩ n c _ rfl HL.out HC2.out (ints_oneOE _) hpos HM.out.1 HM.out.2 (by simp) (w.heap.size + 1) (by simp) ?a1))
     case a1 =>
      intro g' c' w' ho hgr hat hlt; have hb0 : Below w.heap.size w (w.alloc (.cells #[] 3)) := (Below.refl _ _).alloc lr' _; have hB : Below w.heap.size w w' := hb0.grown hgr (by simp) (fun q hq => by have e : some w.heap.size = some q := hq; injection e with e; omega); have HO := hd' ho; have HB := hd' hB; have hnm : 0 + n = n := by omega
      clear ho hgr hat hB hb0
      go_wp2
      go_ret
      exact ⟨_, c', rfl, HB.out, HO.out⟩
end Go.Proofs.YtcafhoobeggmeaaDoor
