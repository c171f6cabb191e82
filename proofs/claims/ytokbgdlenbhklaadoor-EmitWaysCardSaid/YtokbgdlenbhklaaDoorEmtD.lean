/- The image that Emit's program puts together, in memory; the words for its parts. -/
import Derived.Test.YtokbgdlenbhklaaDoorEmtM
import Derived.Test.YtokbgdlenbhklaaDoorImgX
namespace Go.Proofs.YtokbgdlenbhklaaDoor
open Go.RowKit
structure OutS (w0 w : World) (O b0 : Nat) (m : Img) (v : ImgV) : Prop where
 bel : Below w0.heap.size w0 w
 oge : w0.heap.size ≤ O
 blk : Blk w O 41 [.slice v.tA m.text.length v.tc, .slice v.fA m.funcs.length v.fc, .slice v.bA m.tables.length v.bc, .slice v.dA m.data.length v.dc, .slice v.lA m.lines.length v.lc, .int .i64 m.entry]
 tx : OwnB w w0.heap.size (.slice v.tA m.text.length v.tc) m.text
 fn : w.ownsRow w0.heap.size 73 3 (.slice v.fA m.funcs.length v.fc) m.funcs.length (funcsV m.funcs)
 dt : w.ownsRow w0.heap.size 3 1 (.slice v.dA m.data.length v.dc) m.data.length (intsV .i64 m.data)
 ln : w.ownsRow w0.heap.size 109 2 (.slice v.lA m.lines.length v.lc) m.lines.length (linesV m.lines)
 tb : TabsAt w b0 (.slice v.bA m.tables.length v.bc) m.tables
 bge : w0.heap.size ≤ b0
 ble : b0 ≤ w.heap.size
 dlt : ∀ q, (Value.slice v.dA m.data.length v.dc).ownBlock = some q → q < b0
theorem OutS.own {w0 w : World} {O b0 : Nat} {m : Img} {v : ImgV} (h : OutS w0 w O b0 m v) : ImgOwn w w0.heap.size m v := ⟨h.tx, h.fn, h.dt, h.ln, b0, h.bge, h.tb, h.dlt⟩
theorem OutS.keep {w0 w w1 : World} {O b0 : Nat} {m : Img} {v : ImgV} (h : OutS w0 w O b0 m v) (hb : Below w.heap.size w w1) : OutS w0 w1 O b0 m v :=
 ⟨h.bel.trans (hb.mono h.bel.size), h.oge, h.blk.keep hb, own_keep h.tx hb, own_keep h.fn hb, own_keep h.dt hb, own_keep h.ln hb, h.tb.keep hb, h.bge, Nat.le_trans h.ble hb.size, h.dlt⟩
theorem OutS.var {w0 w w1 : World} {O b0 : Nat} {m : Img} {v : ImgV} (h : OutS w0 w O b0 m v) {r : Option Nat} {T : TypeId} (hg : w.grownBy w1 r) (hr : ∀ g, r = some g → TypB w g T) (hT : 41 ≠ T) : Blk w1 O 41 [.slice v.tA m.text.length v.tc, .slice v.fA m.funcs.length v.fc, .slice v.bA m.tables.length v.bc, .slice v.dA m.data.length v.dc, .slice v.lA m.lines.length v.lc, .int .i64 m.entry] := h.blk.keepT hg hr hT
theorem TabsAt.row {w : World} {base : Nat} {v : Value} {ts : List (List Int)} (h : TabsAt w base v ts) : ∃ vs, w.ownsRow base 38 1 v ts.length vs := by
 obtain ⟨A, c, vs, -, h2, -⟩ := h; exact ⟨vs, h2⟩
theorem TabsAt.growT {w w1 : World} {base : Nat} {v : Value} {ts : List (List Int)} {r : Option Nat} {T : TypeId} (h : TabsAt w base v ts) (hg : w.grownBy w1 r) (hr : ∀ g, r = some g → TypB w g T) (hT : 3 ≠ T ∧ 38 ≠ T) : TabsAt w1 base v ts := by
 refine h.gbT hg ?_ hr hT.1; obtain ⟨vs, hv⟩ := h.row; rcases hvo : v.ownBlock with _ | g
 · exact .inl rfl
 · refine .inr fun e => ?_
   obtain ⟨cs, fz, k1⟩ := own_typ hv hvo; obtain ⟨cs2, fz2, k2⟩ := hr g e.symm; rw [k1] at k2; injection k2 with k2; injection k2 with _ k3 _; exact hT.2 k3
theorem OutS.text {w0 w w1 : World} {O b0 n c' : Nat} {m : Img} {v : ImgV} {A' : Option Addr} {L' : List Int} (h : OutS w0 w O b0 m v) (hg : w.grownBy w1 (Value.slice v.tA m.text.length v.tc).ownBlock) (ho : OwnB w1 w0.heap.size (.slice A' n c') L') (hn : L'.length = n) :
 OutS w0 (w1.setCell ⟨O, 0, none⟩ (.slice A' n c')) O b0 { m with text := L' } { v with tA := A', tc := c' } := by
 subst hn; have hr : ∀ g, (Value.slice v.tA m.text.length v.tc).ownBlock = some g → TypB w g 5 := fun g e => own_typ h.tx e
 have hb1 := h.var hg hr (by decide); have gX := gb_setCell (gb_refl w1 (some O)) 0 (.slice A' L'.length c'); have tX : ∀ g, some O = some g → TypB w1 g 41 := fun g e => by injection e with e; subst e; exact hb1.typ
 exact ⟨below_gb (below_gb h.bel hg (fun g e => (World.ownsRow.lt h.tx g e).1)) gX (fun g e => by injection e with e; subst e; exact h.oge), h.oge, hb1.set 0 _, own_keepT ho gX tX (by decide), own_keepT (own_keepT h.fn hg hr (by decide)) gX tX (by decide), own_keepT (own_keepT h.dt hg hr (by decide)) gX tX (by decide), own_keepT (own_keepT h.ln hg hr (by decide)) gX tX (by decide),
  (h.tb.growT hg hr (by decide)).growT gX tX (by decide), h.bge, Nat.le_trans h.ble (Nat.le_trans hg.size gX.size), h.dlt⟩
theorem OutS.func {w0 w w1 : World} {O b0 n c' : Nat} {m : Img} {v : ImgV} {A' : Option Addr} {L' : List FnD} (h : OutS w0 w O b0 m v) (hg : w.grownBy w1 (Value.slice v.fA m.funcs.length v.fc).ownBlock) (ho : w1.ownsRow w0.heap.size 73 3 (.slice A' n c') n (funcsV L')) (hn : L'.length = n) :
 OutS w0 (w1.setCell ⟨O, 1, none⟩ (.slice A' n c')) O b0 { m with funcs := L' } { v with fA := A', fc := c' } := by
 subst hn; have hr : ∀ g, (Value.slice v.fA m.funcs.length v.fc).ownBlock = some g → TypB w g 73 := fun g e => own_typ h.fn e
 have hb1 := h.var hg hr (by decide); have gX := gb_setCell (gb_refl w1 (some O)) 1 (.slice A' L'.length c'); have tX : ∀ g, some O = some g → TypB w1 g 41 := fun g e => by injection e with e; subst e; exact hb1.typ
 exact ⟨below_gb (below_gb h.bel hg (fun g e => (World.ownsRow.lt h.fn g e).1)) gX (fun g e => by injection e with e; subst e; exact h.oge), h.oge, hb1.set 1 _, own_keepT (own_keepT h.tx hg hr (by decide)) gX tX (by decide), own_keepT ho gX tX (by decide), own_keepT (own_keepT h.dt hg hr (by decide)) gX tX (by decide), own_keepT (own_keepT h.ln hg hr (by decide)) gX tX (by decide),
  (h.tb.growT hg hr (by decide)).growT gX tX (by decide), h.bge, Nat.le_trans h.ble (Nat.le_trans hg.size gX.size), h.dlt⟩
theorem OutS.line {w0 w w1 : World} {O b0 n c' : Nat} {m : Img} {v : ImgV} {A' : Option Addr} {L' : List (Int × Int)} (h : OutS w0 w O b0 m v) (hg : w.grownBy w1 (Value.slice v.lA m.lines.length v.lc).ownBlock) (ho : w1.ownsRow w0.heap.size 109 2 (.slice A' n c') n (linesV L')) (hn : L'.length = n) :
 OutS w0 (w1.setCell ⟨O, 4, none⟩ (.slice A' n c')) O b0 { m with lines := L' } { v with lA := A', lc := c' } := by
 subst hn; have hr : ∀ g, (Value.slice v.lA m.lines.length v.lc).ownBlock = some g → TypB w g 109 := fun g e => own_typ h.ln e
 have hb1 := h.var hg hr (by decide); have gX := gb_setCell (gb_refl w1 (some O)) 4 (.slice A' L'.length c'); have tX : ∀ g, some O = some g → TypB w1 g 41 := fun g e => by injection e with e; subst e; exact hb1.typ
 exact ⟨below_gb (below_gb h.bel hg (fun g e => (World.ownsRow.lt h.ln g e).1)) gX (fun g e => by injection e with e; subst e; exact h.oge), h.oge, hb1.set 4 _, own_keepT (own_keepT h.tx hg hr (by decide)) gX tX (by decide), own_keepT (own_keepT h.fn hg hr (by decide)) gX tX (by decide), own_keepT (own_keepT h.dt hg hr (by decide)) gX tX (by decide), own_keepT ho gX tX (by decide),
  (h.tb.growT hg hr (by decide)).growT gX tX (by decide), h.bge, Nat.le_trans h.ble (Nat.le_trans hg.size gX.size), h.dlt⟩
theorem OutS.tabs {w0 w w1 : World} {O b0 n c' : Nat} {m : Img} {v : ImgV} {A' : Option Addr} {L' : List (List Int)} (h : OutS w0 w O b0 m v) (hg : w.grownBy w1 (Value.slice v.bA m.tables.length v.bc).ownBlock) (ho : TabsAt w1 b0 (.slice A' n c') L') (hn : L'.length = n) :
 OutS w0 (w1.setCell ⟨O, 2, none⟩ (.slice A' n c')) O b0 { m with tables := L' } { v with bA := A', bc := c' } := by
 subst hn; obtain ⟨vs, hv⟩ := h.tb.row; have hr : ∀ g, (Value.slice v.bA m.tables.length v.bc).ownBlock = some g → TypB w g 38 := fun g e => own_typ hv e
 have hb1 := h.var hg hr (by decide); have gX := gb_setCell (gb_refl w1 (some O)) 2 (.slice A' L'.length c'); have tX : ∀ g, some O = some g → TypB w1 g 41 := fun g e => by injection e with e; subst e; exact hb1.typ
 exact ⟨below_gb (below_gb h.bel hg (fun g e => Nat.le_trans h.bge (World.ownsRow.lt hv g e).1)) gX (fun g e => by injection e with e; subst e; exact h.oge), h.oge, hb1.set 2 _, own_keepT (own_keepT h.tx hg hr (by decide)) gX tX (by decide), own_keepT (own_keepT h.fn hg hr (by decide)) gX tX (by decide), own_keepT (own_keepT h.dt hg hr (by decide)) gX tX (by decide), own_keepT (own_keepT h.ln hg hr (by decide)) gX tX (by decide),
  ho.growT gX tX (by decide), h.bge, Nat.le_trans h.ble (Nat.le_trans hg.size gX.size), h.dlt⟩
theorem OutS.entry {w0 w : World} {O b0 : Nat} {m : Img} {v : ImgV} (h : OutS w0 w O b0 m v) (x : Int) : OutS w0 (w.setCell ⟨O, 5, none⟩ (.int .i64 x)) O b0 { m with entry := x } v := by
 have gX := gb_setCell (gb_refl w (some O)) 5 (.int .i64 x); have tX : ∀ g, some O = some g → TypB w g 41 := fun g e => by injection e with e; subst e; exact h.blk.typ
 exact ⟨below_gb h.bel gX (fun g e => by injection e with e; subst e; exact h.oge), h.oge, h.blk.set 5 _, own_keepT h.tx gX tX (by decide), own_keepT h.fn gX tX (by decide), own_keepT h.dt gX tX (by decide), own_keepT h.ln gX tX (by decide), h.tb.growT gX tX (by decide), h.bge, Nat.le_trans h.ble gX.size, h.dlt⟩
theorem outFuncs_at (m : Img) (s : MkD) (its : List ItD) (size : Int) : ∀ (l : List PartD) (k : Nat) (p : PartD), l[k]? = some p →
 (outFuncs m s its size l)[k]? = some ⟨(m.funcs.getD p.fn.toNat ⟨⟨#[]⟩, 0, 0⟩).name, addrK its size (s.begin_.getD p.fn.toNat 0), ((l[k + 1]?).map fun q => addrK its size (s.begin_.getD q.fn.toNat 0)).getD size - addrK its size (s.begin_.getD p.fn.toNat 0)⟩
 | [], k, p, h => by simp at h
 | x :: r, 0, p, h => by
  simp only [List.getElem?_cons_zero, Option.some.injEq] at h; subst h; unfold outFuncs
  cases r <;> rfl
 | x :: r, k + 1, p, h => by
  rw [List.getElem?_cons_succ] at h; unfold outFuncs; rw [List.getElem?_cons_succ, outFuncs_at m s its size r k p h, List.getElem?_cons_succ]
theorem outFuncs_len (m : Img) (s : MkD) (its : List ItD) (size : Int) : ∀ l : List PartD, (outFuncs m s its size l).length = l.length
 | [] => rfl
 | x :: r => by
  unfold outFuncs; rw [List.length_cons, outFuncs_len m s its size r]
  rfl
theorem outEntry_take (e : Int) : ∀ (l : List PartD) (x k : Int) (j : Nat) (p : PartD), l[j]? = some p → outEntry e x k (l.take (j + 1)) = if p.fn = e then k + j else outEntry e x k (l.take j)
 | [], x, k, j, p, h => by simp at h
 | q :: r, x, k, 0, p, h => by
  simp only [List.getElem?_cons_zero, Option.some.injEq] at h; subst h; simp [outEntry]
 | q :: r, x, k, j + 1, p, h => by
  rw [List.getElem?_cons_succ] at h; rw [List.take_succ_cons, List.take_succ_cons]; unfold outEntry; rw [outEntry_take e r _ _ j p h]
  split
  · push_cast
    omega
  · rfl
def lnAft : Int → List ItD → Int
 | q, [] => q
 | _, t :: r => lnAft t.line r
theorem lnAft_snoc (t : ItD) : ∀ (l : List ItD) (q : Int), lnAft q (l ++ [t]) = t.line
 | [], _ => rfl
 | x :: r, _ => lnAft_snoc t r x.line
theorem itLines_snoc (t : ItD) : ∀ (l : List ItD) (q : Int), itLines q (l ++ [t]) = itLines q l ++ (if t.line ≠ lnAft q l then [(t.pos, t.line)] else [])
 | [], _ => rfl
 | x :: r, q => by
  have h1 := itLines_snoc t r x.line; have h2 := itLines_snoc t r q
  by_cases h : x.line = q
  · have e1 : itLines q ((x :: r) ++ [t]) = itLines q (r ++ [t]) := if_neg (by simpa using h); have e2 : itLines q (x :: r) = itLines q r := if_neg (by simpa using h); have e3 : lnAft q (x :: r) = lnAft q r := by rw [← h]; cases r <;> rfl
    rw [e1, e2, e3]; exact h2
  · have e1 : itLines q ((x :: r) ++ [t]) = (x.pos, x.line) :: itLines x.line (r ++ [t]) := if_pos h; have e2 : itLines q (x :: r) = (x.pos, x.line) :: itLines x.line r := if_pos h; have e3 : lnAft q (x :: r) = lnAft x.line r := rfl; rw [e1, e2, e3, h1]
    rfl
theorem itLines_len : ∀ (l : List ItD) (q : Int), (itLines q l).length ≤ l.length
 | [], _ => Nat.le_refl _
 | t :: r, q => by
  have h1 := itLines_len r t.line; have h2 := itLines_len r q; simp only [itLines]
  split <;> simp only [List.length_cons] <;> omega
def txtL (its : List ItD) (s : MkD) (l : List ItD) : List Int := (l.map (resIt its s)).flatMap Ins.enc
theorem txtL_snoc (its : List ItD) (s : MkD) (l : List ItD) (t : ItD) : txtL its s (l ++ [t]) = txtL its s l ++ (resIt its s t).enc := by simp [txtL]
theorem linesV_snoc2 (L : List (Int × Int)) (x : Int × Int) : linesV (L ++ [x]) = linesV L ++ [.int .i64 x.1, .int .i64 x.2] := by simp [linesV, lineV]
structure PgOk (m : Img) (d : FlowD) (l : List PartD) (s : MkD) (its : List ItD) : Prop where
 nf : s.begin_.length = m.funcs.length
 nl : l.length ≤ 1000
 ni : its.length ≤ 100000
 nt : d.tables.length ≤ 1000
 parts : ∀ p ∈ l, 0 ≤ p.fn ∧ p.fn < m.funcs.length
 beg : ∀ x ∈ s.begin_, 0 ≤ x ∧ x ≤ its.length
 blk : ∀ t ∈ its, 0 ≤ t.blk → t.blk < s.first.length ∧ 0 ≤ s.first.getD t.blk.toNat 0 ∧ s.first.getD t.blk.toNat 0 < its.length
 fn : ∀ t ∈ its, 0 ≤ t.fn → t.fn < s.begin_.length ∧ 0 ≤ s.begin_.getD t.fn.toNat 0 ∧ s.begin_.getD t.fn.toNat 0 < its.length
 chk : ∀ t ∈ its, (resIt its s t).chk = 0
 pos : ∀ t ∈ its, 0 ≤ t.pos ∧ t.pos ≤ 400000
 tabs : ∀ t ∈ d.tables, t.length ≤ 1000 ∧ ∀ b ∈ t, 0 ≤ b ∧ b < s.first.length ∧ 0 ≤ s.first.getD b.toNat 0 ∧ s.first.getD b.toNat 0 < its.length
theorem PgOk.posAt {m : Img} {d : FlowD} {l : List PartD} {s : MkD} {its : List ItD} (h : PgOk m d l s its) (k : Int) : 0 ≤ posAt its k ∧ posAt its k ≤ 400000 := by
 unfold Proofs.YtokbgdlenbhklaaDoor.posAt; rcases hk : its[k.toNat]? with _ | t
 · simp
 · exact h.pos t (List.mem_of_getElem? hk)
theorem PgOk.addr {m : Img} {d : FlowD} {l : List PartD} {s : MkD} {its : List ItD} (h : PgOk m d l s its) {size : Int} (hs : 0 ≤ size ∧ size ≤ 400000) (k : Int) : 0 ≤ addrK its size k ∧ addrK its size k ≤ 400000 := by
 unfold addrK
 split
 · exact h.posAt k
 · exact hs
theorem txtL_len {its l : List ItD} {s : MkD} (h : ∀ t ∈ l, (resIt its s t).chk = 0) : (txtL its s l).length ≤ 4 * l.length := by
 induction l with
 | nil => simp [txtL]
 | cons t r ih =>
  have h1 := ih fun u hu => h u (by simp [hu])
  have h2 := (enc_pos (h t (by simp))).2; have e : txtL its s (t :: r) = (resIt its s t).enc ++ txtL its s r := rfl; rw [e, List.length_append, List.length_cons]; omega
def PgPost (w : World) (x : Img) (e : Ending) (w' : World) : Prop := Below w.heap.size w w' ∧ ∃ v : ImgV, e = .returned (.agg (x.val v)) ∧ ImgOwn w' w.heap.size x v
end Go.Proofs.YtokbgdlenbhklaaDoor
