/- the state of image.Decode while it reads, and how it turns. -/
import Derived.Test.YtdliienkbpdnbaaDoorDecW
namespace Go.Proofs.YtdliienkbpdnbaaDoor
open Go.RowKit
/-- block g of w is of type T -/
def TypB (w : World) (g : Nat) (T : TypeId) : Prop := ∃ cs fz, w.heap[g]? = some (.cells cs T fz)
theorem TypB.ne {w : World} {g g' : Nat} {T T' : TypeId} (h : TypB w g T) (h' : TypB w g' T') (hne : T ≠ T') : g ≠ g' := by
  rintro rfl
  obtain ⟨cs, fz, h1⟩ := h
  obtain ⟨cs', fz', h2⟩ := h'
  rw [h1] at h2
  injection h2 with h2
  injection h2 with _ h3 _
  exact hne h3
theorem Blk.typ {w : World} {g : Nat} {T : TypeId} {cs : List Value} (h : Blk w g T cs) : TypB w g T := ⟨_, _, h⟩
theorem own_typ {w : World} {b : Nat} {e : TypeId} {sz n : Nat} {v : Value} {xs : List Value} (h : w.ownsRow b e sz v n xs) {g : Nat} (hg : v.ownBlock = some g) : TypB w g e := by
  rcases h.2 with ⟨rfl, _⟩ | ⟨g', cap, cur, rfl, _, h2, _⟩
  · cases hg
  · simp only [Value.ownBlock] at hg
    injection hg with hg
    subst hg
    exact ⟨_, _, h2⟩
/-- where a row of another type is written, this one stays -/
theorem own_keepT {w w' : World} {b : Nat} {e T : TypeId} {sz n : Nat} {v : Value} {xs : List Value} {r : Option Nat} (h : w.ownsRow b e sz v n xs) (hg : w.grownBy w' r) (hr : ∀ g, r = some g → TypB w g T) (hne : e ≠ T) : w'.ownsRow b e sz v n xs := by
  refine gb_own h hg ?_
  rcases hv : v.ownBlock with _ | q
  · exact .inl rfl
  · right
    intro e2
    exact (own_typ h hv).ne (hr q e2.symm) hne rfl
theorem Blk.keepT {w w' : World} {g : Nat} {e T : TypeId} {cs : List Value} {r : Option Nat} (h : Blk w g e cs) (hg : w.grownBy w' r) (hr : ∀ g, r = some g → TypB w g T) (hne : e ≠ T) : Blk w' g e cs :=
  h.gb hg fun e2 => h.typ.ne (hr g e2) hne rfl
theorem own_ltH {w w' : World} {b H : Nat} {e : TypeId} {sz n : Nat} {v : Value} {xs : List Value} (h : w.ownsRow b e sz v n xs) (hb : Below H w w') (hH : ∀ g, v.ownBlock = some g → g < H) : w'.ownsRow b e sz v n xs := by
  refine ⟨h.1, ?_⟩
  rcases h.2 with hn | ⟨g, cap, cur, rfl, hbb, hgg, rest⟩
  · exact .inl hn
  · exact .inr ⟨g, cap, cur, rfl, hbb, (hb.block g (hH g rfl)).trans hgg, rest⟩
/-- tables: a row of rows -/
def InT (w : World) (B D H : Nat) (A : Option Addr) (c : Nat) (ts : List (List Int)) : Prop :=
  ∃ vs : List Value, vs.length = ts.length ∧ w.ownsRow B 26 1 (.slice A ts.length c) ts.length vs ∧ (∀ g, (Value.slice A ts.length c).ownBlock = some g → g < H) ∧
    ∀ (j : Nat) (t : List Int), ts[j]? = some t → ∃ a ca, vs[j]? = some (.slice a t.length ca) ∧ w.ownsRow B 3 1 (.slice a t.length ca) t.length (intsV .i64 t) ∧ ∀ g, (Value.slice a t.length ca).ownBlock = some g → g < D
structure DecSt (W0 w : World) (B R X M D H : Nat) (s : RS) (m : Img) (v : ImgV) : Prop where
  bel : Below B W0 w
  rdr : RdrSt w B X s
  byt : ByteL s.inp
  res : Blk w R 29 [.slice none 0 0, .slice none 0 0, .slice none 0 0, .slice none 0 0, .slice none 0 0, .int .i64 0]
  blk : Blk w M 29 [.slice v.tA m.text.length v.tc, .slice v.fA m.funcs.length v.fc, .slice v.bA m.tables.length v.bc, .slice v.dA m.data.length v.dc, .slice v.lA m.lines.length v.lc, .int .i64 m.entry]
  bs : B ≤ R ∧ B ≤ M ∧ R ≠ M
  lt : R < H ∧ X < H ∧ M < H ∧ H ≤ w.heap.size
  tx : w.ownsRow B 5 1 (.slice v.tA m.text.length v.tc) m.text.length (intsV .u8 m.text)
  txH : ∀ g, (Value.slice v.tA m.text.length v.tc).ownBlock = some g → g < H
  fn : w.ownsRow B 36 3 (.slice v.fA m.funcs.length v.fc) m.funcs.length (funcsV m.funcs)
  fnH : ∀ g, (Value.slice v.fA m.funcs.length v.fc).ownBlock = some g → g < H
  tb : InT w B D H v.bA v.bc m.tables
  dt : w.ownsRow D 3 1 (.slice v.dA m.data.length v.dc) m.data.length (intsV .i64 m.data)
  dtH : ∀ g, (Value.slice v.dA m.data.length v.dc).ownBlock = some g → g < H
  ln : w.ownsRow B 76 2 (.slice v.lA m.lines.length v.lc) m.lines.length (linesV m.lines)
  lnH : ∀ g, (Value.slice v.lA m.lines.length v.lc).ownBlock = some g → g < H
  hD : B ≤ D ∧ D ≤ H
section
variable {W0 w w' : World} {B R X M D H : Nat} {s : RS} {m : Img} {v : ImgV}
theorem InT.below {A : Option Addr} {c : Nat} {ts : List (List Int)} (h : InT w B D H A c ts) (hD : D ≤ H) (hb : Below H w w') : InT w' B D H A c ts := by
  obtain ⟨vs, h1, h2, h3, h4⟩ := h
  refine ⟨vs, h1, own_ltH h2 hb h3, h3, fun j t hj => ?_⟩
  obtain ⟨a, ca, k1, k2, k3⟩ := h4 j t hj
  exact ⟨a, ca, k1, own_ltH k2 hb fun g hg => Nat.lt_of_lt_of_le (k3 g hg) hD, k3⟩
theorem InT.keepT {A : Option Addr} {c : Nat} {ts : List (List Int)} {T : TypeId} {r : Option Nat} (h : InT w B D H A c ts) (hg : w.grownBy w' r) (hr : ∀ g, r = some g → TypB w g T) (h1 : 26 ≠ T) (h2 : 3 ≠ T) : InT w' B D H A c ts := by
  obtain ⟨vs, k1, k2, k3, k4⟩ := h
  refine ⟨vs, k1, own_keepT k2 hg hr h1, k3, fun j t hj => ?_⟩
  obtain ⟨a, ca, i1, i2, i3⟩ := k4 j t hj
  exact ⟨a, ca, i1, own_keepT i2 hg hr h2, i3⟩
theorem InT.mono {A : Option Addr} {c D' H' : Nat} {ts : List (List Int)} (h : InT w B D H A c ts) (hD : D ≤ D') (hH : H ≤ H') : InT w B D' H' A c ts := by
  obtain ⟨vs, k1, k2, k3, k4⟩ := h
  refine ⟨vs, k1, k2, fun g hg => Nat.lt_of_lt_of_le (k3 g hg) hH, fun j t hj => ?_⟩
  obtain ⟨a, ca, i1, i2, i3⟩ := k4 j t hj
  exact ⟨a, ca, i1, i2, fun g hg => Nat.lt_of_lt_of_le (i3 g hg) hD⟩
theorem DecSt.bX (h : DecSt W0 w B R X M D H s m v) : B ≤ X := by obtain ⟨_, _, _, _, _, _, _, h⟩ := h.rdr; exact h
theorem DecSt.bH (h : DecSt W0 w B R X M D H s m v) : B ≤ H := Nat.le_trans h.hD.1 h.hD.2
theorem RdrSt.below (h : RdrSt w B X s) (hX : X < H) (hBH : B ≤ H) (hb : Below H w w') : RdrSt w' B X s := by
  obtain ⟨A, c, h1, h2, h3, h4, h5, h6⟩ := h
  exact ⟨A, c, h1.below hb hX, h2.below (hb.mono hBH), h3, h4, h5, h6⟩
theorem RdrSt.typ (h : RdrSt w B X s) : TypB w X 96 := by obtain ⟨A, c, h1, _⟩ := h; exact h1.typ
/-- what lies at block H or behind it is of no matter -/
theorem DecSt.below (h : DecSt W0 w B R X M D H s m v) (hb : Below H w w') : DecSt W0 w' B R X M D H s m v :=
  ⟨h.bel.trans (hb.mono h.bH), h.rdr.below h.lt.2.1 h.bH hb, h.byt, h.res.below hb h.lt.1, h.blk.below hb h.lt.2.2.1, h.bs, ⟨h.lt.1, h.lt.2.1, h.lt.2.2.1, by have := hb.size; have := h.lt.2.2.2; omega⟩,
    own_ltH h.tx hb h.txH, h.txH, own_ltH h.fn hb h.fnH, h.fnH, h.tb.below h.hD.2 hb, own_ltH h.dt hb h.dtH, h.dtH, own_ltH h.ln hb h.lnH, h.lnH, h.hD⟩
theorem DecSt.keep (h : DecSt W0 w B R X M D H s m v) (hb : Below w.heap.size w w') : DecSt W0 w' B R X M D H s m v := h.below (hb.mono h.lt.2.2.2)
theorem DecSt.mono {H' : Nat} (h : DecSt W0 w B R X M D H s m v) (hH : H ≤ H') (hs : H' ≤ w.heap.size) : DecSt W0 w B R X M D H' s m v :=
  ⟨h.bel, h.rdr, h.byt, h.res, h.blk, h.bs, by have := h.lt; omega, h.tx, fun g hg => Nat.lt_of_lt_of_le (h.txH g hg) hH, h.fn, fun g hg => Nat.lt_of_lt_of_le (h.fnH g hg) hH, h.tb.mono (Nat.le_refl _) hH,
    h.dt, fun g hg => Nat.lt_of_lt_of_le (h.dtH g hg) hH, h.ln, fun g hg => Nat.lt_of_lt_of_le (h.lnH g hg) hH, h.hD.1, Nat.le_trans h.hD.2 hH⟩
/-- while there are no data yet, all rows of numbers may be taken for old ones -/
theorem DecSt.monoD (h : DecSt W0 w B R X M D H s m v) (hd : v.dA = none) (hm : m.data = []) (hc : v.dc = 0) : DecSt W0 w B R X M H H s m v := by
  obtain ⟨h1, h2, h3, h4, h5, h6, h7, h8, h9, h10, h11, h12, h13, h14, h15, h16, h17⟩ := h
  refine ⟨h1, h2, h3, h4, h5, h6, h7, h8, h9, h10, h11, h12.mono h17.2 (Nat.le_refl _), ?_, h14, h15, h16, Nat.le_trans h17.1 h17.2, Nat.le_refl _⟩
  rw [hd, hm, hc]
  exact ⟨rfl, .inl ⟨rfl, rfl⟩⟩
/-- behind a reading -/
theorem DecSt.rd {s' : RS} (h : DecSt W0 w B R X M D H s m v) (hg : w.grownBy w' (some X)) (hr : RdrSt w' B X s') (hb : ByteL s'.inp) : DecSt W0 w' B R X M D H s' m v := by
  have hX := h.rdr.typ
  have ht : ∀ g, some X = some g → TypB w g 96 := fun g e => by injection e with e; subst e; exact hX
  have hs := hg.size
  exact ⟨h.bel.trans (gb_to_below hg h.bX (by have := h.lt; have := h.bH; omega)), hr, hb, h.res.keepT hg ht (by decide), h.blk.keepT hg ht (by decide), h.bs, ⟨h.lt.1, h.lt.2.1, h.lt.2.2.1, by have := h.lt.2.2.2; omega⟩,
    own_keepT h.tx hg ht (by decide), h.txH, own_keepT h.fn hg ht (by decide), h.fnH, h.tb.keepT hg ht (by decide) (by decide), own_keepT h.dt hg ht (by decide), h.dtH, own_keepT h.ln hg ht (by decide), h.lnH, h.hD⟩
theorem DecSt.num (h : DecSt W0 w B R X M D H s m v) (n : Int) (hn : 0 ≤ n) : Calls Tryd.prog 43 #[.pointer (some ⟨X, 0, none⟩), .int .i64 n] w fun e w' =>
    e = .returned (.int .i64 (numR s n).1) ∧ w.grownBy w' (some X) ∧ DecSt W0 w' B R X M D H (numR s n).2 m v :=
  (rnum_any B X s n w hn h.byt h.rdr).mono fun _ _ ⟨h1, h2, h3⟩ => ⟨h1, h2, h.rd h2 h3 (takeR_bytes n h.byt).1⟩
theorem DecSt.take (h : DecSt W0 w B R X M D H s m v) (n : Int) (hn : 0 ≤ n) : Calls Tryd.prog 42 #[.pointer (some ⟨X, 0, none⟩), .int .i64 n] w fun e w' =>
    ∃ A c, e = .returned (.slice A (takeR s n).1.length c) ∧ w'.ownsRow w.heap.size 5 1 (.slice A (takeR s n).1.length c) (takeR s n).1.length (intsV .u8 (takeR s n).1) ∧ w.grownBy w' (some X) ∧ DecSt W0 w' B R X M D H (takeR s n).2 m v :=
  (take_any B X s n w hn h.rdr).mono fun _ _ ⟨A, c, h1, h2, h3, h4⟩ => ⟨A, c, h1, h2, h3, h.rd h3 h4 (takeR_bytes n h.byt).1⟩
theorem own_lt' {w : World} {base : Nat} {e : TypeId} {size n g c : Nat} {xs : List Value} (h : w.ownsRow base e size (.slice (some ⟨g, 0, none⟩) n c) n xs) : base ≤ g ∧ g < w.heap.size := World.ownsRow.lt h g rfl
theorem own_blkg {g q n c N : Nat} (hq : (Value.slice (some ⟨g, 0, none⟩) n c).ownBlock = some q) (hg : g < N) : q < N := by
  simp only [Value.ownBlock] at hq
  injection hq with hq
  omega
/-- a row of numbers is written that lies behind all old ones -/
theorem DecSt.tb_int {w1 w2 w3 : World} {H' : Nat} (h1 : DecSt W0 w1 B R X M D H s m v) (hg : w1.grownBy w2 (Value.slice v.dA m.data.length v.dc).ownBlock) (hst : w2.grownBy w3 (some M)) (htM : ∀ q, some M = some q → TypB w2 q 29)
    (ht : ∀ q, (Value.slice v.dA m.data.length v.dc).ownBlock = some q → TypB w1 q 3) (hH : H ≤ H') : InT w3 B D H' v.bA v.bc m.tables := by
  obtain ⟨vs, k1, k2, k3, k4⟩ := h1.tb
  have h2 : InT w2 B D H v.bA v.bc m.tables := by
    refine ⟨vs, k1, own_keepT k2 hg ht (by decide), k3, fun j t hj => ?_⟩
    obtain ⟨a, ca, i1, i2, i3⟩ := k4 j t hj
    refine ⟨a, ca, i1, gb_own i2 hg ?_, i3⟩
    rcases ha : (Value.slice a t.length ca).ownBlock with _ | q
    · exact .inl rfl
    · right
      intro e2
      have := (World.ownsRow.lt h1.dt q e2.symm).1
      have := i3 q ha
      omega
  exact (h2.keepT hst htM (by decide) (by decide)).mono (Nat.le_refl _) hH
/-- something is appended -/
theorem DecSt.setF {w1 w2 : World} {g c' n : Nat} {x : FnD} (h : DecSt W0 w B R X M D H s m v) (hb : Below H w w1) (hn : m.funcs.length = n) (ho : w2.ownsRow B 36 3 (.slice (some ⟨g, 0, none⟩) (n + 1) c') (n + 1) (funcsV m.funcs ++ fnV x))
    (hg : w1.grownBy w2 (Value.slice v.fA n v.fc).ownBlock) (hat : (Value.slice v.fA n v.fc).ownBlock = some g ∨ H ≤ g) :
    DecSt W0 (w2.setCell ⟨M, 1, none⟩ (.slice (some ⟨g, 0, none⟩) (n + 1) c')) B R X M D (w2.setCell ⟨M, 1, none⟩ (.slice (some ⟨g, 0, none⟩) (n + 1) c')).heap.size s ⟨m.text, m.funcs ++ [x], m.tables, m.data, m.lines, m.entry⟩ ⟨v.tA, v.tc, some ⟨g, 0, none⟩, c', v.bA, v.bc, v.dA, v.dc, v.lA, v.lc⟩ := by
  subst hn
  have h1 := h.below hb
  have hs1 := hb.size
  have hs2 := hg.size
  have ht : ∀ q, (Value.slice v.fA m.funcs.length v.fc).ownBlock = some q → TypB w1 q 36 := fun q e => own_typ h1.fn e
  have hlB : ∀ q, (Value.slice v.fA m.funcs.length v.fc).ownBlock = some q → B ≤ q := fun q e => Nat.le_trans (Nat.le_refl _) (World.ownsRow.lt h1.fn q e).1
  have hst : w2.grownBy (w2.setCell ⟨M, 1, none⟩ (.slice (some ⟨g, 0, none⟩) (m.funcs.length + 1) c')) (some M) := gb_setCell (gb_refl _ _) _ _
  have hM2 : Blk w2 M 29 _ := h1.blk.keepT hg ht (by decide)
  have hX2 : TypB w2 X 96 := by
    obtain ⟨A, c, r1, _⟩ := h1.rdr
    exact (Blk.keepT r1 hg ht (by decide)).typ
  have hr2 : RdrSt w2 B X s := by
    obtain ⟨A, c, r1, r2, r3, r4, r5, r6⟩ := h1.rdr
    exact ⟨A, c, r1.keepT hg ht (by decide), r2.below (gb_belowU hg hlB (by have := h.bH; have := h.lt; omega)), r3, r4, r5, r6⟩
  have htM : ∀ q, some M = some q → TypB w2 q 29 := fun q e => by injection e with e; subst e; exact hM2.typ
  have hr3 : RdrSt (w2.setCell ⟨M, 1, none⟩ (.slice (some ⟨g, 0, none⟩) (m.funcs.length + 1) c')) B X s := by
    obtain ⟨A, c, r1, r2, r3, r4, r5, r6⟩ := hr2
    exact ⟨A, c, r1.keepT hst htM (by decide), r2.below (gb_to_below hst h.bs.2.1 (by have := h.bH; have := h.lt; omega)), r3, r4, r5, r6⟩
  have hle : (m.funcs ++ [x]).length = m.funcs.length + 1 := by simp
  have hsz : (w2.setCell ⟨M, 1, none⟩ (.slice (some ⟨g, 0, none⟩) (m.funcs.length + 1) c')).heap.size = w2.heap.size := by simp [World.setCell]
  have hHw : H ≤ w2.heap.size := by have := h.lt; omega
  have hgl : g < w2.heap.size := (own_lt' ho).2
  have hres : Blk (w2.setCell ⟨M, 1, none⟩ (.slice (some ⟨g, 0, none⟩) (m.funcs.length + 1) c')) R 29 _ := (Blk.keepT h1.res hg ht (by decide)).gb hst (fun e => by injection e with e; exact h.bs.2.2 e.symm)
  have hblk := hM2.set 1 (.slice (some ⟨g, 0, none⟩) (m.funcs.length + 1) c')
  refine ⟨(h1.bel.trans (gb_belowU hg hlB (by have := h.bH; have := h.lt; omega))).trans (gb_to_below hst h.bs.2.1 (by have := h.bH; have := h.lt; omega)), hr3, h.byt, hres, ?_, h.bs, ?_,
    own_keepT (own_keepT h1.tx hg ht (by decide)) hst htM (by decide), fun q hq => by have := h1.txH q hq; omega, own_keepT (by simp only [hle]; rw [show funcsV (m.funcs ++ [x]) = funcsV m.funcs ++ fnV x from by simp [funcsV]]; exact ho) hst htM (by decide), fun q hq => by have := own_blkg hq hgl; omega, InT.mono ((h1.tb.keepT hg ht (by decide) (by decide)).keepT hst htM (by decide) (by decide)) (Nat.le_refl _) (by omega), own_keepT (own_keepT h1.dt hg ht (by decide)) hst htM (by decide), fun q hq => by have := h1.dtH q hq; omega, own_keepT (own_keepT h1.ln hg ht (by decide)) hst htM (by decide), fun q hq => by have := h1.lnH q hq; omega, h.hD.1, by have := h.hD.2; omega⟩
  · simp only [hle]
    exact hblk
  · have := h.lt
    omega
/-- something is appended -/
theorem DecSt.setL {w1 w2 : World} {g c' n : Nat} {x : Int × Int} (h : DecSt W0 w B R X M D H s m v) (hb : Below H w w1) (hn : m.lines.length = n) (ho : w2.ownsRow B 76 2 (.slice (some ⟨g, 0, none⟩) (n + 1) c') (n + 1) (linesV m.lines ++ lineV x))
    (hg : w1.grownBy w2 (Value.slice v.lA n v.lc).ownBlock) (hat : (Value.slice v.lA n v.lc).ownBlock = some g ∨ H ≤ g) :
    DecSt W0 (w2.setCell ⟨M, 4, none⟩ (.slice (some ⟨g, 0, none⟩) (n + 1) c')) B R X M D (w2.setCell ⟨M, 4, none⟩ (.slice (some ⟨g, 0, none⟩) (n + 1) c')).heap.size s ⟨m.text, m.funcs, m.tables, m.data, m.lines ++ [x], m.entry⟩ ⟨v.tA, v.tc, v.fA, v.fc, v.bA, v.bc, v.dA, v.dc, some ⟨g, 0, none⟩, c'⟩ := by
  subst hn
  have h1 := h.below hb
  have hs1 := hb.size
  have hs2 := hg.size
  have ht : ∀ q, (Value.slice v.lA m.lines.length v.lc).ownBlock = some q → TypB w1 q 76 := fun q e => own_typ h1.ln e
  have hlB : ∀ q, (Value.slice v.lA m.lines.length v.lc).ownBlock = some q → B ≤ q := fun q e => Nat.le_trans (Nat.le_refl _) (World.ownsRow.lt h1.ln q e).1
  have hst : w2.grownBy (w2.setCell ⟨M, 4, none⟩ (.slice (some ⟨g, 0, none⟩) (m.lines.length + 1) c')) (some M) := gb_setCell (gb_refl _ _) _ _
  have hM2 : Blk w2 M 29 _ := h1.blk.keepT hg ht (by decide)
  have hX2 : TypB w2 X 96 := by
    obtain ⟨A, c, r1, _⟩ := h1.rdr
    exact (Blk.keepT r1 hg ht (by decide)).typ
  have hr2 : RdrSt w2 B X s := by
    obtain ⟨A, c, r1, r2, r3, r4, r5, r6⟩ := h1.rdr
    exact ⟨A, c, r1.keepT hg ht (by decide), r2.below (gb_belowU hg hlB (by have := h.bH; have := h.lt; omega)), r3, r4, r5, r6⟩
  have htM : ∀ q, some M = some q → TypB w2 q 29 := fun q e => by injection e with e; subst e; exact hM2.typ
  have hr3 : RdrSt (w2.setCell ⟨M, 4, none⟩ (.slice (some ⟨g, 0, none⟩) (m.lines.length + 1) c')) B X s := by
    obtain ⟨A, c, r1, r2, r3, r4, r5, r6⟩ := hr2
    exact ⟨A, c, r1.keepT hst htM (by decide), r2.below (gb_to_below hst h.bs.2.1 (by have := h.bH; have := h.lt; omega)), r3, r4, r5, r6⟩
  have hle : (m.lines ++ [x]).length = m.lines.length + 1 := by simp
  have hsz : (w2.setCell ⟨M, 4, none⟩ (.slice (some ⟨g, 0, none⟩) (m.lines.length + 1) c')).heap.size = w2.heap.size := by simp [World.setCell]
  have hHw : H ≤ w2.heap.size := by have := h.lt; omega
  have hgl : g < w2.heap.size := (own_lt' ho).2
  have hres : Blk (w2.setCell ⟨M, 4, none⟩ (.slice (some ⟨g, 0, none⟩) (m.lines.length + 1) c')) R 29 _ := (Blk.keepT h1.res hg ht (by decide)).gb hst (fun e => by injection e with e; exact h.bs.2.2 e.symm)
  have hblk := hM2.set 4 (.slice (some ⟨g, 0, none⟩) (m.lines.length + 1) c')
  refine ⟨(h1.bel.trans (gb_belowU hg hlB (by have := h.bH; have := h.lt; omega))).trans (gb_to_below hst h.bs.2.1 (by have := h.bH; have := h.lt; omega)), hr3, h.byt, hres, ?_, h.bs, ?_,
    own_keepT (own_keepT h1.tx hg ht (by decide)) hst htM (by decide), fun q hq => by have := h1.txH q hq; omega, own_keepT (own_keepT h1.fn hg ht (by decide)) hst htM (by decide), fun q hq => by have := h1.fnH q hq; omega, InT.mono ((h1.tb.keepT hg ht (by decide) (by decide)).keepT hst htM (by decide) (by decide)) (Nat.le_refl _) (by omega), own_keepT (own_keepT h1.dt hg ht (by decide)) hst htM (by decide), fun q hq => by have := h1.dtH q hq; omega, own_keepT (by simp only [hle]; rw [show linesV (m.lines ++ [x]) = linesV m.lines ++ lineV x from by simp [linesV]]; exact ho) hst htM (by decide), fun q hq => by have := own_blkg hq hgl; omega, h.hD.1, by have := h.hD.2; omega⟩
  · simp only [hle]
    exact hblk
  · have := h.lt
    omega
/-- something is appended -/
theorem DecSt.setD {w1 w2 : World} {g c' n : Nat} {x : Int} (h : DecSt W0 w B R X M D H s m v) (hb : Below H w w1) (hn : m.data.length = n) (ho : w2.ownsRow D 3 1 (.slice (some ⟨g, 0, none⟩) (n + 1) c') (n + 1) (intsV .i64 m.data ++ [.int .i64 x]))
    (hg : w1.grownBy w2 (Value.slice v.dA n v.dc).ownBlock) (hat : (Value.slice v.dA n v.dc).ownBlock = some g ∨ H ≤ g) :
    DecSt W0 (w2.setCell ⟨M, 3, none⟩ (.slice (some ⟨g, 0, none⟩) (n + 1) c')) B R X M D (w2.setCell ⟨M, 3, none⟩ (.slice (some ⟨g, 0, none⟩) (n + 1) c')).heap.size s ⟨m.text, m.funcs, m.tables, m.data ++ [x], m.lines, m.entry⟩ ⟨v.tA, v.tc, v.fA, v.fc, v.bA, v.bc, some ⟨g, 0, none⟩, c', v.lA, v.lc⟩ := by
  subst hn
  have h1 := h.below hb
  have hs1 := hb.size
  have hs2 := hg.size
  have ht : ∀ q, (Value.slice v.dA m.data.length v.dc).ownBlock = some q → TypB w1 q 3 := fun q e => own_typ h1.dt e
  have hlB : ∀ q, (Value.slice v.dA m.data.length v.dc).ownBlock = some q → B ≤ q := fun q e => Nat.le_trans h1.hD.1 (World.ownsRow.lt h1.dt q e).1
  have hst : w2.grownBy (w2.setCell ⟨M, 3, none⟩ (.slice (some ⟨g, 0, none⟩) (m.data.length + 1) c')) (some M) := gb_setCell (gb_refl _ _) _ _
  have hM2 : Blk w2 M 29 _ := h1.blk.keepT hg ht (by decide)
  have hX2 : TypB w2 X 96 := by
    obtain ⟨A, c, r1, _⟩ := h1.rdr
    exact (Blk.keepT r1 hg ht (by decide)).typ
  have hr2 : RdrSt w2 B X s := by
    obtain ⟨A, c, r1, r2, r3, r4, r5, r6⟩ := h1.rdr
    exact ⟨A, c, r1.keepT hg ht (by decide), r2.below (gb_belowU hg hlB (by have := h.bH; have := h.lt; omega)), r3, r4, r5, r6⟩
  have htM : ∀ q, some M = some q → TypB w2 q 29 := fun q e => by injection e with e; subst e; exact hM2.typ
  have hr3 : RdrSt (w2.setCell ⟨M, 3, none⟩ (.slice (some ⟨g, 0, none⟩) (m.data.length + 1) c')) B X s := by
    obtain ⟨A, c, r1, r2, r3, r4, r5, r6⟩ := hr2
    exact ⟨A, c, r1.keepT hst htM (by decide), r2.below (gb_to_below hst h.bs.2.1 (by have := h.bH; have := h.lt; omega)), r3, r4, r5, r6⟩
  have hle : (m.data ++ [x]).length = m.data.length + 1 := by simp
  have hsz : (w2.setCell ⟨M, 3, none⟩ (.slice (some ⟨g, 0, none⟩) (m.data.length + 1) c')).heap.size = w2.heap.size := by simp [World.setCell]
  have hHw : H ≤ w2.heap.size := by have := h.lt; omega
  have hgl : g < w2.heap.size := (own_lt' ho).2
  have hres : Blk (w2.setCell ⟨M, 3, none⟩ (.slice (some ⟨g, 0, none⟩) (m.data.length + 1) c')) R 29 _ := (Blk.keepT h1.res hg ht (by decide)).gb hst (fun e => by injection e with e; exact h.bs.2.2 e.symm)
  have hblk := hM2.set 3 (.slice (some ⟨g, 0, none⟩) (m.data.length + 1) c')
  refine ⟨(h1.bel.trans (gb_belowU hg hlB (by have := h.bH; have := h.lt; omega))).trans (gb_to_below hst h.bs.2.1 (by have := h.bH; have := h.lt; omega)), hr3, h.byt, hres, ?_, h.bs, ?_,
    own_keepT (own_keepT h1.tx hg ht (by decide)) hst htM (by decide), fun q hq => by have := h1.txH q hq; omega, own_keepT (own_keepT h1.fn hg ht (by decide)) hst htM (by decide), fun q hq => by have := h1.fnH q hq; omega, h1.tb_int hg hst htM ht (by omega), own_keepT (by simp only [hle]; rw [show intsV .i64 (m.data ++ [x]) = intsV .i64 m.data ++ [.int .i64 x] from by simp [intsV]]; exact ho) hst htM (by decide), fun q hq => by have := own_blkg hq hgl; omega, own_keepT (own_keepT h1.ln hg ht (by decide)) hst htM (by decide), fun q hq => by have := h1.lnH q hq; omega, h.hD.1, by have := h.hD.2; omega⟩
  · simp only [hle]
    exact hblk
  · have := h.lt
    omega
/-- the entry -/
theorem DecSt.setE {x : Int} (h : DecSt W0 w B R X M D H s m v) : DecSt W0 (w.setCell ⟨M, 5, none⟩ (.int .i64 x)) B R X M D H s ⟨m.text, m.funcs, m.tables, m.data, m.lines, x⟩ v := by
  have hst : w.grownBy (w.setCell ⟨M, 5, none⟩ (.int .i64 x)) (some M) := gb_setCell (gb_refl _ _) _ _
  have htM : ∀ q, some M = some q → TypB w q 29 := fun q e => by injection e with e; subst e; exact h.blk.typ
  have hbw := gb_to_below hst h.bs.2.1 (by have := h.bH; have := h.lt; omega)
  refine ⟨h.bel.trans hbw, ?_, h.byt, h.res.gb hst (fun e => by injection e with e; exact h.bs.2.2 e.symm), h.blk.set 5 _, h.bs, ⟨h.lt.1, h.lt.2.1, h.lt.2.2.1, by simpa [World.setCell] using h.lt.2.2.2⟩, own_keepT h.tx hst htM (by decide), h.txH, own_keepT h.fn hst htM (by decide), h.fnH,
    h.tb.keepT hst htM (by decide) (by decide), own_keepT h.dt hst htM (by decide), h.dtH, own_keepT h.ln hst htM (by decide), h.lnH, h.hD⟩
  obtain ⟨A, c, r1, r2, r3, r4, r5, r6⟩ := h.rdr
  exact ⟨A, c, r1.keepT hst htM (by decide), r2.below hbw, r3, r4, r5, r6⟩
end
end Go.Proofs.YtdliienkbpdnbaaDoor
