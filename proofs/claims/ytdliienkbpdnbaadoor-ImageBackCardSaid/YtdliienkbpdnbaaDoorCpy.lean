/- image.Copy, walked. -/
import Derived.Test.YtdliienkbpdnbaaDoorCln
import Derived.Test.YtdliienkbpdnbaaDoorDecT
import Derived.Test.YtdliienkbpdnbaaDoorRegX
import Derived.OwnWalk
namespace Go.Proofs.YtdliienkbpdnbaaDoor
open Go.RowKit
theorem infoC_sl : (Tryd.prog.info? 26).map (fun i => (i.zero, i.size, i.bytes)) = some (some (.slice none 0 0), 1, 24) := by kernel_rfl
/-- an image of the call's own, while it is made: its rows -/
structure OwnC (w : World) (B H : Nat) (m : Img) (v : ImgV) : Prop where
  tx : w.ownsRow B 5 1 (.slice v.tA m.text.length v.tc) m.text.length (intsV .u8 m.text)
  fn : w.ownsRow B 36 3 (.slice v.fA m.funcs.length v.fc) m.funcs.length (funcsV m.funcs)
  tb : InT w B H H v.bA v.bc m.tables
  dt : w.ownsRow B 3 1 (.slice v.dA m.data.length v.dc) m.data.length (intsV .i64 m.data)
  ln : w.ownsRow B 76 2 (.slice v.lA m.lines.length v.lc) m.lines.length (linesV m.lines)
theorem InT.keepB {w w' : World} {B H : Nat} {A : Option Addr} {c : Nat} {ts : List (List Int)} (h : InT w B H H A c ts) (hb : Below w.heap.size w w') : InT w' B H H A c ts := by
  obtain ⟨vs, k1, k2, k3, k4⟩ := h
  refine ⟨vs, k1, own_keep k2 hb, k3, fun j t hj => ?_⟩
  obtain ⟨a, ca, i1, i2, i3⟩ := k4 j t hj
  exact ⟨a, ca, i1, own_keep i2 hb, i3⟩
theorem OwnC.keep {w w' : World} {B H : Nat} {m : Img} {v : ImgV} (h : OwnC w B H m v) (hb : Below w.heap.size w w') : OwnC w' B H m v := ⟨own_keep h.tx hb, own_keep h.fn hb, h.tb.keepB hb, own_keep h.dt hb, own_keep h.ln hb⟩
theorem OwnC.keepI {w w' : World} {B H : Nat} {m : Img} {v : ImgV} {r : Option Nat} (h : OwnC w B H m v) (hg : w.grownBy w' r) (hr : ∀ g, r = some g → TypB w g 29) : OwnC w' B H m v :=
  ⟨own_keepT h.tx hg hr (by decide), own_keepT h.fn hg hr (by decide), h.tb.keepT hg hr (by decide) (by decide), own_keepT h.dt hg hr (by decide), own_keepT h.ln hg hr (by decide)⟩
theorem OwnC.rd {w : World} {B H : Nat} {m : Img} {v : ImgV} (h : OwnC w B H m v) (ht : ∀ t ∈ m.tables, t.length ≤ 140737488355328) : ImgRd w w.heap.size m v := by
  obtain ⟨vs, k1, k2, k3, k4⟩ := h.tb
  refine ⟨(own_rdgD h.tx).1, (own_rdgD h.fn).1, ⟨vs, k1, (own_rdgD k2).1, fun j t hj => ?_⟩, (own_rdgD h.dt).1, (own_rdgD h.ln).1⟩
  obtain ⟨a, ca, i1, i2, i3⟩ := k4 j t hj
  obtain ⟨r1, r2, r3⟩ := own_rdgD i2
  exact ⟨a, ca, i1, r2, r3, ht t (List.mem_of_getElem? hj), r1⟩
theorem OwnC.ok {w : World} {B H : Nat} {m : Img} {v v0 : ImgV} (h : OwnC w B H m v) (h0 : ImgOk m v0) : ImgOk m v := by
  obtain ⟨vs, k1, k2, k3, k4⟩ := h.tb
  exact ⟨h0.tl, h0.fl, h0.bl, h0.dl, h0.ll, (own_rdgD h.tx).2.1, (own_rdgD h.fn).2.1, (own_rdgD k2).2.1, (own_rdgD h.dt).2.1, (own_rdgD h.ln).2.1, h0.tb, h0.fb, h0.bb, h0.db, h0.lb, h0.eb⟩
structure CpSt (W0 w : World) (B R M H : Nat) (m : Img) (v : ImgV) : Prop where
  bel : Below B W0 w
  res : Blk w R 29 [.slice none 0 0, .slice none 0 0, .slice none 0 0, .slice none 0 0, .slice none 0 0, .int .i64 0]
  blk : Blk w M 29 [.slice v.tA m.text.length v.tc, .slice v.fA m.funcs.length v.fc, .slice v.bA m.tables.length v.bc, .slice v.dA m.data.length v.dc, .slice v.lA m.lines.length v.lc, .int .i64 m.entry]
  bM : B ≤ R ∧ B ≤ M ∧ R ≠ M ∧ H ≤ w.heap.size
  own : OwnC w B H m v
theorem CpSt.keep {W0 w w' : World} {B R M H : Nat} {m : Img} {v : ImgV} (h : CpSt W0 w B R M H m v) (hb : Below w.heap.size w w') : CpSt W0 w' B R M H m v :=
  ⟨h.bel.trans (hb.mono (by have := h.bM; have := h.blk.lt; omega)), h.res.keep hb, h.blk.keep hb, ⟨h.bM.1, h.bM.2.1, h.bM.2.2.1, by have := hb.size; have := h.bM; omega⟩, h.own.keep hb⟩
/-- a table is appended -/
theorem CpSt.setT {W0 w w1 w2 : World} {B R M H g c' n : Nat} {m : Img} {v : ImgV} {t : List Int} {a : Option Addr} {ca : Nat} {vs : List Value} (h : CpSt W0 w B R M H m v) (hb : Below w.heap.size w w1) (hn : m.tables.length = n) (hvl : vs.length = n)
    (hvt : ∀ (j : Nat) (t : List Int), m.tables[j]? = some t → ∃ a ca, vs[j]? = some (.slice a t.length ca) ∧ w.ownsRow B 3 1 (.slice a t.length ca) t.length (intsV .i64 t) ∧ ∀ g, (Value.slice a t.length ca).ownBlock = some g → g < H)
    (hi : w1.ownsRow B 3 1 (.slice a t.length ca) t.length (intsV .i64 t)) (ho : w2.ownsRow B 26 1 (.slice (some ⟨g, 0, none⟩) (n + 1) c') (n + 1) (vs ++ [.slice a t.length ca]))
    (hg : w1.grownBy w2 (Value.slice v.bA n v.bc).ownBlock) (hob : w1.ownsRow B 26 1 (.slice v.bA n v.bc) n vs) :
    CpSt W0 (w2.setCell ⟨M, 2, none⟩ (.slice (some ⟨g, 0, none⟩) (n + 1) c')) B R M (w2.setCell ⟨M, 2, none⟩ (.slice (some ⟨g, 0, none⟩) (n + 1) c')).heap.size
      ⟨m.text, m.funcs, m.tables ++ [t], m.data, m.lines, m.entry⟩ ⟨v.tA, v.tc, v.fA, v.fc, some ⟨g, 0, none⟩, c', v.dA, v.dc, v.lA, v.lc⟩ := by
  subst hn
  have h1 := h.keep hb
  have hs1 := hb.size
  have hs2 := hg.size
  have hbM := h1.bM
  have hlM := h1.blk.lt
  have ht : ∀ q, (Value.slice v.bA m.tables.length v.bc).ownBlock = some q → TypB w1 q 26 := fun q e => own_typ hob e
  have hlB : ∀ q, (Value.slice v.bA m.tables.length v.bc).ownBlock = some q → B ≤ q := fun q e => (World.ownsRow.lt hob q e).1
  have hst : w2.grownBy (w2.setCell ⟨M, 2, none⟩ (.slice (some ⟨g, 0, none⟩) (m.tables.length + 1) c')) (some M) := gb_setCell (gb_refl _ _) _ _
  have hM2 : Blk w2 M 29 _ := h1.blk.keepT hg ht (by decide)
  have htM : ∀ q, some M = some q → TypB w2 q 29 := fun q e => by injection e with e; subst e; exact hM2.typ
  have hle : (m.tables ++ [t]).length = m.tables.length + 1 := by simp
  have hsz : (w2.setCell ⟨M, 2, none⟩ (.slice (some ⟨g, 0, none⟩) (m.tables.length + 1) c')).heap.size = w2.heap.size := by simp [World.setCell]
  have hgl : g < w2.heap.size := (own_lt' ho).2
  have hres : Blk (w2.setCell ⟨M, 2, none⟩ (.slice (some ⟨g, 0, none⟩) (m.tables.length + 1) c')) R 29 _ := (Blk.keepT h1.res hg ht (by decide)).gb hst (fun e => by injection e with e; exact hbM.2.2.1 e.symm)
  have hblk := hM2.set 2 (.slice (some ⟨g, 0, none⟩) (m.tables.length + 1) c')
  refine ⟨(h1.bel.trans (gb_belowU hg hlB (by omega))).trans (gb_to_below hst hbM.2.1 (by omega)), hres, ?_, ⟨hbM.1, hbM.2.1, hbM.2.2.1, Nat.le_refl _⟩,
    own_keepT (own_keepT h1.own.tx hg ht (by decide)) hst htM (by decide), own_keepT (own_keepT h1.own.fn hg ht (by decide)) hst htM (by decide),
    ⟨vs ++ [.slice a t.length ca], by simp [hvl], ?_, ?_, ?_⟩, own_keepT (own_keepT h1.own.dt hg ht (by decide)) hst htM (by decide), own_keepT (own_keepT h1.own.ln hg ht (by decide)) hst htM (by decide)⟩
  · simp only [hle]
    exact hblk
  · simp only [hle]
    exact own_keepT ho hst htM (by decide)
  · intro q hq
    have := own_blkg hq hgl
    omega
  · intro j u hj
    by_cases hjl : j < m.tables.length
    · rw [List.getElem?_append_left hjl] at hj
      obtain ⟨a', ca', k1, k2, k3⟩ := hvt j u hj
      refine ⟨a', ca', by rw [List.getElem?_append_left (by omega)]; exact k1, own_keepT (own_keepT (own_keep k2 hb) hg ht (by decide)) hst htM (by decide), fun q hq => by have := k3 q hq; have := h.bM; omega⟩
    · have hjl2 := (List.getElem?_eq_some_iff.1 hj).1
      rw [hle] at hjl2
      obtain rfl : j = m.tables.length := by omega
      rw [List.getElem?_append_right (Nat.le_refl _), Nat.sub_self] at hj
      simp only [List.getElem?_cons_zero, Option.some.injEq] at hj
      subst hj
      refine ⟨a, ca, by rw [List.getElem?_append_right (by omega), hvl, Nat.sub_self]; rfl, own_keepT (own_keepT hi hg ht (by decide)) hst htM (by decide), fun q hq => ?_⟩
      have := (World.ownsRow.lt hi q hq).2
      omega
theorem cp_setT {W0 w w1 w2 : World} {B R M H g c' n TL : Nat} {m : Img} {v : ImgV} {t : List Int} {a : Option Addr} {ca : Nat} {vs : List Value} (hTL : t.length = TL) (h : CpSt W0 w B R M H m v) (hb : Below w.heap.size w w1) (hn : m.tables.length = n) (hvl : vs.length = n)
    (hvt : ∀ (j : Nat) (t : List Int), m.tables[j]? = some t → ∃ a ca, vs[j]? = some (.slice a t.length ca) ∧ w.ownsRow B 3 1 (.slice a t.length ca) t.length (intsV .i64 t) ∧ ∀ g, (Value.slice a t.length ca).ownBlock = some g → g < H)
    (hi : w1.ownsRow B 3 1 (.slice a TL ca) TL (intsV .i64 t)) (ho : w2.ownsRow B 26 1 (.slice (some ⟨g, 0, none⟩) (n + 1) c') (n + 1) (vs ++ [.slice a TL ca]))
    (hg : w1.grownBy w2 (Value.slice v.bA n v.bc).ownBlock) (hob : w1.ownsRow B 26 1 (.slice v.bA n v.bc) n vs) :
    CpSt W0 (w2.setCell ⟨M, 2, none⟩ (.slice (some ⟨g, 0, none⟩) (n + 1) c')) B R M (w2.setCell ⟨M, 2, none⟩ (.slice (some ⟨g, 0, none⟩) (n + 1) c')).heap.size
      ⟨m.text, m.funcs, m.tables ++ [t], m.data, m.lines, m.entry⟩ ⟨v.tA, v.tc, v.fA, v.fc, some ⟨g, 0, none⟩, c', v.dA, v.dc, v.lA, v.lc⟩ := by
  subst hTL
  exact h.setT hb hn hvl hvt hi ho hg hob
theorem set6c {w : World} {R : Nat} {t : TypeId} {a0 a1 a2 a3 a4 a5 : Value} (h : Blk w R t [a0, a1, a2, a3, a4, a5]) (b0 b1 b2 b3 b4 b5 : Value) :
    Blk ((((((w.setCell ⟨R, 0, none⟩ b0).setCell ⟨R, 1, none⟩ b1).setCell ⟨R, 2, none⟩ b2).setCell ⟨R, 3, none⟩ b3).setCell ⟨R, 4, none⟩ b4).setCell ⟨R, 5, none⟩ b5) R t [b0, b1, b2, b3, b4, b5] ∧
    w.grownBy ((((((w.setCell ⟨R, 0, none⟩ b0).setCell ⟨R, 1, none⟩ b1).setCell ⟨R, 2, none⟩ b2).setCell ⟨R, 3, none⟩ b3).setCell ⟨R, 4, none⟩ b4).setCell ⟨R, 5, none⟩ b5) (some R) :=
  ⟨(((((h.set 0 b0).set 1 b1).set 2 b2).set 3 b3).set 4 b4).set 5 b5, gb_setCell (gb_setCell (gb_setCell (gb_setCell (gb_setCell (gb_setCell (gb_refl _ _) _ _) _ _) _ _) _ _) _ _) _ _⟩
def CopyPost (w : World) (m : Img) (e : Ending) (w' : World) : Prop :=
  Below w.heap.size w w' ∧ ∃ (v : ImgV) (H : Nat), e = .returned (.agg (m.val v)) ∧ OwnC w' w.heap.size H m v
theorem rd_nil {w : World} {B : Nat} {A : Option Addr} {cs : List Value} (h : RdG w B A cs) (e : A = none) : cs = [] := by
  subst e
  rcases cs with _ | ⟨u, cs⟩
  · rfl
  · obtain ⟨b, o, e, -⟩ := h (by simp)
    cases e
theorem nil_row (w : World) (B : Nat) (e : TypeId) (sz : Nat) : w.ownsRow B e sz (.slice none 0 0) 0 [] := ⟨by simp, .inl ⟨rfl, rfl⟩⟩
theorem nil_inT (w : World) (B H : Nat) : InT w B H H none 0 [] := ⟨[], rfl, nil_row _ _ _ _, fun g hg => (by cases hg), fun j t hj => by simp at hj⟩
theorem cp_new {w X W : World} {m : Img} {T NF NB ND NL tc fc bc dc lc c0 c1 c3 c4 : Nat} {EN : Int} {tA fA bA dA lA a0 a1 a3 a4 : Option Addr} (hx0 : Blk X w.heap.size 29 [.slice tA T tc, .slice fA NF fc, .slice bA NB bc, .slice dA ND dc, .slice lA NL lc, .int .i64 EN])
    (hxr : Blk X (w.heap.size + 1) 29 [.slice none 0 0, .slice none 0 0, .slice none 0 0, .slice none 0 0, .slice none 0 0, .int .i64 0]) (hbX : Below w.heap.size w X) (hX2 : X.heap.size = w.heap.size + 2) (hN : m.text.length = T ∧ m.funcs.length = NF ∧ m.tables.length = NB ∧ m.data.length = ND ∧ m.lines.length = NL ∧ m.entry = EN) (hb : Below X.heap.size X W)
    (r0 : W.ownsRow w.heap.size 5 1 (.slice a0 T c0) T (intsV .u8 m.text)) (r1 : W.ownsRow w.heap.size 36 3 (.slice a1 NF c1) NF (funcsV m.funcs)) (r3 : W.ownsRow w.heap.size 3 1 (.slice a3 ND c3) ND (intsV .i64 m.data)) (r4 : W.ownsRow w.heap.size 76 2 (.slice a4 NL c4) NL (linesV m.lines)) :
    Blk (W.alloc (.cells #[.slice a0 T c0, .slice a1 NF c1, .slice none 0 0, .slice a3 ND c3, .slice a4 NL c4, .int .i64 EN] 29)) w.heap.size 29 [.slice tA T tc, .slice fA NF fc, .slice bA NB bc, .slice dA ND dc, .slice lA NL lc, .int .i64 EN] ∧
    CpSt w (W.alloc (.cells #[.slice a0 T c0, .slice a1 NF c1, .slice none 0 0, .slice a3 ND c3, .slice a4 NL c4, .int .i64 EN] 29)) w.heap.size (w.heap.size + 1) W.heap.size 0 ⟨m.text, m.funcs, [], m.data, m.lines, m.entry⟩ ⟨a0, c0, a1, c1, none, 0, a3, c3, a4, c4⟩ := by
  obtain ⟨rfl, rfl, rfl, rfl, rfl, rfl⟩ := hN
  have hs := hb.size
  have hal : Below W.heap.size W (W.alloc (.cells #[.slice a0 m.text.length c0, .slice a1 m.funcs.length c1, .slice none 0 0, .slice a3 m.data.length c3, .slice a4 m.lines.length c4, .int .i64 m.entry] 29)) := (Below.refl _ _).alloc (Nat.le_refl _) _
  have hb2 := hb.trans (hal.mono hs)
  exact ⟨hx0.keep hb2, ⟨hbX.trans (hb2.mono (by omega)), hxr.keep hb2, Blk.new W _ _, ⟨by omega, by omega, by omega, Nat.zero_le _⟩, own_keep r0 hal, own_keep r1 hal, nil_inT _ _ _, own_keep r3 hal, own_keep r4 hal⟩⟩
theorem cp_old {w X W : World} {m : Img} {T NF NB ND NL tc fc bc dc lc c0 c1 c3 c4 Y : Nat} {EN : Int} {tA fA bA dA lA a0 a1 a3 a4 : Option Addr} {z0 z1 z2 z3 z4 z5 : Value} (hx0 : Blk X w.heap.size 29 [.slice tA T tc, .slice fA NF fc, .slice bA NB bc, .slice dA ND dc, .slice lA NL lc, .int .i64 EN])
    (hxr : Blk X (w.heap.size + 1) 29 [.slice none 0 0, .slice none 0 0, .slice none 0 0, .slice none 0 0, .slice none 0 0, .int .i64 0]) (hbX : Below w.heap.size w X) (hX2 : X.heap.size = w.heap.size + 2) (hN : m.text.length = T ∧ m.funcs.length = NF ∧ m.tables.length = NB ∧ m.data.length = ND ∧ m.lines.length = NL ∧ m.entry = EN) (hb : Below X.heap.size X W)
    (r0 : W.ownsRow w.heap.size 5 1 (.slice a0 T c0) T (intsV .u8 m.text)) (r1 : W.ownsRow w.heap.size 36 3 (.slice a1 NF c1) NF (funcsV m.funcs)) (r3 : W.ownsRow w.heap.size 3 1 (.slice a3 ND c3) ND (intsV .i64 m.data)) (r4 : W.ownsRow w.heap.size 76 2 (.slice a4 NL c4) NL (linesV m.lines))
    (zb : Blk W Y 29 [z0, z1, z2, z3, z4, z5]) (hY : X.heap.size ≤ Y) :
    Blk ((((((W.setCell ⟨Y, 0, none⟩ (.slice a0 T c0)).setCell ⟨Y, 1, none⟩ (.slice a1 NF c1)).setCell ⟨Y, 2, none⟩ (.slice none 0 0)).setCell ⟨Y, 3, none⟩ (.slice a3 ND c3)).setCell ⟨Y, 4, none⟩ (.slice a4 NL c4)).setCell ⟨Y, 5, none⟩ (.int .i64 EN)) w.heap.size 29 [.slice tA T tc, .slice fA NF fc, .slice bA NB bc, .slice dA ND dc, .slice lA NL lc, .int .i64 EN] ∧
    CpSt w ((((((W.setCell ⟨Y, 0, none⟩ (.slice a0 T c0)).setCell ⟨Y, 1, none⟩ (.slice a1 NF c1)).setCell ⟨Y, 2, none⟩ (.slice none 0 0)).setCell ⟨Y, 3, none⟩ (.slice a3 ND c3)).setCell ⟨Y, 4, none⟩ (.slice a4 NL c4)).setCell ⟨Y, 5, none⟩ (.int .i64 EN)) w.heap.size (w.heap.size + 1) Y 0 ⟨m.text, m.funcs, [], m.data, m.lines, m.entry⟩ ⟨a0, c0, a1, c1, none, 0, a3, c3, a4, c4⟩ := by
  obtain ⟨rfl, rfl, rfl, rfl, rfl, rfl⟩ := hN
  have hs := hb.size
  obtain ⟨k1, k2⟩ := set6c zb (.slice a0 m.text.length c0) (.slice a1 m.funcs.length c1) (.slice none 0 0) (.slice a3 m.data.length c3) (.slice a4 m.lines.length c4) (.int .i64 m.entry)
  have htY : ∀ q, some Y = some q → TypB W q 29 := fun q e => by injection e with e; subst e; exact zb.typ
  have hlW := zb.lt
  have hb2 := hb.trans (gb_to_below k2 hY hs)
  exact ⟨hx0.keep hb2, ⟨hbX.trans (hb2.mono (by omega)), hxr.keep hb2, k1, ⟨by omega, by omega, by omega, Nat.zero_le _⟩, own_keepT r0 k2 htY (by decide), own_keepT r1 k2 htY (by decide), nil_inT _ _ _, own_keepT r3 k2 htY (by decide), own_keepT r4 k2 htY (by decide)⟩⟩
set_option maxHeartbeats 8000000 in
set_option maxRecDepth 100000 in
theorem copy_any (m : Img) (v : ImgV) (w : World) (hI : ImgRd w w.heap.size m v) (hO : ImgOk m v) (hl : m.text.length ≤ 1000000 ∧ m.funcs.length ≤ 1000000 ∧ m.tables.length ≤ 1000000 ∧ m.data.length ≤ 1000000 ∧ m.lines.length ≤ 1000000 ∧ ∀ t ∈ m.tables, t.length ≤ 1000000) :
    Calls Tryd.prog 15 #[.agg (m.val v)] w (CopyPost w m) := by
  obtain ⟨T, hT⟩ : ∃ T, m.text.length = T := ⟨_, rfl⟩
  obtain ⟨NF, hNF⟩ : ∃ T, m.funcs.length = T := ⟨_, rfl⟩
  obtain ⟨NB, hNB⟩ : ∃ T, m.tables.length = T := ⟨_, rfl⟩
  obtain ⟨ND, hND⟩ : ∃ T, m.data.length = T := ⟨_, rfl⟩
  obtain ⟨NL, hNL⟩ : ∃ T, m.lines.length = T := ⟨_, rfl⟩
  obtain ⟨EN, hEN⟩ : ∃ T, m.entry = T := ⟨_, rfl⟩
  obtain ⟨l1, l2, l3, l4, l5, l6⟩ := hl
  unfold Img.val
  obtain ⟨tA, tc, fA, fc, bA, bc, dA, dc, lA, lc⟩ := v
  simp only [hT, hNF, hNB, hND, hNL, hEN] at l1 l2 l3 l4 l5 ⊢
  have HC1 := Lib.hid (fun (W : World) (h : Below w.heap.size w W) => clone_u8 m.text tA T tc W hT (fun e => by have := congrArg List.length (rd_nil hI.text e); rw [intsV_len] at this; exact hT.symm.trans this) l1 ((hI.text.below h).more h.size))
  have HC2 := Lib.hid (fun (W : World) (h : Below w.heap.size w W) => clone_fn m.funcs fA NF fc W hNF (fun e => by have := congrArg List.length (rd_nil hI.funcs e); have h2 : (funcsV m.funcs).length = m.funcs.length * 3 := flat_len fnV 3 (fun _ => rfl) _; rw [h2] at this; simp only [List.length_nil] at this; omega) l2 ((hI.funcs.below h).more h.size))
  have HC3 := Lib.hid (fun (W : World) (h : Below w.heap.size w W) => clone_int m.data dA ND dc W hND (fun e => by have := congrArg List.length (rd_nil hI.data e); rw [intsV_len] at this; exact hND.symm.trans this) l4 ((hI.data.below h).more h.size))
  have HC4 := Lib.hid (fun (W : World) (h : Below w.heap.size w W) => clone_ln m.lines lA NL lc W hNL (fun e => by have := congrArg List.length (rd_nil hI.lines e); have h2 : (linesV m.lines).length = m.lines.length * 2 := flat_len lineV 2 (fun _ => rfl) _; rw [h2] at this; simp only [List.length_nil] at this; omega) l5 ((hI.lines.below h).more h.size))
  have HN := Lib.hid (And.intro hT (And.intro hNF (And.intro hNB (And.intro hND (And.intro hNL hEN)))))
  have HI := Lib.hid hI
  have HO := Lib.hid hO
  have HL6 := Lib.hid l6
  clear hT hNF hNB hND hNL hEN hI hO l6
  go_enter Tryd.func15, Tryd.ntmps15
  go_upto_region 1 with fail
  obtain ⟨X, hX⟩ : ∃ X, (w.alloc (.cells #[.slice tA T tc, .slice fA NF fc, .slice bA NB bc, .slice dA ND dc, .slice lA NL lc, .int .i64 EN] 29)).alloc (.cells #[.slice none 0 0, .slice none 0 0, .slice none 0 0, .slice none 0 0, .slice none 0 0, .int .i64 0] 29) = X := ⟨_, rfl⟩
  rw [hX]
  have hx0 : Blk X w.heap.size 29 [.slice tA T tc, .slice fA NF fc, .slice bA NB bc, .slice dA ND dc, .slice lA NL lc, .int .i64 EN] := by rw [← hX]; exact (Blk.new w _ _).alloc _
  have hxr : Blk X (w.heap.size + 1) 29 [.slice none 0 0, .slice none 0 0, .slice none 0 0, .slice none 0 0, .slice none 0 0, .int .i64 0] := by rw [← hX]; exact Blk.new2 w _ _ _
  have hbX : Below w.heap.size w X := by rw [← hX]; exact ((Below.refl _ _).alloc (Nat.le_refl _) _).alloc (by simp) _
  have hX2 : X.heap.size = w.heap.size + 2 := by rw [← hX]; simp
  have m0 := hx0.cell 0 rfl
  have m1 := hx0.cell 1 rfl
  have m2 := hx0.cell 2 rfl
  have m3 := hx0.cell 3 rfl
  have m4 := hx0.cell 4 rfl
  have m5 := hx0.cell 5 rfl
  have ml := hx0.lt
  have HX0 := Lib.hid hx0
  have HXR := Lib.hid hxr
  have HBX := Lib.hid hbX
  have HML : Hid (w.heap.size < X.heap.size) := Lib.hid ml
  have HX2 := Lib.hid hX2
  clear hx0 hxr hbX hX hX2
  go_cut [3] (fun v3 wx => ∃ (M : Nat) (a0 : Option Addr) (c0 : Nat) (a1 : Option Addr) (c1 : Nat) (a3 : Option Addr) (c3 : Nat) (a4 : Option Addr) (c4 H : Nat), v3 = .pointer (some ⟨M, 0, none⟩) ∧ Hid (Blk wx w.heap.size 29 [.slice tA T tc, .slice fA NF fc, .slice bA NB bc, .slice dA ND dc, .slice lA NL lc, .int .i64 EN] ∧ CpSt w wx w.heap.size (w.heap.size + 1) M H ⟨m.text, m.funcs, [], m.data, m.lines, m.entry⟩ ⟨a0, c0, a1, c1, none, 0, a3, c3, a4, c4⟩))
  case first =>
    refine wp_region_W (fun w' => w'.cell? ⟨w.heap.size, 0, none⟩ = some (.slice tA T tc) ∧ w'.cell? ⟨w.heap.size, 1, none⟩ = some (.slice fA NF fc) ∧ w'.cell? ⟨w.heap.size, 3, none⟩ = some (.slice dA ND dc) ∧ w'.cell? ⟨w.heap.size, 4, none⟩ = some (.slice lA NL lc) ∧ w'.cell? ⟨w.heap.size, 5, none⟩ = some (.int .i64 EN)) 16 (by kernel_rfl) (by (try dsimp only); go_keep) (fun hHeld => ?_)
    have hbD : Below X.heap.size X X.drew := (Below.refl _ _).drew
    refine wpW_take 0 (v := ?_) rfl (by kernel_rfl) (by kernel_rfl) (by kernel_rfl) (by kernel_rfl) (fun _ _ _ h => h) (Or.inl ⟨by rfl, ?_⟩) hHeld ?_
    rotate_left
    · intro w hSw
      try dsimp only at hSw
      go_simp
      try with_reducible rfl
    try simp only [Act.put, List.setIfInBounds_toArray, List.set_cons_zero, List.set_cons_succ]
    refine wpW_take 1 (v := ?_) rfl (by kernel_rfl) (by kernel_rfl) (by kernel_rfl) (by kernel_rfl) (fun _ _ _ h => h) (Or.inl ⟨by rfl, ?_⟩) hHeld ?_
    rotate_left
    · intro w hSw
      try dsimp only at hSw
      go_simp
      try with_reducible rfl
    try simp only [Act.put, List.setIfInBounds_toArray, List.set_cons_zero, List.set_cons_succ]
    refine wpW_take 3 (v := ?_) rfl (by kernel_rfl) (by kernel_rfl) (by kernel_rfl) (by kernel_rfl) (fun _ _ _ h => h) (Or.inl ⟨by rfl, ?_⟩) hHeld ?_
    rotate_left
    · intro w hSw
      try dsimp only at hSw
      go_simp
      try with_reducible rfl
    try simp only [Act.put, List.setIfInBounds_toArray, List.set_cons_zero, List.set_cons_succ]
    refine wpW_take 4 (v := ?_) rfl (by kernel_rfl) (by kernel_rfl) (by kernel_rfl) (by kernel_rfl) (fun _ _ _ h => h) (Or.inl ⟨by rfl, ?_⟩) hHeld ?_
    rotate_left
    · intro w hSw
      try dsimp only at hSw
      go_simp
      try with_reducible rfl
    try simp only [Act.put, List.setIfInBounds_toArray, List.set_cons_zero, List.set_cons_succ]
    refine wpW_take 6 (v := ?_) rfl (by kernel_rfl) (by kernel_rfl) (by kernel_rfl) (by kernel_rfl) (fun _ _ _ h => h) (Or.inl ⟨by rfl, ?_⟩) hHeld ?_
    rotate_left
    · intro w hSw
      try dsimp only at hSw
      go_simp
      try with_reducible rfl
    try simp only [Act.put, List.setIfInBounds_toArray, List.set_cons_zero, List.set_cons_succ]
    refine wpW_take 7 (v := ?_) rfl (by kernel_rfl) (by kernel_rfl) (by kernel_rfl) (by kernel_rfl) (fun _ _ _ h => h) (Or.inl ⟨by rfl, ?_⟩) hHeld ?_
    rotate_left
    · intro w hSw
      try dsimp only at hSw
      go_simp
      try with_reducible rfl
    try simp only [Act.put, List.setIfInBounds_toArray, List.set_cons_zero, List.set_cons_succ]
    refine wpW_take 9 (v := ?_) rfl (by kernel_rfl) (by kernel_rfl) (by kernel_rfl) (by kernel_rfl) (fun _ _ _ h => h) (Or.inl ⟨by rfl, ?_⟩) hHeld ?_
    rotate_left
    · intro w hSw
      try dsimp only at hSw
      go_simp
      try with_reducible rfl
    try simp only [Act.put, List.setIfInBounds_toArray, List.set_cons_zero, List.set_cons_succ]
    refine wpW_take 10 (v := ?_) rfl (by kernel_rfl) (by kernel_rfl) (by kernel_rfl) (by kernel_rfl) (fun _ _ _ h => h) (Or.inl ⟨by rfl, ?_⟩) hHeld ?_
    rotate_left
    · intro w hSw
      try dsimp only at hSw
      go_simp
      try with_reducible rfl
    try simp only [Act.put, List.setIfInBounds_toArray, List.set_cons_zero, List.set_cons_succ]
    refine wpW_take 12 (v := ?_) rfl (by kernel_rfl) (by kernel_rfl) (by kernel_rfl) (by kernel_rfl) (fun _ _ _ h => h) (Or.inl ⟨by rfl, ?_⟩) hHeld ?_
    rotate_left
    · intro w hSw
      try dsimp only at hSw
      go_simp
      try with_reducible rfl
    try simp only [Act.put, List.setIfInBounds_toArray, List.set_cons_zero, List.set_cons_succ]
    refine wpW_take 13 (v := ?_) rfl (by kernel_rfl) (by kernel_rfl) (by kernel_rfl) (by kernel_rfl) (fun _ _ _ h => h) (Or.inl ⟨by rfl, ?_⟩) hHeld ?_
    rotate_left
    · intro w hSw
      try dsimp only at hSw
      go_simp
      try with_reducible rfl
    try simp only [Act.put, List.setIfInBounds_toArray, List.set_cons_zero, List.set_cons_succ]
    refine wpW_all [2, 15] (by kernel_rfl) (by simp) ?_
    refine AllW.cons (i := 2) rfl (fun K hK => ?_) ?_
    · skip
      go_simp
      refine (HC1.out X.drew (HBX.out.trans (hbD.mono HBX.out.size))).mono ?_
      rintro e w1 ⟨a0, c0, rfl, hn1, ho1⟩
      have hb1 : Below X.heap.size X w1 := hbD.trans (hn1.mono hbD.size)
      have ho1b := own_more ho1 (b' := w.heap.size) (by have h1 := hbD.size; have h2 := HBX.out.size; omega)
      have y1_0 : w1.cell? ⟨w.heap.size, 0, none⟩ = some (.slice tA T tc) := (hb1.cell (p := ⟨w.heap.size, 0, none⟩) HML.out).trans m0
      have y1_1 : w1.cell? ⟨w.heap.size, 1, none⟩ = some (.slice fA NF fc) := (hb1.cell (p := ⟨w.heap.size, 1, none⟩) HML.out).trans m1
      have y1_3 : w1.cell? ⟨w.heap.size, 3, none⟩ = some (.slice dA ND dc) := (hb1.cell (p := ⟨w.heap.size, 3, none⟩) HML.out).trans m3
      have y1_4 : w1.cell? ⟨w.heap.size, 4, none⟩ = some (.slice lA NL lc) := (hb1.cell (p := ⟨w.heap.size, 4, none⟩) HML.out).trans m4
      have y1_5 : w1.cell? ⟨w.heap.size, 5, none⟩ = some (.int .i64 EN) := (hb1.cell (p := ⟨w.heap.size, 5, none⟩) HML.out).trans m5
      refine hK.out _ _ (by (try dsimp only); go_keep) (fun hHeld => ?_)
      clear hK K
      try simp only [Act.put, List.setIfInBounds_toArray, List.set_cons_zero, List.set_cons_succ]
      refine wpW_all [5, 15] (by kernel_rfl) (by simp) ?_
      refine AllW.cons (i := 5) rfl (fun K hK => ?_) ?_
      · skip
        go_simp
        refine (HC2.out w1 (HBX.out.trans (hb1.mono HBX.out.size))).mono ?_
        rintro e w2 ⟨a1, c1, rfl, hn2, ho2⟩
        have hb2 : Below X.heap.size X w2 := hb1.trans (hn2.mono hb1.size)
        have ho2b := own_more ho2 (b' := w.heap.size) (by have h1 := hb1.size; have h2 := HBX.out.size; omega)
        have r2_2 := own_keep ho1b hn2
        have y2_0 : w2.cell? ⟨w.heap.size, 0, none⟩ = some (.slice tA T tc) := (hb2.cell (p := ⟨w.heap.size, 0, none⟩) HML.out).trans m0
        have y2_1 : w2.cell? ⟨w.heap.size, 1, none⟩ = some (.slice fA NF fc) := (hb2.cell (p := ⟨w.heap.size, 1, none⟩) HML.out).trans m1
        have y2_3 : w2.cell? ⟨w.heap.size, 3, none⟩ = some (.slice dA ND dc) := (hb2.cell (p := ⟨w.heap.size, 3, none⟩) HML.out).trans m3
        have y2_4 : w2.cell? ⟨w.heap.size, 4, none⟩ = some (.slice lA NL lc) := (hb2.cell (p := ⟨w.heap.size, 4, none⟩) HML.out).trans m4
        have y2_5 : w2.cell? ⟨w.heap.size, 5, none⟩ = some (.int .i64 EN) := (hb2.cell (p := ⟨w.heap.size, 5, none⟩) HML.out).trans m5
        refine hK.out _ _ (by (try dsimp only); go_keep) (fun hHeld => ?_)
        clear hK K
        try simp only [Act.put, List.setIfInBounds_toArray, List.set_cons_zero, List.set_cons_succ]
        refine wpW_all [8, 15] (by kernel_rfl) (by simp) ?_
        refine AllW.cons (i := 8) rfl (fun K hK => ?_) ?_
        · skip
          go_simp
          refine (HC3.out w2 (HBX.out.trans (hb2.mono HBX.out.size))).mono ?_
          rintro e w3 ⟨a3, c3, rfl, hn3, ho3⟩
          have hb3 : Below X.heap.size X w3 := hb2.trans (hn3.mono hb2.size)
          have ho3b := own_more ho3 (b' := w.heap.size) (by have h1 := hb2.size; have h2 := HBX.out.size; omega)
          have r3_2 := own_keep r2_2 hn3
          have r3_5 := own_keep ho2b hn3
          have y3_0 : w3.cell? ⟨w.heap.size, 0, none⟩ = some (.slice tA T tc) := (hb3.cell (p := ⟨w.heap.size, 0, none⟩) HML.out).trans m0
          have y3_1 : w3.cell? ⟨w.heap.size, 1, none⟩ = some (.slice fA NF fc) := (hb3.cell (p := ⟨w.heap.size, 1, none⟩) HML.out).trans m1
          have y3_3 : w3.cell? ⟨w.heap.size, 3, none⟩ = some (.slice dA ND dc) := (hb3.cell (p := ⟨w.heap.size, 3, none⟩) HML.out).trans m3
          have y3_4 : w3.cell? ⟨w.heap.size, 4, none⟩ = some (.slice lA NL lc) := (hb3.cell (p := ⟨w.heap.size, 4, none⟩) HML.out).trans m4
          have y3_5 : w3.cell? ⟨w.heap.size, 5, none⟩ = some (.int .i64 EN) := (hb3.cell (p := ⟨w.heap.size, 5, none⟩) HML.out).trans m5
          refine hK.out _ _ (by (try dsimp only); go_keep) (fun hHeld => ?_)
          clear hK K
          try simp only [Act.put, List.setIfInBounds_toArray, List.set_cons_zero, List.set_cons_succ]
          refine wpW_all [11, 15] (by kernel_rfl) (by simp) ?_
          refine AllW.cons (i := 11) rfl (fun K hK => ?_) ?_
          · skip
            go_simp
            refine (HC4.out w3 (HBX.out.trans (hb3.mono HBX.out.size))).mono ?_
            rintro e w4 ⟨a4, c4, rfl, hn4, ho4⟩
            have hb4 : Below X.heap.size X w4 := hb3.trans (hn4.mono hb3.size)
            have ho4b := own_more ho4 (b' := w.heap.size) (by have h1 := hb3.size; have h2 := HBX.out.size; omega)
            have r4_2 := own_keep r3_2 hn4
            have r4_5 := own_keep r3_5 hn4
            have r4_8 := own_keep ho3b hn4
            have y4_0 : w4.cell? ⟨w.heap.size, 0, none⟩ = some (.slice tA T tc) := (hb4.cell (p := ⟨w.heap.size, 0, none⟩) HML.out).trans m0
            have y4_1 : w4.cell? ⟨w.heap.size, 1, none⟩ = some (.slice fA NF fc) := (hb4.cell (p := ⟨w.heap.size, 1, none⟩) HML.out).trans m1
            have y4_3 : w4.cell? ⟨w.heap.size, 3, none⟩ = some (.slice dA ND dc) := (hb4.cell (p := ⟨w.heap.size, 3, none⟩) HML.out).trans m3
            have y4_4 : w4.cell? ⟨w.heap.size, 4, none⟩ = some (.slice lA NL lc) := (hb4.cell (p := ⟨w.heap.size, 4, none⟩) HML.out).trans m4
            have y4_5 : w4.cell? ⟨w.heap.size, 5, none⟩ = some (.int .i64 EN) := (hb4.cell (p := ⟨w.heap.size, 5, none⟩) HML.out).trans m5
            refine hK.out _ _ (by (try dsimp only); go_keep) (fun hHeld => ?_)
            clear hK K
            try simp only [Act.put, List.setIfInBounds_toArray, List.set_cons_zero, List.set_cons_succ]
            refine wpW_take 14 (v := ?_) rfl (by kernel_rfl) (by kernel_rfl) (by kernel_rfl) (by kernel_rfl) (fun _ _ _ h => h) (Or.inl ⟨by rfl, ?_⟩) hHeld ?_
            rotate_left
            · intro w hSw
              try dsimp only at hSw
              go_simp
              try with_reducible rfl
            try simp only [Act.put, List.setIfInBounds_toArray, List.set_cons_zero, List.set_cons_succ]
            refine wpW_one 15 rfl (by kernel_rfl) (fun K hK => ?_)
            go_simp
            have hb5 : Below X.heap.size X (w4.alloc (.cells #[.slice none 0 0, .slice none 0 0, .slice none 0 0, .slice none 0 0, .slice none 0 0, .int .i64 0] 29)) := hb4.alloc (hb4.size) _
            have zb5 : Blk (w4.alloc (.cells #[.slice none 0 0, .slice none 0 0, .slice none 0 0, .slice none 0 0, .slice none 0 0, .int .i64 0] 29)) (w4.heap.size) 29 [.slice none 0 0, .slice none 0 0, .slice none 0 0, .slice none 0 0, .slice none 0 0, .int .i64 0] := Blk.new w4 _ _
            have hY5 : X.heap.size ≤ w4.heap.size := hb4.size
            have r5_2 := World.ownsRow.alloc r4_2 (.cells #[.slice none 0 0, .slice none 0 0, .slice none 0 0, .slice none 0 0, .slice none 0 0, .int .i64 0] 29)
            have r5_5 := World.ownsRow.alloc r4_5 (.cells #[.slice none 0 0, .slice none 0 0, .slice none 0 0, .slice none 0 0, .slice none 0 0, .int .i64 0] 29)
            have r5_8 := World.ownsRow.alloc r4_8 (.cells #[.slice none 0 0, .slice none 0 0, .slice none 0 0, .slice none 0 0, .slice none 0 0, .int .i64 0] 29)
            have r5_11 := World.ownsRow.alloc ho4b (.cells #[.slice none 0 0, .slice none 0 0, .slice none 0 0, .slice none 0 0, .slice none 0 0, .int .i64 0] 29)
            have zl5 := zb5.lt
            have hne5 : ¬ w4.heap.size = w.heap.size := by have := HX2.out; omega
            have zc5_0 := zb5.cell 0 rfl
            have zc5_1 := zb5.cell 1 rfl
            have zc5_2 := zb5.cell 2 rfl
            have zc5_3 := zb5.cell 3 rfl
            have zc5_4 := zb5.cell 4 rfl
            have zc5_5 := zb5.cell 5 rfl
            have zf5_0 := zb5.free 0
            have zf5_1 := zb5.free 1
            have zf5_2 := zb5.free 2
            have zf5_3 := zb5.free 3
            have zf5_4 := zb5.free 4
            have zf5_5 := zb5.free 5
            refine hK.out _ _ (by (try dsimp only); go_keep) (fun hHeld => ?_)
            clear hK K
            try simp only [Act.put, List.setIfInBounds_toArray, List.set_cons_zero, List.set_cons_succ]
            refine wpW_last 16 rfl (by kernel_rfl) (by decide) (fun K hK => ?_)
            go_simp
            refine hK.out _ _ ?_
            clear hK K
            try simp only [Act.put, List.setIfInBounds_toArray, List.set_cons_zero, List.set_cons_succ]
            refine wpW_done (by kernel_rfl) ?_ _
            go_wp2
            go_meet
            exact ⟨_, a0, c0, a1, c1, a3, c3, a4, c4, 0, rfl, Lib.hid (cp_new HX0.out HXR.out HBX.out HX2.out HN.out hb4 r4_2 r4_5 r4_8 ho4b)⟩
          refine AllW.cons (i := 15) rfl (fun K hK => ?_) AllW.nil
          go_simp
          have hb7 : Below X.heap.size X (w3.alloc (.cells #[.slice none 0 0, .slice none 0 0, .slice none 0 0, .slice none 0 0, .slice none 0 0, .int .i64 0] 29)) := hb3.alloc (hb3.size) _
          have zb7 : Blk (w3.alloc (.cells #[.slice none 0 0, .slice none 0 0, .slice none 0 0, .slice none 0 0, .slice none 0 0, .int .i64 0] 29)) (w3.heap.size) 29 [.slice none 0 0, .slice none 0 0, .slice none 0 0, .slice none 0 0, .slice none 0 0, .int .i64 0] := Blk.new w3 _ _
          have hY7 : X.heap.size ≤ w3.heap.size := hb3.size
          have r7_2 := World.ownsRow.alloc r3_2 (.cells #[.slice none 0 0, .slice none 0 0, .slice none 0 0, .slice none 0 0, .slice none 0 0, .int .i64 0] 29)
          have r7_5 := World.ownsRow.alloc r3_5 (.cells #[.slice none 0 0, .slice none 0 0, .slice none 0 0, .slice none 0 0, .slice none 0 0, .int .i64 0] 29)
          have r7_8 := World.ownsRow.alloc ho3b (.cells #[.slice none 0 0, .slice none 0 0, .slice none 0 0, .slice none 0 0, .slice none 0 0, .int .i64 0] 29)
          have zl7 := zb7.lt
          have hne7 : ¬ w3.heap.size = w.heap.size := by have := HX2.out; omega
          have zc7_0 := zb7.cell 0 rfl
          have zc7_1 := zb7.cell 1 rfl
          have zc7_2 := zb7.cell 2 rfl
          have zc7_3 := zb7.cell 3 rfl
          have zc7_4 := zb7.cell 4 rfl
          have zc7_5 := zb7.cell 5 rfl
          have zf7_0 := zb7.free 0
          have zf7_1 := zb7.free 1
          have zf7_2 := zb7.free 2
          have zf7_3 := zb7.free 3
          have zf7_4 := zb7.free 4
          have zf7_5 := zb7.free 5
          refine hK.out _ _ (by (try dsimp only); go_keep) (fun hHeld => ?_)
          clear hK K
          try simp only [Act.put, List.setIfInBounds_toArray, List.set_cons_zero, List.set_cons_succ]
          refine wpW_one 11 rfl (by kernel_rfl) (fun K hK => ?_)
          go_simp
          refine (HC4.out (w3.alloc (.cells #[.slice none 0 0, .slice none 0 0, .slice none 0 0, .slice none 0 0, .slice none 0 0, .int .i64 0] 29)) (HBX.out.trans (hb7.mono HBX.out.size))).mono ?_
          rintro e w8 ⟨a4, c4, rfl, hn8, ho8⟩
          have hb8 : Below X.heap.size X w8 := hb7.trans (hn8.mono hb7.size)
          have ho8b := own_more ho8 (b' := w.heap.size) (by have h1 := hb7.size; have h2 := HBX.out.size; omega)
          have r8_2 := own_keep r7_2 hn8
          have r8_5 := own_keep r7_5 hn8
          have r8_8 := own_keep r7_8 hn8
          have y8_0 : w8.cell? ⟨w.heap.size, 0, none⟩ = some (.slice tA T tc) := (hb8.cell (p := ⟨w.heap.size, 0, none⟩) HML.out).trans m0
          have y8_1 : w8.cell? ⟨w.heap.size, 1, none⟩ = some (.slice fA NF fc) := (hb8.cell (p := ⟨w.heap.size, 1, none⟩) HML.out).trans m1
          have y8_3 : w8.cell? ⟨w.heap.size, 3, none⟩ = some (.slice dA ND dc) := (hb8.cell (p := ⟨w.heap.size, 3, none⟩) HML.out).trans m3
          have y8_4 : w8.cell? ⟨w.heap.size, 4, none⟩ = some (.slice lA NL lc) := (hb8.cell (p := ⟨w.heap.size, 4, none⟩) HML.out).trans m4
          have y8_5 : w8.cell? ⟨w.heap.size, 5, none⟩ = some (.int .i64 EN) := (hb8.cell (p := ⟨w.heap.size, 5, none⟩) HML.out).trans m5
          have zb8 := zb7.keep hn8
          have zl8 := zb8.lt
          have zc8_0 := zb8.cell 0 rfl
          have zc8_1 := zb8.cell 1 rfl
          have zc8_2 := zb8.cell 2 rfl
          have zc8_3 := zb8.cell 3 rfl
          have zc8_4 := zb8.cell 4 rfl
          have zc8_5 := zb8.cell 5 rfl
          have zf8_0 := zb8.free 0
          have zf8_1 := zb8.free 1
          have zf8_2 := zb8.free 2
          have zf8_3 := zb8.free 3
          have zf8_4 := zb8.free 4
          have zf8_5 := zb8.free 5
          refine hK.out _ _ (by (try dsimp only); go_keep) (fun hHeld => ?_)
          clear hK K
          try simp only [Act.put, List.setIfInBounds_toArray, List.set_cons_zero, List.set_cons_succ]
          refine wpW_take 14 (v := ?_) rfl (by kernel_rfl) (by kernel_rfl) (by kernel_rfl) (by kernel_rfl) (fun _ _ _ h => h) (Or.inl ⟨by rfl, ?_⟩) hHeld ?_
          rotate_left
          · intro w hSw
            try dsimp only at hSw
            go_simp
            try with_reducible rfl
          try simp only [Act.put, List.setIfInBounds_toArray, List.set_cons_zero, List.set_cons_succ]
          refine wpW_last 16 rfl (by kernel_rfl) (by decide) (fun K hK => ?_)
          go_simp
          refine hK.out _ _ ?_
          clear hK K
          try simp only [Act.put, List.setIfInBounds_toArray, List.set_cons_zero, List.set_cons_succ]
          refine wpW_done (by kernel_rfl) ?_ _
          go_wp2
          go_meet
          exact ⟨_, a0, c0, a1, c1, a3, c3, a4, c4, 0, rfl, Lib.hid (cp_old HX0.out HXR.out HBX.out HX2.out HN.out hb8 r8_2 r8_5 r8_8 ho8b zb8 hY7)⟩
        refine AllW.cons (i := 15) rfl (fun K hK => ?_) AllW.nil
        go_simp
        have hb10 : Below X.heap.size X (w2.alloc (.cells #[.slice none 0 0, .slice none 0 0, .slice none 0 0, .slice none 0 0, .slice none 0 0, .int .i64 0] 29)) := hb2.alloc (hb2.size) _
        have zb10 : Blk (w2.alloc (.cells #[.slice none 0 0, .slice none 0 0, .slice none 0 0, .slice none 0 0, .slice none 0 0, .int .i64 0] 29)) (w2.heap.size) 29 [.slice none 0 0, .slice none 0 0, .slice none 0 0, .slice none 0 0, .slice none 0 0, .int .i64 0] := Blk.new w2 _ _
        have hY10 : X.heap.size ≤ w2.heap.size := hb2.size
        have r10_2 := World.ownsRow.alloc r2_2 (.cells #[.slice none 0 0, .slice none 0 0, .slice none 0 0, .slice none 0 0, .slice none 0 0, .int .i64 0] 29)
        have r10_5 := World.ownsRow.alloc ho2b (.cells #[.slice none 0 0, .slice none 0 0, .slice none 0 0, .slice none 0 0, .slice none 0 0, .int .i64 0] 29)
        have zl10 := zb10.lt
        have hne10 : ¬ w2.heap.size = w.heap.size := by have := HX2.out; omega
        have zc10_0 := zb10.cell 0 rfl
        have zc10_1 := zb10.cell 1 rfl
        have zc10_2 := zb10.cell 2 rfl
        have zc10_3 := zb10.cell 3 rfl
        have zc10_4 := zb10.cell 4 rfl
        have zc10_5 := zb10.cell 5 rfl
        have zf10_0 := zb10.free 0
        have zf10_1 := zb10.free 1
        have zf10_2 := zb10.free 2
        have zf10_3 := zb10.free 3
        have zf10_4 := zb10.free 4
        have zf10_5 := zb10.free 5
        refine hK.out _ _ (by (try dsimp only); go_keep) (fun hHeld => ?_)
        clear hK K
        try simp only [Act.put, List.setIfInBounds_toArray, List.set_cons_zero, List.set_cons_succ]
        refine wpW_one 8 rfl (by kernel_rfl) (fun K hK => ?_)
        go_simp
        refine (HC3.out (w2.alloc (.cells #[.slice none 0 0, .slice none 0 0, .slice none 0 0, .slice none 0 0, .slice none 0 0, .int .i64 0] 29)) (HBX.out.trans (hb10.mono HBX.out.size))).mono ?_
        rintro e w11 ⟨a3, c3, rfl, hn11, ho11⟩
        have hb11 : Below X.heap.size X w11 := hb10.trans (hn11.mono hb10.size)
        have ho11b := own_more ho11 (b' := w.heap.size) (by have h1 := hb10.size; have h2 := HBX.out.size; omega)
        have r11_2 := own_keep r10_2 hn11
        have r11_5 := own_keep r10_5 hn11
        have y11_0 : w11.cell? ⟨w.heap.size, 0, none⟩ = some (.slice tA T tc) := (hb11.cell (p := ⟨w.heap.size, 0, none⟩) HML.out).trans m0
        have y11_1 : w11.cell? ⟨w.heap.size, 1, none⟩ = some (.slice fA NF fc) := (hb11.cell (p := ⟨w.heap.size, 1, none⟩) HML.out).trans m1
        have y11_3 : w11.cell? ⟨w.heap.size, 3, none⟩ = some (.slice dA ND dc) := (hb11.cell (p := ⟨w.heap.size, 3, none⟩) HML.out).trans m3
        have y11_4 : w11.cell? ⟨w.heap.size, 4, none⟩ = some (.slice lA NL lc) := (hb11.cell (p := ⟨w.heap.size, 4, none⟩) HML.out).trans m4
        have y11_5 : w11.cell? ⟨w.heap.size, 5, none⟩ = some (.int .i64 EN) := (hb11.cell (p := ⟨w.heap.size, 5, none⟩) HML.out).trans m5
        have zb11 := zb10.keep hn11
        have zl11 := zb11.lt
        have zc11_0 := zb11.cell 0 rfl
        have zc11_1 := zb11.cell 1 rfl
        have zc11_2 := zb11.cell 2 rfl
        have zc11_3 := zb11.cell 3 rfl
        have zc11_4 := zb11.cell 4 rfl
        have zc11_5 := zb11.cell 5 rfl
        have zf11_0 := zb11.free 0
        have zf11_1 := zb11.free 1
        have zf11_2 := zb11.free 2
        have zf11_3 := zb11.free 3
        have zf11_4 := zb11.free 4
        have zf11_5 := zb11.free 5
        refine hK.out _ _ (by (try dsimp only); go_keep) (fun hHeld => ?_)
        clear hK K
        try simp only [Act.put, List.setIfInBounds_toArray, List.set_cons_zero, List.set_cons_succ]
        refine wpW_one 11 rfl (by kernel_rfl) (fun K hK => ?_)
        go_simp
        refine (HC4.out w11 (HBX.out.trans (hb11.mono HBX.out.size))).mono ?_
        rintro e w12 ⟨a4, c4, rfl, hn12, ho12⟩
        have hb12 : Below X.heap.size X w12 := hb11.trans (hn12.mono hb11.size)
        have ho12b := own_more ho12 (b' := w.heap.size) (by have h1 := hb11.size; have h2 := HBX.out.size; omega)
        have r12_2 := own_keep r11_2 hn12
        have r12_5 := own_keep r11_5 hn12
        have r12_8 := own_keep ho11b hn12
        have y12_0 : w12.cell? ⟨w.heap.size, 0, none⟩ = some (.slice tA T tc) := (hb12.cell (p := ⟨w.heap.size, 0, none⟩) HML.out).trans m0
        have y12_1 : w12.cell? ⟨w.heap.size, 1, none⟩ = some (.slice fA NF fc) := (hb12.cell (p := ⟨w.heap.size, 1, none⟩) HML.out).trans m1
        have y12_3 : w12.cell? ⟨w.heap.size, 3, none⟩ = some (.slice dA ND dc) := (hb12.cell (p := ⟨w.heap.size, 3, none⟩) HML.out).trans m3
        have y12_4 : w12.cell? ⟨w.heap.size, 4, none⟩ = some (.slice lA NL lc) := (hb12.cell (p := ⟨w.heap.size, 4, none⟩) HML.out).trans m4
        have y12_5 : w12.cell? ⟨w.heap.size, 5, none⟩ = some (.int .i64 EN) := (hb12.cell (p := ⟨w.heap.size, 5, none⟩) HML.out).trans m5
        have zb12 := zb11.keep hn12
        have zl12 := zb12.lt
        have zc12_0 := zb12.cell 0 rfl
        have zc12_1 := zb12.cell 1 rfl
        have zc12_2 := zb12.cell 2 rfl
        have zc12_3 := zb12.cell 3 rfl
        have zc12_4 := zb12.cell 4 rfl
        have zc12_5 := zb12.cell 5 rfl
        have zf12_0 := zb12.free 0
        have zf12_1 := zb12.free 1
        have zf12_2 := zb12.free 2
        have zf12_3 := zb12.free 3
        have zf12_4 := zb12.free 4
        have zf12_5 := zb12.free 5
        refine hK.out _ _ (by (try dsimp only); go_keep) (fun hHeld => ?_)
        clear hK K
        try simp only [Act.put, List.setIfInBounds_toArray, List.set_cons_zero, List.set_cons_succ]
        refine wpW_take 14 (v := ?_) rfl (by kernel_rfl) (by kernel_rfl) (by kernel_rfl) (by kernel_rfl) (fun _ _ _ h => h) (Or.inl ⟨by rfl, ?_⟩) hHeld ?_
        rotate_left
        · intro w hSw
          try dsimp only at hSw
          go_simp
          try with_reducible rfl
        try simp only [Act.put, List.setIfInBounds_toArray, List.set_cons_zero, List.set_cons_succ]
        refine wpW_last 16 rfl (by kernel_rfl) (by decide) (fun K hK => ?_)
        go_simp
        refine hK.out _ _ ?_
        clear hK K
        try simp only [Act.put, List.setIfInBounds_toArray, List.set_cons_zero, List.set_cons_succ]
        refine wpW_done (by kernel_rfl) ?_ _
        go_wp2
        go_meet
        exact ⟨_, a0, c0, a1, c1, a3, c3, a4, c4, 0, rfl, Lib.hid (cp_old HX0.out HXR.out HBX.out HX2.out HN.out hb12 r12_2 r12_5 r12_8 ho12b zb12 hY10)⟩
      refine AllW.cons (i := 15) rfl (fun K hK => ?_) AllW.nil
      go_simp
      have hb14 : Below X.heap.size X (w1.alloc (.cells #[.slice none 0 0, .slice none 0 0, .slice none 0 0, .slice none 0 0, .slice none 0 0, .int .i64 0] 29)) := hb1.alloc (hb1.size) _
      have zb14 : Blk (w1.alloc (.cells #[.slice none 0 0, .slice none 0 0, .slice none 0 0, .slice none 0 0, .slice none 0 0, .int .i64 0] 29)) (w1.heap.size) 29 [.slice none 0 0, .slice none 0 0, .slice none 0 0, .slice none 0 0, .slice none 0 0, .int .i64 0] := Blk.new w1 _ _
      have hY14 : X.heap.size ≤ w1.heap.size := hb1.size
      have r14_2 := World.ownsRow.alloc ho1b (.cells #[.slice none 0 0, .slice none 0 0, .slice none 0 0, .slice none 0 0, .slice none 0 0, .int .i64 0] 29)
      have zl14 := zb14.lt
      have hne14 : ¬ w1.heap.size = w.heap.size := by have := HX2.out; omega
      have zc14_0 := zb14.cell 0 rfl
      have zc14_1 := zb14.cell 1 rfl
      have zc14_2 := zb14.cell 2 rfl
      have zc14_3 := zb14.cell 3 rfl
      have zc14_4 := zb14.cell 4 rfl
      have zc14_5 := zb14.cell 5 rfl
      have zf14_0 := zb14.free 0
      have zf14_1 := zb14.free 1
      have zf14_2 := zb14.free 2
      have zf14_3 := zb14.free 3
      have zf14_4 := zb14.free 4
      have zf14_5 := zb14.free 5
      refine hK.out _ _ (by (try dsimp only); go_keep) (fun hHeld => ?_)
      clear hK K
      try simp only [Act.put, List.setIfInBounds_toArray, List.set_cons_zero, List.set_cons_succ]
      refine wpW_one 5 rfl (by kernel_rfl) (fun K hK => ?_)
      go_simp
      refine (HC2.out (w1.alloc (.cells #[.slice none 0 0, .slice none 0 0, .slice none 0 0, .slice none 0 0, .slice none 0 0, .int .i64 0] 29)) (HBX.out.trans (hb14.mono HBX.out.size))).mono ?_
      rintro e w15 ⟨a1, c1, rfl, hn15, ho15⟩
      have hb15 : Below X.heap.size X w15 := hb14.trans (hn15.mono hb14.size)
      have ho15b := own_more ho15 (b' := w.heap.size) (by have h1 := hb14.size; have h2 := HBX.out.size; omega)
      have r15_2 := own_keep r14_2 hn15
      have y15_0 : w15.cell? ⟨w.heap.size, 0, none⟩ = some (.slice tA T tc) := (hb15.cell (p := ⟨w.heap.size, 0, none⟩) HML.out).trans m0
      have y15_1 : w15.cell? ⟨w.heap.size, 1, none⟩ = some (.slice fA NF fc) := (hb15.cell (p := ⟨w.heap.size, 1, none⟩) HML.out).trans m1
      have y15_3 : w15.cell? ⟨w.heap.size, 3, none⟩ = some (.slice dA ND dc) := (hb15.cell (p := ⟨w.heap.size, 3, none⟩) HML.out).trans m3
      have y15_4 : w15.cell? ⟨w.heap.size, 4, none⟩ = some (.slice lA NL lc) := (hb15.cell (p := ⟨w.heap.size, 4, none⟩) HML.out).trans m4
      have y15_5 : w15.cell? ⟨w.heap.size, 5, none⟩ = some (.int .i64 EN) := (hb15.cell (p := ⟨w.heap.size, 5, none⟩) HML.out).trans m5
      have zb15 := zb14.keep hn15
      have zl15 := zb15.lt
      have zc15_0 := zb15.cell 0 rfl
      have zc15_1 := zb15.cell 1 rfl
      have zc15_2 := zb15.cell 2 rfl
      have zc15_3 := zb15.cell 3 rfl
      have zc15_4 := zb15.cell 4 rfl
      have zc15_5 := zb15.cell 5 rfl
      have zf15_0 := zb15.free 0
      have zf15_1 := zb15.free 1
      have zf15_2 := zb15.free 2
      have zf15_3 := zb15.free 3
      have zf15_4 := zb15.free 4
      have zf15_5 := zb15.free 5
      refine hK.out _ _ (by (try dsimp only); go_keep) (fun hHeld => ?_)
      clear hK K
      try simp only [Act.put, List.setIfInBounds_toArray, List.set_cons_zero, List.set_cons_succ]
      refine wpW_one 8 rfl (by kernel_rfl) (fun K hK => ?_)
      go_simp
      refine (HC3.out w15 (HBX.out.trans (hb15.mono HBX.out.size))).mono ?_
      rintro e w16 ⟨a3, c3, rfl, hn16, ho16⟩
      have hb16 : Below X.heap.size X w16 := hb15.trans (hn16.mono hb15.size)
      have ho16b := own_more ho16 (b' := w.heap.size) (by have h1 := hb15.size; have h2 := HBX.out.size; omega)
      have r16_2 := own_keep r15_2 hn16
      have r16_5 := own_keep ho15b hn16
      have y16_0 : w16.cell? ⟨w.heap.size, 0, none⟩ = some (.slice tA T tc) := (hb16.cell (p := ⟨w.heap.size, 0, none⟩) HML.out).trans m0
      have y16_1 : w16.cell? ⟨w.heap.size, 1, none⟩ = some (.slice fA NF fc) := (hb16.cell (p := ⟨w.heap.size, 1, none⟩) HML.out).trans m1
      have y16_3 : w16.cell? ⟨w.heap.size, 3, none⟩ = some (.slice dA ND dc) := (hb16.cell (p := ⟨w.heap.size, 3, none⟩) HML.out).trans m3
      have y16_4 : w16.cell? ⟨w.heap.size, 4, none⟩ = some (.slice lA NL lc) := (hb16.cell (p := ⟨w.heap.size, 4, none⟩) HML.out).trans m4
      have y16_5 : w16.cell? ⟨w.heap.size, 5, none⟩ = some (.int .i64 EN) := (hb16.cell (p := ⟨w.heap.size, 5, none⟩) HML.out).trans m5
      have zb16 := zb15.keep hn16
      have zl16 := zb16.lt
      have zc16_0 := zb16.cell 0 rfl
      have zc16_1 := zb16.cell 1 rfl
      have zc16_2 := zb16.cell 2 rfl
      have zc16_3 := zb16.cell 3 rfl
      have zc16_4 := zb16.cell 4 rfl
      have zc16_5 := zb16.cell 5 rfl
      have zf16_0 := zb16.free 0
      have zf16_1 := zb16.free 1
      have zf16_2 := zb16.free 2
      have zf16_3 := zb16.free 3
      have zf16_4 := zb16.free 4
      have zf16_5 := zb16.free 5
      refine hK.out _ _ (by (try dsimp only); go_keep) (fun hHeld => ?_)
      clear hK K
      try simp only [Act.put, List.setIfInBounds_toArray, List.set_cons_zero, List.set_cons_succ]
      refine wpW_one 11 rfl (by kernel_rfl) (fun K hK => ?_)
      go_simp
      refine (HC4.out w16 (HBX.out.trans (hb16.mono HBX.out.size))).mono ?_
      rintro e w17 ⟨a4, c4, rfl, hn17, ho17⟩
      have hb17 : Below X.heap.size X w17 := hb16.trans (hn17.mono hb16.size)
      have ho17b := own_more ho17 (b' := w.heap.size) (by have h1 := hb16.size; have h2 := HBX.out.size; omega)
      have r17_2 := own_keep r16_2 hn17
      have r17_5 := own_keep r16_5 hn17
      have r17_8 := own_keep ho16b hn17
      have y17_0 : w17.cell? ⟨w.heap.size, 0, none⟩ = some (.slice tA T tc) := (hb17.cell (p := ⟨w.heap.size, 0, none⟩) HML.out).trans m0
      have y17_1 : w17.cell? ⟨w.heap.size, 1, none⟩ = some (.slice fA NF fc) := (hb17.cell (p := ⟨w.heap.size, 1, none⟩) HML.out).trans m1
      have y17_3 : w17.cell? ⟨w.heap.size, 3, none⟩ = some (.slice dA ND dc) := (hb17.cell (p := ⟨w.heap.size, 3, none⟩) HML.out).trans m3
      have y17_4 : w17.cell? ⟨w.heap.size, 4, none⟩ = some (.slice lA NL lc) := (hb17.cell (p := ⟨w.heap.size, 4, none⟩) HML.out).trans m4
      have y17_5 : w17.cell? ⟨w.heap.size, 5, none⟩ = some (.int .i64 EN) := (hb17.cell (p := ⟨w.heap.size, 5, none⟩) HML.out).trans m5
      have zb17 := zb16.keep hn17
      have zl17 := zb17.lt
      have zc17_0 := zb17.cell 0 rfl
      have zc17_1 := zb17.cell 1 rfl
      have zc17_2 := zb17.cell 2 rfl
      have zc17_3 := zb17.cell 3 rfl
      have zc17_4 := zb17.cell 4 rfl
      have zc17_5 := zb17.cell 5 rfl
      have zf17_0 := zb17.free 0
      have zf17_1 := zb17.free 1
      have zf17_2 := zb17.free 2
      have zf17_3 := zb17.free 3
      have zf17_4 := zb17.free 4
      have zf17_5 := zb17.free 5
      refine hK.out _ _ (by (try dsimp only); go_keep) (fun hHeld => ?_)
      clear hK K
      try simp only [Act.put, List.setIfInBounds_toArray, List.set_cons_zero, List.set_cons_succ]
      refine wpW_take 14 (v := ?_) rfl (by kernel_rfl) (by kernel_rfl) (by kernel_rfl) (by kernel_rfl) (fun _ _ _ h => h) (Or.inl ⟨by rfl, ?_⟩) hHeld ?_
      rotate_left
      · intro w hSw
        try dsimp only at hSw
        go_simp
        try with_reducible rfl
      try simp only [Act.put, List.setIfInBounds_toArray, List.set_cons_zero, List.set_cons_succ]
      refine wpW_last 16 rfl (by kernel_rfl) (by decide) (fun K hK => ?_)
      go_simp
      refine hK.out _ _ ?_
      clear hK K
      try simp only [Act.put, List.setIfInBounds_toArray, List.set_cons_zero, List.set_cons_succ]
      refine wpW_done (by kernel_rfl) ?_ _
      go_wp2
      go_meet
      exact ⟨_, a0, c0, a1, c1, a3, c3, a4, c4, 0, rfl, Lib.hid (cp_old HX0.out HXR.out HBX.out HX2.out HN.out hb17 r17_2 r17_5 r17_8 ho17b zb17 hY14)⟩
    refine AllW.cons (i := 15) rfl (fun K hK => ?_) AllW.nil
    go_simp
    have hb19 : Below X.heap.size X (X.alloc (.cells #[.slice none 0 0, .slice none 0 0, .slice none 0 0, .slice none 0 0, .slice none 0 0, .int .i64 0] 29)).drew := ((Below.refl _ _).alloc (Nat.le_refl _) _).drew
    have zb19 : Blk (X.alloc (.cells #[.slice none 0 0, .slice none 0 0, .slice none 0 0, .slice none 0 0, .slice none 0 0, .int .i64 0] 29)).drew X.heap.size 29 [.slice none 0 0, .slice none 0 0, .slice none 0 0, .slice none 0 0, .slice none 0 0, .int .i64 0] := Blk.drew (Blk.new X _ _)
    have hY19 : X.heap.size ≤ X.heap.size := Nat.le_refl _
    have zl19 := zb19.lt
    have hne19 : ¬ X.heap.size = w.heap.size := by have := HX2.out; omega
    have zc19_0 := zb19.cell 0 rfl
    have zc19_1 := zb19.cell 1 rfl
    have zc19_2 := zb19.cell 2 rfl
    have zc19_3 := zb19.cell 3 rfl
    have zc19_4 := zb19.cell 4 rfl
    have zc19_5 := zb19.cell 5 rfl
    have zf19_0 := zb19.free 0
    have zf19_1 := zb19.free 1
    have zf19_2 := zb19.free 2
    have zf19_3 := zb19.free 3
    have zf19_4 := zb19.free 4
    have zf19_5 := zb19.free 5
    refine hK.out _ _ (by (try dsimp only); go_keep) (fun hHeld => ?_)
    clear hK K
    try simp only [Act.put, List.setIfInBounds_toArray, List.set_cons_zero, List.set_cons_succ]
    refine wpW_one 2 rfl (by kernel_rfl) (fun K hK => ?_)
    go_simp
    refine (HC1.out (X.alloc (.cells #[.slice none 0 0, .slice none 0 0, .slice none 0 0, .slice none 0 0, .slice none 0 0, .int .i64 0] 29)).drew (HBX.out.trans (hb19.mono HBX.out.size))).mono ?_
    rintro e w20 ⟨a0, c0, rfl, hn20, ho20⟩
    have hb20 : Below X.heap.size X w20 := hb19.trans (hn20.mono hb19.size)
    have ho20b := own_more ho20 (b' := w.heap.size) (by have h1 := hb19.size; have h2 := HBX.out.size; omega)
    have y20_0 : w20.cell? ⟨w.heap.size, 0, none⟩ = some (.slice tA T tc) := (hb20.cell (p := ⟨w.heap.size, 0, none⟩) HML.out).trans m0
    have y20_1 : w20.cell? ⟨w.heap.size, 1, none⟩ = some (.slice fA NF fc) := (hb20.cell (p := ⟨w.heap.size, 1, none⟩) HML.out).trans m1
    have y20_3 : w20.cell? ⟨w.heap.size, 3, none⟩ = some (.slice dA ND dc) := (hb20.cell (p := ⟨w.heap.size, 3, none⟩) HML.out).trans m3
    have y20_4 : w20.cell? ⟨w.heap.size, 4, none⟩ = some (.slice lA NL lc) := (hb20.cell (p := ⟨w.heap.size, 4, none⟩) HML.out).trans m4
    have y20_5 : w20.cell? ⟨w.heap.size, 5, none⟩ = some (.int .i64 EN) := (hb20.cell (p := ⟨w.heap.size, 5, none⟩) HML.out).trans m5
    have zb20 := zb19.keep hn20
    have zl20 := zb20.lt
    have zc20_0 := zb20.cell 0 rfl
    have zc20_1 := zb20.cell 1 rfl
    have zc20_2 := zb20.cell 2 rfl
    have zc20_3 := zb20.cell 3 rfl
    have zc20_4 := zb20.cell 4 rfl
    have zc20_5 := zb20.cell 5 rfl
    have zf20_0 := zb20.free 0
    have zf20_1 := zb20.free 1
    have zf20_2 := zb20.free 2
    have zf20_3 := zb20.free 3
    have zf20_4 := zb20.free 4
    have zf20_5 := zb20.free 5
    refine hK.out _ _ (by (try dsimp only); go_keep) (fun hHeld => ?_)
    clear hK K
    try simp only [Act.put, List.setIfInBounds_toArray, List.set_cons_zero, List.set_cons_succ]
    refine wpW_one 5 rfl (by kernel_rfl) (fun K hK => ?_)
    go_simp
    refine (HC2.out w20 (HBX.out.trans (hb20.mono HBX.out.size))).mono ?_
    rintro e w21 ⟨a1, c1, rfl, hn21, ho21⟩
    have hb21 : Below X.heap.size X w21 := hb20.trans (hn21.mono hb20.size)
    have ho21b := own_more ho21 (b' := w.heap.size) (by have h1 := hb20.size; have h2 := HBX.out.size; omega)
    have r21_2 := own_keep ho20b hn21
    have y21_0 : w21.cell? ⟨w.heap.size, 0, none⟩ = some (.slice tA T tc) := (hb21.cell (p := ⟨w.heap.size, 0, none⟩) HML.out).trans m0
    have y21_1 : w21.cell? ⟨w.heap.size, 1, none⟩ = some (.slice fA NF fc) := (hb21.cell (p := ⟨w.heap.size, 1, none⟩) HML.out).trans m1
    have y21_3 : w21.cell? ⟨w.heap.size, 3, none⟩ = some (.slice dA ND dc) := (hb21.cell (p := ⟨w.heap.size, 3, none⟩) HML.out).trans m3
    have y21_4 : w21.cell? ⟨w.heap.size, 4, none⟩ = some (.slice lA NL lc) := (hb21.cell (p := ⟨w.heap.size, 4, none⟩) HML.out).trans m4
    have y21_5 : w21.cell? ⟨w.heap.size, 5, none⟩ = some (.int .i64 EN) := (hb21.cell (p := ⟨w.heap.size, 5, none⟩) HML.out).trans m5
    have zb21 := zb20.keep hn21
    have zl21 := zb21.lt
    have zc21_0 := zb21.cell 0 rfl
    have zc21_1 := zb21.cell 1 rfl
    have zc21_2 := zb21.cell 2 rfl
    have zc21_3 := zb21.cell 3 rfl
    have zc21_4 := zb21.cell 4 rfl
    have zc21_5 := zb21.cell 5 rfl
    have zf21_0 := zb21.free 0
    have zf21_1 := zb21.free 1
    have zf21_2 := zb21.free 2
    have zf21_3 := zb21.free 3
    have zf21_4 := zb21.free 4
    have zf21_5 := zb21.free 5
    refine hK.out _ _ (by (try dsimp only); go_keep) (fun hHeld => ?_)
    clear hK K
    try simp only [Act.put, List.setIfInBounds_toArray, List.set_cons_zero, List.set_cons_succ]
    refine wpW_one 8 rfl (by kernel_rfl) (fun K hK => ?_)
    go_simp
    refine (HC3.out w21 (HBX.out.trans (hb21.mono HBX.out.size))).mono ?_
    rintro e w22 ⟨a3, c3, rfl, hn22, ho22⟩
    have hb22 : Below X.heap.size X w22 := hb21.trans (hn22.mono hb21.size)
    have ho22b := own_more ho22 (b' := w.heap.size) (by have h1 := hb21.size; have h2 := HBX.out.size; omega)
    have r22_2 := own_keep r21_2 hn22
    have r22_5 := own_keep ho21b hn22
    have y22_0 : w22.cell? ⟨w.heap.size, 0, none⟩ = some (.slice tA T tc) := (hb22.cell (p := ⟨w.heap.size, 0, none⟩) HML.out).trans m0
    have y22_1 : w22.cell? ⟨w.heap.size, 1, none⟩ = some (.slice fA NF fc) := (hb22.cell (p := ⟨w.heap.size, 1, none⟩) HML.out).trans m1
    have y22_3 : w22.cell? ⟨w.heap.size, 3, none⟩ = some (.slice dA ND dc) := (hb22.cell (p := ⟨w.heap.size, 3, none⟩) HML.out).trans m3
    have y22_4 : w22.cell? ⟨w.heap.size, 4, none⟩ = some (.slice lA NL lc) := (hb22.cell (p := ⟨w.heap.size, 4, none⟩) HML.out).trans m4
    have y22_5 : w22.cell? ⟨w.heap.size, 5, none⟩ = some (.int .i64 EN) := (hb22.cell (p := ⟨w.heap.size, 5, none⟩) HML.out).trans m5
    have zb22 := zb21.keep hn22
    have zl22 := zb22.lt
    have zc22_0 := zb22.cell 0 rfl
    have zc22_1 := zb22.cell 1 rfl
    have zc22_2 := zb22.cell 2 rfl
    have zc22_3 := zb22.cell 3 rfl
    have zc22_4 := zb22.cell 4 rfl
    have zc22_5 := zb22.cell 5 rfl
    have zf22_0 := zb22.free 0
    have zf22_1 := zb22.free 1
    have zf22_2 := zb22.free 2
    have zf22_3 := zb22.free 3
    have zf22_4 := zb22.free 4
    have zf22_5 := zb22.free 5
    refine hK.out _ _ (by (try dsimp only); go_keep) (fun hHeld => ?_)
    clear hK K
    try simp only [Act.put, List.setIfInBounds_toArray, List.set_cons_zero, List.set_cons_succ]
    refine wpW_one 11 rfl (by kernel_rfl) (fun K hK => ?_)
    go_simp
    refine (HC4.out w22 (HBX.out.trans (hb22.mono HBX.out.size))).mono ?_
    rintro e w23 ⟨a4, c4, rfl, hn23, ho23⟩
    have hb23 : Below X.heap.size X w23 := hb22.trans (hn23.mono hb22.size)
    have ho23b := own_more ho23 (b' := w.heap.size) (by have h1 := hb22.size; have h2 := HBX.out.size; omega)
    have r23_2 := own_keep r22_2 hn23
    have r23_5 := own_keep r22_5 hn23
    have r23_8 := own_keep ho22b hn23
    have y23_0 : w23.cell? ⟨w.heap.size, 0, none⟩ = some (.slice tA T tc) := (hb23.cell (p := ⟨w.heap.size, 0, none⟩) HML.out).trans m0
    have y23_1 : w23.cell? ⟨w.heap.size, 1, none⟩ = some (.slice fA NF fc) := (hb23.cell (p := ⟨w.heap.size, 1, none⟩) HML.out).trans m1
    have y23_3 : w23.cell? ⟨w.heap.size, 3, none⟩ = some (.slice dA ND dc) := (hb23.cell (p := ⟨w.heap.size, 3, none⟩) HML.out).trans m3
    have y23_4 : w23.cell? ⟨w.heap.size, 4, none⟩ = some (.slice lA NL lc) := (hb23.cell (p := ⟨w.heap.size, 4, none⟩) HML.out).trans m4
    have y23_5 : w23.cell? ⟨w.heap.size, 5, none⟩ = some (.int .i64 EN) := (hb23.cell (p := ⟨w.heap.size, 5, none⟩) HML.out).trans m5
    have zb23 := zb22.keep hn23
    have zl23 := zb23.lt
    have zc23_0 := zb23.cell 0 rfl
    have zc23_1 := zb23.cell 1 rfl
    have zc23_2 := zb23.cell 2 rfl
    have zc23_3 := zb23.cell 3 rfl
    have zc23_4 := zb23.cell 4 rfl
    have zc23_5 := zb23.cell 5 rfl
    have zf23_0 := zb23.free 0
    have zf23_1 := zb23.free 1
    have zf23_2 := zb23.free 2
    have zf23_3 := zb23.free 3
    have zf23_4 := zb23.free 4
    have zf23_5 := zb23.free 5
    refine hK.out _ _ (by (try dsimp only); go_keep) (fun hHeld => ?_)
    clear hK K
    try simp only [Act.put, List.setIfInBounds_toArray, List.set_cons_zero, List.set_cons_succ]
    refine wpW_take 14 (v := ?_) rfl (by kernel_rfl) (by kernel_rfl) (by kernel_rfl) (by kernel_rfl) (fun _ _ _ h => h) (Or.inl ⟨by rfl, ?_⟩) hHeld ?_
    rotate_left
    · intro w hSw
      try dsimp only at hSw
      go_simp
      try with_reducible rfl
    try simp only [Act.put, List.setIfInBounds_toArray, List.set_cons_zero, List.set_cons_succ]
    refine wpW_last 16 rfl (by kernel_rfl) (by decide) (fun K hK => ?_)
    go_simp
    refine hK.out _ _ ?_
    clear hK K
    try simp only [Act.put, List.setIfInBounds_toArray, List.set_cons_zero, List.set_cons_succ]
    refine wpW_done (by kernel_rfl) ?_ _
    go_wp2
    go_meet
    exact ⟨_, a0, c0, a1, c1, a3, c3, a4, c4, 0, rfl, Lib.hid (cp_old HX0.out HXR.out HBX.out HX2.out HN.out hb23 r23_2 r23_5 r23_8 ho23b zb23 hY19)⟩
  case rest =>
    obtain ⟨M, a0, c0, a1, c1, a3, c3, a4, c4, H, rfl, HC⟩ := hcut
    rename World => wx
    have m2 := HC.out.1.cell 2 rfl
    have ml := HC.out.1.lt
    have HC0 := Lib.hid HC.out.2
    clear HX0 HXR HBX HML HX2 HC1 HC2 HC3 HC4
    obtain ⟨vs, hvl, hvr, hvt⟩ := HI.out.tables
    simp only at hvr
    have HVS := Lib.hid (And.intro hvl (And.intro hvr hvt))
    clear hvl hvr hvt HC
    go_wp2_with fail
    clear m2 ml
    go_loopg [24] NB (fun gk v24 wr => ∃ (k : Nat) (bA2 : Option Addr) (bc2 H : Nat), k ≤ NB ∧ v24 = .int .i64 (k : Int) ∧ Hid (CpSt w wr w.heap.size (w.heap.size + 1) M H ⟨m.text, m.funcs, m.tables.take k, m.data, m.lines, m.entry⟩ ⟨a0, c0, a1, c1, bA2, bc2, a3, c3, a4, c4⟩) ∧ NB - k ≤ gk)
    case atStart => exact ⟨0, none, 0, H, Nat.zero_le _, rfl, HC0, Nat.le_refl _⟩
    case round =>
      clear HC0
      obtain ⟨k, bA2, bc2, H, hk, rfl, HC, hgk⟩ := hrel
      by_cases hlt : k < NB
      · have hx : m.tables[k]? = some (m.tables[k]'(by have := HN.out.2.2.1; omega)) := List.getElem?_eq_getElem _
        obtain ⟨t, hf⟩ : ∃ f, m.tables[k]'(by have := HN.out.2.2.1; omega) = f := ⟨_, rfl⟩
        rw [hf] at hx
        have htake : m.tables.take (k + 1) = m.tables.take k ++ [t] := by rw [List.take_add_one, hx]; rfl
        have ht6 := HL6.out t (List.mem_of_getElem? hx)
        have hb0 := HC.out.bel
        obtain ⟨a, ca, hva, hca, -, -, hrt⟩ := HVS.out.2.2 k t hx
        obtain ⟨fb, fo, hA, hfb, d0⟩ := (HVS.out.2.1.below hb0).at hva
        obtain ⟨TL, hTL⟩ : ∃ z, t.length = z := ⟨_, rfl⟩
        rw [hTL] at d0 ht6
        subst hA
        have hSz := hb0.size
        have HCT := Lib.hid (fun (W : World) (h : Below w.heap.size w W) => clone_int t a TL ca W hTL (fun e => by have := congrArg List.length (rd_nil hrt e); rw [intsV_len] at this; exact hTL.symm.trans this) ht6 ((hrt.below h).more h.size))
        have hfl2 : fb < wr.heap.size := by omega
        have HTL := Lib.hid hTL
        have HTK := Lib.hid htake
        clear hx hf hb0 hrt hva hTL htake
        go_upto_region 5 with fail
        clear d0
        have hmb := HC.out.blk
        have hlk : (m.tables.take k).length = k := by rw [List.length_take, HN.out.2.2.1]; omega
        simp only [hlk] at hmb
        have m2 := hmb.cell 2 rfl
        have ml := hmb.lt
        have HLK := Lib.hid hlk
        clear hmb hlk
        refine wp_region_W (fun w' => w'.cell? ⟨M, 2, none⟩ = some (.slice bA2 k bc2)) 7 (by kernel_rfl) (by (try dsimp only); go_keep) (fun hHeld => ?_)
        refine wpW_take 0 (v := ?_) rfl (by kernel_rfl) (by kernel_rfl) (by kernel_rfl) (by kernel_rfl) (fun _ _ _ h => h) (Or.inl ⟨by rfl, ?_⟩) hHeld ?_
        rotate_left
        · intro w hSw
          try dsimp only at hSw
          go_simp
          try with_reducible rfl
        try simp only [Act.put, List.setIfInBounds_toArray, List.set_cons_zero, List.set_cons_succ]
        refine wpW_take 1 (v := ?_) rfl (by kernel_rfl) (by kernel_rfl) (by kernel_rfl) (by kernel_rfl) (fun _ _ _ h => h) (Or.inl ⟨by rfl, ?_⟩) hHeld ?_
        rotate_left
        · intro w hSw
          try dsimp only at hSw
          go_simp
          try with_reducible rfl
        try simp only [Act.put, List.setIfInBounds_toArray, List.set_cons_zero, List.set_cons_succ]
        refine wpW_take 2 (v := ?_) rfl (by kernel_rfl) (by kernel_rfl) (by kernel_rfl) (by kernel_rfl) (fun _ _ _ h => h) (Or.inl ⟨by rfl, ?_⟩) hHeld ?_
        rotate_left
        · intro w hSw
          try dsimp only at hSw
          go_simp
          try with_reducible rfl
        try simp only [Act.put, List.setIfInBounds_toArray, List.set_cons_zero, List.set_cons_succ]
        refine wpW_one 3 rfl (by kernel_rfl) (fun K hK => ?_)
        go_simp
        refine (HCT.out wr.drew (HC.out.bel.drew)).mono ?_
        rintro e wq ⟨aq, cq, rfl, hnq, hoq⟩
        have hst := HC.out.keep ((Below.refl wr.heap.size wr).drew.trans hnq)
        have hmq := hst.blk
        simp only [HLK.out] at hmq
        have n2 := hmq.cell 2 rfl
        have nf2 := hmq.free 2
        have nl := hmq.lt
        obtain ⟨us, k1, k2, k3, k4⟩ := hst.own.tb
        simp only [HLK.out] at k1 k2
        have hal1 : Below wq.heap.size wq (wq.alloc (.cells #[.slice aq TL cq] 26)) := (Below.refl _ _).alloc (Nat.le_refl _) _
        have hvo : (wq.alloc (.cells #[.slice aq TL cq] 26)).ownsRow w.heap.size 26 1 (.slice bA2 k bc2) k us := World.ownsRow.alloc k2 _
        have hbb : w.heap.size ≤ (wq.alloc (.cells #[.slice aq TL cq] 26)).heap.size := by have := hst.bel.size; simp; omega
        have hi0 := own_more hoq (b' := w.heap.size) (by have h1 := HC.out.bel.size; exact h1)
        refine hK.out _ _ (by (try dsimp only); exact n2) (fun hHeld => ?_)
        clear hK K
        try simp only [Act.put, List.setIfInBounds_toArray, List.set_cons_zero, List.set_cons_succ]
        refine wpW_one 4 rfl (by kernel_rfl) (fun K hK => ?_)
        go_simp
        refine hK.out _ _ (by (try dsimp only); go_keep) (fun hHeld => ?_)
        clear hK K
        try simp only [Act.put, List.setIfInBounds_toArray, List.set_cons_zero, List.set_cons_succ]
        refine wpW_one 5 rfl (by kernel_rfl) (fun K hK => ?_)
        refine step_app_one rfl _ _ 25 26 1 24 _ Tryd.underlying25 infoC_sl rfl (by decide) rfl w.heap.size _ k us rfl hvo wq.heap.size 1 rfl [.slice aq TL cq] 26 (0, 0) (heap_alloc_new wq _) rfl (by simp [Value.oneCell']) (by omega) (by omega) hbb (wq.heap.size + 1) (by simp) ?_
        intro g2 c2 w2 ho2 hg2 hat2 hlt2
        have hx2 := (hst.keep hal1).blk.keepT hg2 (fun q e => own_typ hvo e) (by decide)
        have x22 := hx2.cell 2 rfl
        have x2f := hx2.free 2
        have x2l := hx2.lt
        simp only [HLK.out] at x22
        have HDN := Lib.hid (cp_setT HTL.out hst hal1 HLK.out k1 k4 (own_keep hi0 hal1) ho2 hg2 hvo)
        clear hx2 ho2 hg2 hat2
        refine hK.out _ _ (by (try dsimp only); exact x22) (fun hHeld => ?_)
        clear hK K
        try simp only [Act.put, List.setIfInBounds_toArray, List.set_cons_zero, List.set_cons_succ]
        refine wpW_take 6 (v := ?_) rfl (by kernel_rfl) (by kernel_rfl) (by kernel_rfl) (by kernel_rfl) (fun _ _ _ h => h) (Or.inl ⟨by rfl, ?_⟩) hHeld ?_
        rotate_left
        · intro w hSw
          try dsimp only at hSw
          go_simp
          try with_reducible rfl
        try simp only [Act.put, List.setIfInBounds_toArray, List.set_cons_zero, List.set_cons_succ]
        refine wpW_last 7 rfl (by kernel_rfl) (by decide) (fun K hK => ?_)
        go_simp
        refine hK.out _ _ ?_
        clear hK K
        try simp only [Act.put, List.setIfInBounds_toArray, List.set_cons_zero, List.set_cons_succ]
        refine wpW_done (by kernel_rfl) ?_ _
        go_wp2
        go_roundg (NB - (k + 1))
        case measure => omega
        case rel => exact ⟨k + 1, some ⟨g2, 0, none⟩, c2, _, by omega, by go_num, Lib.hid (by rw [HTK.out]; exact HDN.out), Nat.le_refl _⟩
      · obtain rfl : k = NB := by omega
        have hall : m.tables.take k = m.tables := List.take_of_length_le (by rw [HN.out.2.2.1]; exact Nat.le_refl _)
        rw [hall] at HC
        have hmb := HC.out.blk
        simp only [HN.out.1, HN.out.2.1, HN.out.2.2.1, HN.out.2.2.2.1, HN.out.2.2.2.2.1, HN.out.2.2.2.2.2] at hmb
        have hrb := HC.out.res
        have x0 := hmb.cell 0 rfl
        have x1 := hmb.cell 1 rfl
        have x2 := hmb.cell 2 rfl
        have x3 := hmb.cell 3 rfl
        have x4 := hmb.cell 4 rfl
        have x5 := hmb.cell 5 rfl
        have z0 := hrb.cell 0 rfl
        have z1 := hrb.cell 1 rfl
        have z2 := hrb.cell 2 rfl
        have z3 := hrb.cell 3 rfl
        have z4 := hrb.cell 4 rfl
        have z5 := hrb.cell 5 rfl
        have f0 := hrb.free 0
        have f1 := hrb.free 1
        have f2 := hrb.free 2
        have f3 := hrb.free 3
        have f4 := hrb.free 4
        have f5 := hrb.free 5
        have xl := hmb.lt
        have zl := hrb.lt
        have hne : ¬ M = w.heap.size + 1 := fun e => HC.out.bM.2.2.1 e.symm
        have HRB := Lib.hid hrb
        clear hmb hrb
        go_wp2_with fail
        have hz := set6c HRB.out (.slice a0 T c0) (.slice a1 NF c1) (.slice bA2 k bc2) (.slice a3 ND c3) (.slice a4 NL c4) (.int .i64 EN)
        have hzb := hz.1
        have q0 := hzb.cell 0 rfl
        have q1 := hzb.cell 1 rfl
        have q2 := hzb.cell 2 rfl
        have q3 := hzb.cell 3 rfl
        have q4 := hzb.cell 4 rfl
        have q5 := hzb.cell 5 rfl
        refine bodyPost_ret (v := .agg #[.slice a0 T c0, .slice a1 NF c1, .slice bA2 k bc2, .slice a3 ND c3, .slice a4 NL c4, .int .i64 EN]) (by simp [results, Tryd.results15, go_sem, q0, q1, q2, q3, q4, q5]) rfl ?_
        have ho := HC.out.own.keepI hz.2 (fun g e => by injection e with e; subst e; exact HRB.out.typ)
        refine ⟨HC.out.bel.trans (gb_to_below hz.2 (by omega) HC.out.bel.size), ⟨a0, c0, a1, c1, bA2, bc2, a3, c3, a4, c4⟩, H, ?_, ho⟩
        unfold Img.val
        simp only [HN.out.1, HN.out.2.1, HN.out.2.2.1, HN.out.2.2.2.1, HN.out.2.2.2.2.1, HN.out.2.2.2.2.2]
end Go.Proofs.YtdliienkbpdnbaaDoor
