/- The frame of a law: a call that answers true and only makes new memory meets the given statement. What the laid tables of package isa give: the cells that the walks read. A raw thing among a law's arguments, opened; the witness's world. The frame of a law that lists five tables. A slice of raw things among a law's arguments, opened; rows of the call's own carried along. -/
import Derived.Test.YtcdlgjhdbmmomaaGreatDoorRows
import Derived.Test.YtcdlgjhdbmmomaaGreatDoorIsaC
import Derived.WalkKit
import Derived.ProofKit
import Derived.Carry
import Derived.OpenShut
import Derived.Lib.SmallJoins
import Derived.Deep.DeepHandedRow
import Derived.Deep.Strs
import Derived.Lib.LaidTab
import Derived.Test.YtcdlgjhdbmmomaaGreatDoorIsaG
import Derived.Test.YtcdlgjhdbmmomaaGreatDoorCards
import Derived.Test.YtcdlgjhdbmmomaaGreatDoorTie
import Derived.Test.YtcdlgjhdbmmomaaGreatDoorAppG
import Derived.SizedLaws
import Derived.Deep.Slices
import Derived.Deep.Fields
import Derived.Deep.AppendLies
namespace Go.Proofs.YtcdlgjhdbmmomaaGreatDoor
open Go.ChangeShapes Go.WideShapes Go.ChangeAt Go.RowKit
theorem ownP : ownKnob Tryz.prog.godebug = none := by kernel_rfl
theorem laidOutP : laidOutB Tryz.prog = true := by kernel_rfl
def readAll (P : Program) (ts : List TypeId) : Bool := ts.all fun t => P.readableRec t && decide (t < P.types.size)
theorem trodAll_below {P : Program} (hl : laidOutB P = true) {H : Type} {enc : TypeId × Value → H} {W W' : World} (hb : Below W.heap.size W W') : ∀ {ts : List TypeId} {vs : List Value} {ds : List (DataW H)} {ps : List MemPlace}, readAll P ts = true →
 DataW.TrodAll enc P W 0 (fun _ => true) true ts vs ds ps → (∀ x ∈ ps, x.block < W.heap.size) → DataW.TrodAll enc P W' 0 (fun b => decide (b < W.heap.size)) true ts vs ds ps
 | [], _, _, _, _, h, _ => by
  obtain ⟨rfl, rfl, rfl⟩ := trodAll_nil h; exact trodAll_mk0
 | t :: ts, _, _, _, hr, h, hlt => by
  obtain ⟨v, vs1, d, ds1, a, b, rfl, rfl, rfl, h1, h2⟩ := trodAll_cons h; have hr' : (P.readableRec t = true ∧ t < P.types.size) ∧ readAll P ts = true := by simpa [readAll] using hr
  exact trodAll_cons_mk (Below.trod hl hr'.1.1 hr'.1.2 h1 hb fun x hx => hlt x (by simp [hx])) (trodAll_below hl hb hr'.2 h2 fun x hx => hlt x (by simp [hx]))
theorem law_post {H : Type} {enc : TypeId × Value → H} {f : Func} {s : ChangeSpec} {W W' : World} {args : Array Value} {ds gs : List (DataW H)} {before : List MemPlace} (hW : DataW.Whole enc Tryz.prog f.params.toList s.vars false W args.toList ds gs before)
 (hs : s.fn H ds = { results := [.lit (.bool true)], args := ds }) (hv : s.vars = []) (hr : f.resultTypes = #[4]) (hp : readAll Tryz.prog f.params.toList = true) (hb : Below W.heap.size W W') :
 s.post enc Tryz.prog f false true false false W args (.bool true) W' := by
 have hlt : ∀ p ∈ before, p.block < W.heap.size := fun p hp => hW.lt p hp
 have hW' := hW; obtain ⟨p, q, hA, hV, rfl, hfz, hnd⟩ := hW; rw [hv] at hV; obtain ⟨rfl, rfl⟩ := trodVars_none hV; refine ⟨ds, [], p ++ [], [], p, [], hW', ?_, ?_, ?_, hb.frame _, fun h => by cases h⟩
 · rw [List.append_nil, hs, hr]; exact trodAll_cons_mk (shut_bool Tryz.underlying4 true) trodAll_mk0
 · rw [List.append_nil, hs]; exact trodAll_below laidOutP hb hp hA fun x hx => hlt x (by simp [hx])
 · rw [List.append_nil, hs, hv]; exact rfl
end Go.Proofs.YtcdlgjhdbmmomaaGreatDoor
namespace Go.Proofs.YtcdlgjhdbmmomaaGreatDoor
open Go.RowKit
def rowsData {H : Type} : List (DataW H) := rowsT.map fun r => .agg [.lit (.int .u8 r.1), .lit (.int .u8 r.2.1), .lit (.int .i64 r.2.2)]
theorem laid_rows_eq {H : Type} : (Rows.laid_bolthole_isa_rows : DataW H) = .agg rowsData := rfl
theorem laid_sizes_eq {H : Type} : (Rows.laid_bolthole_isa_sizes : DataW H) = Lib.tabData .i64 sizesT := rfl
theorem rowsT_get (i : Nat) (h : i < 25) : rowsT[i]? = some (opT (i : Int), longT (i : Int), shapeT (i : Int)) := by
 have e : rowsT.length = 25 := rfl; rw [gE' (by omega)]; simp [opT, longT, shapeT, List.getD, gE' (show i < rowsT.length by omega)]
theorem rows_cells {w : World} {fuel : Nat} {cs : List Value} {p : List MemPlace} (h : DataW.trod (fun _ => ()) Tryz.prog w 0 (fun _ => true) false fuel 187 cs = some (Rows.laid_bolthole_isa_rows, p)) (j : Nat) (v : Value) (hv : rowsCells[j]? = some v) : cs[j]? = some v := by
 obtain ⟨xs, m, _, hx, hl, hlen, hf⟩ := DataW.trod_array Tryz.underlying187 h; have hC : Tryz.prog.cellsOf 186 = 3 := by kernel_rfl
 have h0 : Tryz.prog.cellsOf 5 = 1 := by kernel_rfl
 have h1 : Tryz.prog.cellsOf 184 = 1 := by kernel_rfl
 rw [laid_rows_eq] at hx; simp only [Prod.mk.injEq, DataW.agg.injEq] at hx
 have hj : j < 75 := by
  rcases Nat.lt_or_ge j 75 with h | h
  · exact h
  · rw [List.getElem?_eq_none (show rowsCells.length ≤ j from h)] at hv; cases hv
 obtain ⟨i, o, rfl, hi, ho⟩ : ∃ i o, j = i * 3 + o ∧ i < 25 ∧ o < 3 := ⟨j / 3, j % 3, by omega, by omega, by omega⟩
 have hfi := hf i hi; rw [hC] at hfi; have hxi : xs[i]? = some xs[i] := gE' (by omega); rw [hxi] at hfi; obtain ⟨y0, y1, y2, n, hy, hl3, k0, k1, k2⟩ := Deep.trod_struct3 Tryz.underlying186 hfi; have hd : (rowsData (H := Unit))[i]? = some xs[i].1 := by rw [hx.1, List.getElem?_map, hxi]; rfl
 unfold rowsData at hd; rw [List.getElem?_map, rowsT_get i hi, hy] at hd; simp only [Option.map_some, Option.some.injEq, DataW.agg.injEq, List.cons.injEq, and_true] at hd; obtain ⟨d0, d1, d2⟩ := hd; simp only [h0] at k0 k1; simp only [h1] at k2; obtain ⟨z0, c0, e0, _⟩ := DataW.trod_int Tryz.underlying5 k0; obtain ⟨z1, c1, e1, _⟩ := DataW.trod_int Tryz.underlying5 k1; obtain ⟨z2, c2, e2, _⟩ := DataW.trod_int Tryz.underlying184 k2; rw [e0] at d0; rw [e1] at d1; rw [e2] at d2; simp only [DataW.lit.injEq, Lit.int.injEq, true_and] at d0 d1 d2; have g0 := congrArg (·[0]?) c0
 have g1 := congrArg (·[0]?) c1; have g2 := congrArg (·[0]?) c2; simp [List.getElem?_drop] at g0 g1 g2; rcases (show o = 0 ∨ o = 1 ∨ o = 2 by omega) with rfl | rfl | rfl
 · have := rows_op i hi; rw [Nat.add_zero] at hv ⊢; rw [this] at hv
   cases hv
   rw [g0, ← d0]
 · have := rows_long i hi; rw [this] at hv
   cases hv
   rw [g1, ← d1]
 · have := rows_shape i hi; rw [this] at hv
   cases hv
   rw [g2, ← d2]
theorem tabs_of_vars {W : World} {rest : List (String × DataW Unit)} {ps : List MemPlace} (h : DataW.LaidVars Tryz.prog W (("bolthole/isa.rows", Rows.laid_bolthole_isa_rows) :: ("bolthole/isa.sizes", Rows.laid_bolthole_isa_sizes) :: rest) ps) : Tabs W := by
 obtain ⟨g, t, cs, fuel, p, q, hg, ht, hvar, hd, ⟨g2, t2, cs2, fuel2, p2, q2, hg2, ht2, hvar2, hd2, _, _⟩, _⟩ := h; have G1 : Tryz.prog.globalNamed "bolthole/isa.rows" = some 1 := by kernel_rfl
 have G2 : Tryz.prog.globalNamed "bolthole/isa.sizes" = some 0 := by kernel_rfl
 have T1 : (Tryz.prog.globals[1]?).map (·.type) = some 187 := by kernel_rfl
 have T2 : (Tryz.prog.globals[0]?).map (·.type) = some 183 := by kernel_rfl
 obtain rfl := Option.some.inj (G1.symm.trans hg); obtain rfl := Option.some.inj (G2.symm.trans hg2); obtain rfl := Option.some.inj (T1.symm.trans ht); obtain rfl := Option.some.inj (T2.symm.trans ht2); rw [laid_sizes_eq] at hd2; have e2 := Lib.cells_of_tab Tryz.underlying183 Tryz.underlying3 (by kernel_rfl) (by kernel_rfl) hd2; refine ⟨fun j v hv => ?_, fun j v hv => ?_⟩
 · have := World.var?_cell G1 hvar j; rw [this, ← Array.getElem?_toList]; exact rows_cells hd j v hv
 · have := World.var?_cell G2 hvar2 j; rw [this, ← Array.getElem?_toList, e2]; exact hv
theorem tabs_of_laid {W : World} {rest : List (String × DataW Unit)} (h : laidMet Tryz.prog (("bolthole/isa.rows", Rows.laid_bolthole_isa_rows) :: ("bolthole/isa.sizes", Rows.laid_bolthole_isa_sizes) :: rest) W) : Tabs W := by
 obtain ⟨ps, h, _⟩ := h; exact tabs_of_vars h
end Go.Proofs.YtcdlgjhdbmmomaaGreatDoor
namespace Go.Proofs.YtcdlgjhdbmmomaaGreatDoor
open Go.ChangeShapes Go.WideShapes Go.ChangeAt Go.RowKit Go.Joins
theorem i64_of_wf {n : Int} (h : (Lit.int .i64 n).wf = true) : I64 n := by
 simp [Lit.wf, IntKind.min, IntKind.max, IntKind.signed, IntKind.bits] at h; exact h
theorem raw_cells : Tryz.prog.cellsOf 85 = 4 := by kernel_rfl
set_option maxRecDepth 100000 in
theorem open_raw {H : Type} {enc : TypeId × Value → H} {w : World} {r : Reach} {b0 base : Nat} {spare : Nat → Bool} {held : Bool} {v : Value} {d : DataW H} {p : List MemPlace} (hv : Value.okWide Tryz.prog w r b0 85 v) (h : DataW.Trod enc Tryz.prog w base spare held 85 v d p) :
 ∃ x : RawI, v = .agg #[.int .i64 x.k, .int .i64 x.a, .int .i64 x.b, .int .i64 x.c] ∧ x.ok := by
 obtain ⟨v0, v1, v2, v3, y0, y1, y2, y3, n, rfl, -, -, h0, h1, h2, h3⟩ := open_agg4 Tryz.underlying85 (by kernel_rfl) raw_cells hv h; obtain ⟨z0, e0, -, w0⟩ := DataW.trod_int Tryz.underlying3 h0; obtain ⟨z1, e1, -, w1⟩ := DataW.trod_int Tryz.underlying3 h1; obtain ⟨z2, e2, -, w2⟩ := DataW.trod_int Tryz.underlying3 h2; obtain ⟨z3, e3, -, w3⟩ := DataW.trod_int Tryz.underlying3 h3; simp only [List.cons.injEq, and_true] at e0 e1 e2 e3; subst e0 e1 e2 e3; exact ⟨⟨z0, z1, z2, z3⟩, rfl, i64_of_wf w0, i64_of_wf w1, i64_of_wf w2, i64_of_wf w3⟩
def refill (cs : Array Value) : Obj → Obj
 | .cells _ t frozen => .cells cs t frozen
 | o => o
noncomputable def laidWorld (os : Os) : World :=
 { World.holding Tryz.prog os ⟨#[], #[], []⟩ with heap := ((World.holding Tryz.prog os ⟨#[], #[], []⟩).heap.modify 1 (refill rowsCells.toArray)).modify 0 (refill sizesCells.toArray) }
theorem tabs_of_laid5 {W : World} {x y z : String × DataW Unit} {rest : List (String × DataW Unit)} (h : laidMet Tryz.prog (x :: y :: z :: ("bolthole/isa.rows", Rows.laid_bolthole_isa_rows) :: ("bolthole/isa.sizes", Rows.laid_bolthole_isa_sizes) :: rest) W) : Tabs W := by
 obtain ⟨ps, h, _⟩ := h; obtain ⟨_, _, _, _, _, _, _, _, _, _, ⟨_, _, _, _, _, _, _, _, _, _, ⟨_, _, _, _, _, _, _, _, _, _, h3, _⟩, _⟩, _⟩ := h; exact tabs_of_vars h3
def numCells (d : DataW Unit) : Array Value :=
 match d with
 | .agg ds => (ds.map fun x => match x with | .lit (.int k n) => Value.int k n | _ => Value.int .i64 0).toArray
 | _ => #[]
noncomputable def laidWorld5 (os : Os) : World :=
 { World.holding Tryz.prog os ⟨#[], #[], []⟩ with heap := (((((World.holding Tryz.prog os ⟨#[], #[], []⟩).heap.modify 1 (refill rowsCells.toArray)).modify 0 (refill sizesCells.toArray)).modify 8 (refill (numCells Rows.laid_math_bits_deBruijn32tab))).modify 9 (refill (numCells Rows.laid_math_bits_deBruijn64tab))).modify 5 (refill (numCells Rows.laid_internal_strconv_uint64pow10)) }
end Go.Proofs.YtcdlgjhdbmmomaaGreatDoor
namespace Go.Proofs.YtcdlgjhdbmmomaaGreatDoor
open Go.ChangeShapes Go.WideShapes Go.ChangeAt Go.RowKit Go.Joins Go.Deep
section
variable {H : Type} {enc : TypeId × Value → H} {P : Program} {w : World} {base : Nat} {spare : Nat → Bool} {held : Bool}
theorem open_slice_fields {t e : TypeId} {fs : Array Field} {fuel : Nat} {cs : List Value} {x : DataW H × List MemPlace} (ht : P.underlying t = some (.slice e)) (he : P.underlying e = some (.struct fs))
 (hone : oneCellFields P fs = true) (hC : P.cellsOf e = fs.size) (h : DataW.trod enc P w base spare held fuel t cs = some x) :
 (cs = [.slice none 0 0] ∧ x = (.nil, [])) ∨
 ∃ (a : Addr) (len cap m : Nat) (D : Nat → DataW H) (Pl : Nat → List MemPlace), cs = [.slice (some a) len cap] ∧ base ≤ a.block ∧ len ≤ cap ∧ cap ≤ maxLen ∧ m = (if spare a.block then cap else len) ∧
  x = (.slice ((List.range len).map D) ((List.range (m - len)).map fun j => D (len + j)), MemPlace.row a (m * fs.size) ++ (List.range m).flatMap Pl) ∧
  ∀ i, i < m → ∃ (ys : List (DataW H × List MemPlace)) (n : Nat), D i = .agg (ys.map (·.1)) ∧ Pl i = ys.flatMap (·.2) ∧ ys.length = fs.size ∧
   ∀ (j : Nat) (f : Field), fs[j]? = some f → ∃ (v : Value) (y : DataW H × List MemPlace), w.cell? (a.add (i * fs.size + j)) = some v ∧ ys[j]? = some y ∧ DataW.trod enc P w base spare held n f.type [v] = some y := by
 rcases open_slice ht h with h0 | ⟨a, len, cap, m, n, D, Pl, hcs, hb, hl, hm, hmm, hx, hi⟩
 · exact .inl h0
 · refine .inr ⟨a, len, cap, m, D, Pl, hcs, hb, hl, hm, hmm, by rw [hC] at hx; exact hx, fun i him => ?_⟩; obtain ⟨cs', hc, ht'⟩ := hi i him; rw [hC] at hc; obtain ⟨ys, n', hn', hy, hlen, hyl, hf⟩ := DataW.trod_struct he ht'; obtain ⟨_, hcl, hat⟩ := World.cells?_some hc; simp only [Prod.mk.injEq] at hy; refine ⟨ys, n', hy.1, hy.2, hyl, fun j f hj => ?_⟩; obtain ⟨ho, hk⟩ := hone_of hone j f hj; have hjl : j < fs.size := (Array.getElem?_eq_some_iff.1 hj).1; have hcell := hat j hjl; have hv : cs'[j]? = some (cs'[j]'(by omega)) := gE' (by omega); have h1 := hf j f hj
   rw [ho, hk] at h1
   have hone' : (cs'.drop j).take 1 = [cs'[j]'(by omega)] := by
    rw [List.drop_eq_getElem_cons (by omega)]
    rfl
   rw [hone'] at h1; have hys : ys[j]? = some (ys[j]'(by omega)) := gE' (by omega); refine ⟨_, _, ?_, hys, h1.trans hys⟩; rw [← Go.Deep.add_add, hcell, hv]
end
def RdR (w : World) (B : Nat) (A : Option Addr) (L : List RawI) : Prop :=
 (∀ r ∈ L, r.ok) ∧ (L ≠ [] → ∃ b o, A = some ⟨b, o, none⟩ ∧ b < B ∧ ∀ (j : Nat) (r : RawI), L[j]? = some r →
  w.cell? ⟨b, o + j * 4, none⟩ = some (.int .i64 r.k) ∧ w.cell? ⟨b, o + j * 4 + 1, none⟩ = some (.int .i64 r.a) ∧ w.cell? ⟨b, o + j * 4 + 2, none⟩ = some (.int .i64 r.b) ∧ w.cell? ⟨b, o + j * 4 + 3, none⟩ = some (.int .i64 r.c))
theorem RdR.keep {w w' : World} {B : Nat} {A : Option Addr} {L : List RawI} (h : RdR w B A L) (hk : ∀ b o, b < B → w'.cell? ⟨b, o, none⟩ = w.cell? ⟨b, o, none⟩) : RdR w' B A L :=
 ⟨h.1, fun hn => by obtain ⟨b, o, e, hb, hc⟩ := h.2 hn; exact ⟨b, o, e, hb, fun j r hr => by rw [hk _ _ hb, hk _ _ hb, hk _ _ hb, hk _ _ hb]; exact hc j r hr⟩⟩
theorem RdR.below {w w' : World} {B : Nat} {A : Option Addr} {L : List RawI} (h : RdR w B A L) (hb : Below B w w') : RdR w' B A L := h.keep fun _ _ hp => hb.cell hp
theorem RdR.more {w : World} {B B' : Nat} {A : Option Addr} {L : List RawI} (h : RdR w B A L) (hB : B ≤ B') : RdR w B' A L :=
 ⟨h.1, fun hn => by obtain ⟨b, o, e, hb, hc⟩ := h.2 hn; exact ⟨b, o, e, by omega, hc⟩⟩
theorem RdR.nil (w : World) (B : Nat) (A : Option Addr) : RdR w B A [] := ⟨by simp, fun h => absurd rfl h⟩
set_option maxRecDepth 100000 in
theorem open_raws {H : Type} {enc : TypeId × Value → H} {w : World} {r : Reach} {b0 : Nat} {v : Value} {d : DataW H} {p : List MemPlace} (hv : Value.okWide Tryz.prog w r b0 22 v) (h : DataW.Trod enc Tryz.prog w 0 (fun _ => true) true 22 v d p) :
 ∃ (A : Option Addr) (cap : Nat) (L : List RawI), v = .slice A L.length cap ∧ L.length ≤ cap ∧ cap ≤ maxLen ∧ RdR w w.heap.size A L ∧ (A = none ∧ L = [] ∧ cap = 0 ∨ ∃ elems spare : List (DataW H), d = .slice elems spare ∧ elems.length = L.length) := by
 obtain ⟨a0, len, cap, rfl⟩ := okWide_slice Tryz.underlying22 hv; obtain ⟨fuel, hf⟩ := h; rcases open_slice_fields Tryz.underlying22 Tryz.underlying85 (by kernel_rfl) (by kernel_rfl) hf with ⟨hcs, hx⟩ | ⟨a, len', cap', m, D, Pl, hcs, _, hl, hm, hmm, hx, hcell⟩
 · simp only [Value.cells, List.cons.injEq, Value.slice.injEq, and_true] at hcs; obtain ⟨rfl, rfl, rfl⟩ := hcs; exact ⟨none, 0, [], rfl, Nat.le_refl _, by decide, RdR.nil _ _ _, .inl ⟨rfl, rfl, rfl⟩⟩
 · simp only [Value.cells, List.cons.injEq, Value.slice.injEq, and_true] at hcs; obtain ⟨rfl, rfl, rfl⟩ := hcs; simp only [Prod.mk.injEq] at hx; obtain ⟨rfl, -⟩ := hx; have hmc : m = cap := by simpa using hmm
   have each : ∀ i, i < len → ∃ r : RawI, r.ok ∧ w.cell? (a.add (i * 4)) = some (.int .i64 r.k) ∧ w.cell? (a.add (i * 4 + 1)) = some (.int .i64 r.a) ∧ w.cell? (a.add (i * 4 + 2)) = some (.int .i64 r.b) ∧ w.cell? (a.add (i * 4 + 3)) = some (.int .i64 r.c) := by
    intro i hi; obtain ⟨ys, n, _, _, _, hfs⟩ := hcell i (by omega); obtain ⟨u0, y0, c0, _, t0⟩ := hfs 0 _ rfl; obtain ⟨u1, y1, c1, _, t1⟩ := hfs 1 _ rfl; obtain ⟨u2, y2, c2, _, t2⟩ := hfs 2 _ rfl; obtain ⟨u3, y3, c3, _, t3⟩ := hfs 3 _ rfl; obtain ⟨z0, e0, -, w0⟩ := DataW.trod_int Tryz.underlying3 t0; obtain ⟨z1, e1, -, w1⟩ := DataW.trod_int Tryz.underlying3 t1; obtain ⟨z2, e2, -, w2⟩ := DataW.trod_int Tryz.underlying3 t2; obtain ⟨z3, e3, -, w3⟩ := DataW.trod_int Tryz.underlying3 t3; simp only [List.cons.injEq, and_true] at e0 e1 e2 e3; subst e0 e1 e2 e3
    exact ⟨⟨z0, z1, z2, z3⟩, ⟨i64_of_wf w0, i64_of_wf w1, i64_of_wf w2, i64_of_wf w3⟩, c0, c1, c2, c3⟩
   obtain ⟨F, hF⟩ : ∃ F : Nat → RawI, ∀ i, i < len → (F i).ok ∧ w.cell? (a.add (i * 4)) = some (.int .i64 (F i).k) ∧ w.cell? (a.add (i * 4 + 1)) = some (.int .i64 (F i).a) ∧ w.cell? (a.add (i * 4 + 2)) = some (.int .i64 (F i).b) ∧ w.cell? (a.add (i * 4 + 3)) = some (.int .i64 (F i).c) := by
    refine ⟨fun i => if h : i < len then Classical.choose (each i h) else ⟨0, 0, 0, 0⟩, fun i hi => ?_⟩; simp only [dif_pos hi]; exact Classical.choose_spec (each i hi)
   clear each hcell; refine ⟨some a, cap, (List.range len).map F, by simp, by simp; omega, hm, ⟨fun r hr => ?_, fun hn => ?_⟩, .inr ⟨_, _, rfl, by simp⟩⟩
   · simp only [List.mem_map, List.mem_range] at hr; obtain ⟨i, hi, rfl⟩ := hr; exact (hF i hi).1
   · have h0 : 0 < len := by
      rcases Nat.eq_zero_or_pos len with h | h
      · subst h; simp at hn
      · exact h
     obtain ⟨_, hc0, _⟩ := hF 0 h0; obtain ⟨b, off, spot⟩ := a; have hspot : spot = none := by simpa [Addr.add] using World.cell?_spot hc0
     subst hspot; refine ⟨b, off, rfl, ?_, fun j r hr => ?_⟩
     · have := lt_of_cell hc0; simpa [Addr.add] using this
     · simp only [List.getElem?_map, Option.map_eq_some_iff] at hr; obtain ⟨i, hi, rfl⟩ := hr; obtain ⟨hil, rfl⟩ := List.getElem?_eq_some_iff.1 hi; simp only [List.length_range] at hil; have := (hF j hil).2; simpa only [add_plain, List.getElem_range, Nat.add_assoc] using this
end Go.Proofs.YtcdlgjhdbmmomaaGreatDoor
