/- A program of raw things, its flow, shuffled's order, Emit: what the laws on Emit lean on. -/
import Derived.Test.YtcafhoobeggmeaaDoorEmtE
import Derived.Test.YtcafhoobeggmeaaDoorShf
import Derived.Test.YtcafhoobeggmeaaDoorFlwR
import Derived.Test.YtcafhoobeggmeaaDoorLawS
import Derived.WalkLawsBesides
namespace Go.Proofs.YtcafhoobeggmeaaDoor
open Go.RowKit
theorem FlwSt.sizes {w : World} {l : List RawI} {m : Img} {v : ImgV} {d : FlowD} {xA yA zA : Option Addr} {xc yc zc : Nat} (h : FlwSt w l m v d xA yA zA xc yc zc) : d.blocks.length ≤ 1600 ∧ d.firsts.length ≤ 3 ∧ d.firsts.length = m.funcs.length ∧ d.tables.length = m.tables.length ∧ HeadF d := by
 obtain ⟨ld, bm, S, gs, hF, hFN, -⟩ := gen_flow3 h.pgm.check h.rc; have h1 := hF.few; have h2 := h.pgm.text; have h3 := h.pgm.fnz; have h4 := hF.firsts.1; refine ⟨by omega, by omega, h4, ?_, hF.head hFN⟩; rw [hF.tables, List.length_map]
theorem OrdG.len {d : FlowD} {l : List PartD} (h : OrdG d l) : l.length = d.firsts.length := by
 have := h.fns.length_eq; simpa using this
theorem OrdG.bsLen {d : FlowD} {l : List PartD} (h : OrdG d l) : ∀ p ∈ l, p.bs.length ≤ d.blocks.length := fun p hp => by
 rw [(h.bs p hp).1.length_eq]; exact fnTo_le d p.fn _
theorem shf_parts {w : World} {base : Nat} {A : Option Addr} {c : Nat} {lv : List (PartD × Option Addr × Nat)} {l : List PartD} (h1 : lv.map Prod.fst = l) (h2 : w.ownsRow base 66 2 (.slice A lv.length c) lv.length (partsV lv)) (h3 : ∀ x ∈ lv, w.ownsRow base 3 1 (.slice x.2.1 x.1.bs.length x.2.2) x.1.bs.length (intsV .i64 x.1.bs)) : PartsRd w A c l :=
 ⟨by rw [← h1, List.length_map]; exact own_capG h2, lv, h1, own_rdg h2, fun x hx => ⟨own_capG (h3 x hx), own_rdg (h3 x hx)⟩⟩
theorem shuf_st {w : World} {l : List RawI} {m : Img} {v : ImgV} {d : FlowD} {xA yA zA : Option Addr} {xc yc zc : Nat} (h : FlwSt w l m v d xA yA zA xc yc zc) (Ls : List Int) (lA : Option Addr) (lc : Nat) (hR : RdG w w.heap.size lA (intsV .i64 Ls)) (hc : Ls.length ≤ lc) (hl : Ls.length ≤ 140737488355328) (hN : ∀ x ∈ Ls, N64 x) :
 Calls Tryd.prog 16 #[.agg (flowV d xA yA zA xc yc zc), .slice lA Ls.length lc] w (ShfPost w d Ls) :=
 shuffled_any d xA yA zA xc yc zc Ls lA Ls.length lc w h.flow hR rfl hc hl hN (by have := h.sizes; omega) (by have := h.sizes; omega)
theorem emit_st {w : World} {l : List RawI} {m : Img} {v : ImgV} {d : FlowD} {xA yA zA : Option Addr} {xc yc zc : Nat} (h : FlwSt w l m v d xA yA zA xc yc zc) (hT : Tabs w) {A : Option Addr} {c : Nat} {ps : List PartD} (hP : PartsRd w A c ps) (ho : OrdG d ps) :
 Calls Tryd.prog 15 #[.agg (m.val v), .slice A ps.length c] w (EmPost w m d ps) := by
 obtain ⟨h1, h2, -, -, -⟩ := h.sizes; refine emit_good m v d ps A c w hT h.img h.ok h.pgm.recE h.rc hP ?_ ?_ ho
 · rw [ho.len]; omega
 · intro p hp; have := ho.bsLen p hp; omega
theorem outEntry_hit (e : Int) : ∀ (l : List PartD) (x k : Int), (∃ p ∈ l, p.fn = e) → ∃ (j : Nat) (p : PartD), l[j]? = some p ∧ p.fn = e ∧ outEntry e x k l = k + j
 | [], _, _, h => by obtain ⟨p, hp, -⟩ := h; cases hp
 | q :: r, x, k, h => by
  unfold outEntry
  by_cases hr : ∃ p ∈ r, p.fn = e
  · obtain ⟨j, p, h1, h2, h3⟩ := outEntry_hit e r (if q.fn = e then k else x) (k + 1) hr; exact ⟨j + 1, p, h1, h2, by rw [h3]; push_cast; omega⟩
  · obtain ⟨p, hp, hpe⟩ := h; rcases List.mem_cons.1 hp with rfl | hp
    · refine ⟨0, p, rfl, hpe, ?_⟩; rw [if_pos hpe]; clear hp
      have : ∀ (r : List PartD) (x k : Int), (¬ ∃ p ∈ r, p.fn = e) → outEntry e x k r = x := by
       intro r
       induction r with
       | nil => intro x k _; rfl
       | cons y s ih =>
        intro x k hn; unfold outEntry; rw [if_neg (fun h => hn ⟨y, List.mem_cons_self, h⟩)]; exact ih _ _ (fun ⟨p, hp, he⟩ => hn ⟨p, List.mem_cons_of_mem _ hp, he⟩)
      rw [this r _ _ hr]; simp
    · exact absurd ⟨p, hp, hpe⟩ hr
structure EmKeep (m x : Img) (l : List PartD) : Prop where
 data : x.data = m.data
 funcs : x.funcs.length = m.funcs.length
 tables : x.tables.length = m.tables.length
 len : l.length = m.funcs.length
 entry : ∃ (e k : Nat) (f g : FnD), x.entry = (e : Int) ∧ m.entry = (k : Int) ∧ x.funcs[e]? = some f ∧ m.funcs[k]? = some g ∧ f.name = g.name
 name : ∀ (i : Nat) (p : PartD), l[i]? = some p → ∃ (k : Nat) (f g : FnD), p.fn = (k : Int) ∧ x.funcs[i]? = some f ∧ m.funcs[k]? = some g ∧ f.name = g.name
 tab : ∀ (i : Nat) (t : List Int), m.tables[i]? = some t → ∃ t', x.tables[i]? = some t' ∧ t'.length = t.length
theorem OrdG.fnAt {d : FlowD} {l : List PartD} (h : OrdG d l) {p : PartD} (hp : p ∈ l) : ∃ k : Nat, p.fn = (k : Int) ∧ k < d.firsts.length := by
 have h1 : p.fn ∈ l.map PartD.fn := List.mem_map_of_mem hp; rw [h.fns.mem_iff] at h1; obtain ⟨k, hk, e⟩ := List.mem_map.1 h1; exact ⟨k, e.symm, List.mem_range.1 hk⟩
theorem emL_keep {m : Img} {d : FlowD} {l : List PartD} (hc : checkE m = 0) (hd : recL m = some d) (ho : OrdG d l) : EmKeep m (emL m d l) l := by
 obtain ⟨ld, bm, S, gs, hF, hFN, -⟩ := gen_flow3 hc hd; have ht := check_tile hc; have h1 := hF.firsts.1; have hl := ho.len
 have hnm : ∀ (i : Nat) (p : PartD), l[i]? = some p → ∃ (k : Nat) (f g : FnD), p.fn = (k : Int) ∧ (emL m d l).funcs[i]? = some f ∧ m.funcs[k]? = some g ∧ f.name = g.name := fun i p hp => by
  obtain ⟨k, hk, hlt⟩ := ho.fnAt (mG' hp); have hm : m.funcs[k]? = some (m.funcs[k]'(by omega)) := gE' _; refine ⟨k, _, _, hk, outFuncs_at m _ _ _ l i p hp, hm, ?_⟩; show (m.funcs.getD p.fn.toNat ⟨⟨#[]⟩, 0, 0⟩).name = _; rw [hk, Int.toNat_natCast, List.getD_eq_getElem?_getD, hm]
  rfl
 refine ⟨rfl, ?_, ?_, by omega, ?_, hnm, ?_⟩
 · show (outFuncs m _ _ _ l).length = _; rw [outFuncs_len]; omega
 · show (d.tables.map _).length = _; rw [List.length_map, hF.tables, List.length_map]
 · obtain ⟨k, hk⟩ := Int.eq_ofNat_of_zero_le ht.2.2.2.1; have hkl : k < d.firsts.length := by have := ht.2.2.2.2.1; omega
   have hme : m.entry ∈ l.map PartD.fn := by
    rw [ho.fns.mem_iff, hk]; exact List.mem_map.2 ⟨k, List.mem_range.2 hkl, rfl⟩
   obtain ⟨p, hp, hpe⟩ := List.mem_map.1 hme; obtain ⟨j, q, h2, h3, h4⟩ := outEntry_hit m.entry l 0 0 ⟨p, hp, hpe⟩; obtain ⟨k', f, g, e1, e2, e3, e4⟩ := hnm j q h2; obtain rfl : k' = k := by omega
   refine ⟨j, k', f, g, ?_, hk, e2, e3, e4⟩; show outEntry m.entry 0 0 l = _; rw [h4]; omega
 · intro i t hi
   have h5 : d.tables[i]? = some (t.map fun a => (bm a).getD 0) := by
    rw [hF.tables, List.getElem?_map, hi]
    rfl
   refine ⟨(t.map fun a => (bm a).getD 0).map (fun b => posAt (emIts d l) ((mkL d l).first.getD b.toNat 0)), ?_, by simp⟩; show (d.tables.map _)[i]? = _; rw [List.getElem?_map, h5]
   rfl
end Go.Proofs.YtcafhoobeggmeaaDoor
namespace Go.Proofs.YtcafhoobeggmeaaDoor
open Go.ChangeShapes Go.WideShapes Go.ChangeAt Go.RowKit Go.Joins
set_option maxRecDepth 100000 in
theorem open_nums {H : Type} {enc : TypeId × Value → H} {w : World} {r : Reach} {b0 : Nat} {v : Value} {d : DataW H} {p : List MemPlace} (hv : Value.okWide Tryd.prog w r b0 35 v) (h : DataW.Trod enc Tryd.prog w 0 (fun _ => true) true 35 v d p) :
 ∃ (A : Option Addr) (cap : Nat) (L : List Int), v = .slice A L.length cap ∧ L.length ≤ cap ∧ cap ≤ maxLen ∧ (∀ x ∈ L, N64 x) ∧ RdG w w.heap.size A (intsV .i64 L) ∧ (A = none ∧ L = [] ∧ cap = 0 ∨ ∃ elems spare : List (DataW H), d = .slice elems spare ∧ elems.length = L.length) := by
 obtain ⟨a0, len, cap, rfl⟩ := okWide_slice Tryd.underlying35 hv; obtain ⟨fuel, hf⟩ := h; rcases open_ints Tryd.underlying35 Tryd.underlying3 (by kernel_rfl) hf with ⟨hcs, hx⟩ | ⟨a, len', cap', zs, hcs, _, hl, hm, hmm, hx, hcell, hwf⟩
 · simp only [Value.cells, List.cons.injEq, Value.slice.injEq, and_true] at hcs; obtain ⟨rfl, rfl, rfl⟩ := hcs; exact ⟨none, 0, [], rfl, Nat.le_refl _, by decide, by simp, RdG.nil _ _ _, .inl ⟨rfl, rfl, rfl⟩⟩
 · simp only [Value.cells, List.cons.injEq, Value.slice.injEq, and_true] at hcs; obtain ⟨rfl, rfl, rfl⟩ := hcs; simp only [Prod.mk.injEq] at hx; obtain ⟨rfl, -⟩ := hx; have hmc : zs.length = cap := by simpa using hmm
   have hlen : (zs.take len).length = len := by rw [List.length_take]; omega
   refine ⟨some a, cap, zs.take len, by rw [hlen], by rw [hlen]; exact hl, hm, fun x hx => i64_of_wf (hwf x (List.mem_of_mem_take hx)), fun hn => ?_, .inr ⟨_, _, rfl, by simp [lits]⟩⟩
   have h0 : 0 < len := by
    rcases Nat.eq_zero_or_pos len with h | h
    · subst h; exact absurd rfl hn
    · exact h
   have hc0 := hcell 0 (by omega); obtain ⟨b, off, spot⟩ := a; have hspot : spot = none := by simpa [Addr.add] using World.cell?_spot hc0
   subst hspot; refine ⟨b, off, rfl, ?_, fun j u hu => ?_⟩
   · have := lt_of_cell hc0; simpa [Addr.add] using this
   · simp only [intsV, List.getElem?_map, Option.map_eq_some_iff] at hu; obtain ⟨x, hx, rfl⟩ := hu; have hj := (List.getElem?_eq_some_iff.1 hx).1; rw [hlen] at hj
     have hx2 : zs[j]? = some x := by
      rw [List.getElem?_take] at hx; simpa [hj] using hx
     have := hcell j (by omega); rw [List.getD_eq_getElem?_getD, hx2] at this; simpa only [add_plain, Option.getD_some] using this
end Go.Proofs.YtcafhoobeggmeaaDoor
