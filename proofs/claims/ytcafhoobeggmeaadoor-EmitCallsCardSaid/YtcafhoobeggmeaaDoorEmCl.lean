/- A call leads to the function with the same name. -/
import Derived.Test.YtcafhoobeggmeaaDoorEmPr
namespace Go.Proofs.YtcafhoobeggmeaaDoor
open Go.RowKit
def nmF (fs : List FnD) (a : Int) : ByteArray := ((fs.find? fun f => f.start == a).map FnD.name).getD ⟨#[]⟩
theorem nmF_at {fs : List FnD} {k : Nat} {f : FnD} {a : Int} (hk : fs[k]? = some f) (he : f.start = a) (hb : ∀ (j : Nat) (g : FnD), j < k → fs[j]? = some g → g.start ≠ a) : nmF fs a = f.name := by
 obtain ⟨hl, e⟩ := List.getElem?_eq_some_iff.1 hk
 have : fs.find? (fun f => f.start == a) = some f := by
  rw [List.find?_eq_some_iff_getElem]; refine ⟨by simpa using he, k, hl, e, fun j hj => ?_⟩; have := hb j _ hj (gE' (by omega)); simpa using this
 unfold nmF; rw [this]
 rfl
theorem tile_lt {T : Int} : ∀ {fs : List FnD} {p : Int}, TileF T p fs → (∀ (k : Nat) (f : FnD), fs[k]? = some f → p ≤ f.start) ∧ ∀ (j k : Nat) (f g : FnD), j < k → fs[j]? = some f → fs[k]? = some g → f.start < g.start
 | [], _, _ => ⟨fun k f h => by simp at h, fun j k f g _ h => by simp at h⟩
 | x :: r, p, h => by
  obtain ⟨h1, h2, h3⟩ := h; obtain ⟨i1, i2⟩ := tile_lt h3; refine ⟨fun k f hk => ?_, fun j k f g hjk hj hk => ?_⟩
  · rcases k with _ | k
    · simp only [List.getElem?_cons_zero, Option.some.injEq] at hk; rw [← hk]; omega
    · have := i1 k f (by simpa using hk); omega
  · rcases k with _ | k
    · omega
    · have hk' : r[k]? = some g := by simpa using hk
      rcases j with _ | j
      · simp only [List.getElem?_cons_zero, Option.some.injEq] at hj; have := i1 k g hk'; rw [← hj]; omega
      · exact i2 j k f g (by omega) (by simpa using hj) hk'
theorem funcsGo_nm (T : Int) : ∀ (l prev : List FnD) (p : Int), funcsGo T prev p l = 0 → ∀ f ∈ l, nameOk f.name = true
 | [], _, _, _, f, h => by cases h
 | x :: r, prev, p, h, f, hf => by
  unfold funcsGo at h
  split at h
  · cases h
  · rename_i h1
    split at h
    · cases h
    · split at h
      · cases h
      · rcases List.mem_cons.1 hf with rfl | hf
        · simpa using h1
        · exact funcsGo_nm T r _ _ h f hf
theorem check_nm {m : Img} (h : checkE m = 0) : ∀ f ∈ m.funcs, nameOk f.name = true := by
 unfold checkE at h
 split at h
 · cases h
 · split at h
   · rename_i h2
     exact absurd h h2
   · rename_i h2
     have h3 : funcsE m = 0 := by omega
     unfold funcsE at h3
     split at h3
     · cases h3
     · exact funcsGo_nm _ _ _ _ h3
theorem nameOk_ne {s : ByteArray} (h : nameOk s = true) : s.toList.isEmpty = false := by
 rcases he : s.toList.isEmpty with _ | _
 · rfl
 · unfold nameOk at h; rw [he] at h; simp at h
section
variable {m : Img} {ld : Int → Bool} {bm : Int → Option Int} {S : List FSp} {gs : List (List FSp)} {d : FlowD} {l : List PartD}
theorem PgmF.beginLt (h : PgmF m ld bm S gs d) (ho : OrdG d l) {j k : Nat} {p q : PartD} (hjk : j < k) (hj : l[j]? = some p) (hk : l[k]? = some q) : (mkL d l).begin_.getD p.fn.toNat 0 < (mkL d l).begin_.getD q.fn.toNat 0 := by
 have e1 := (mkL_at ho).2.2.2.2 j p hj; have e2 := (mkL_at ho).2.2.2.2 k q hk; obtain ⟨hjl, hje⟩ := List.getElem?_eq_some_iff.1 hj
 have hs : l.take k = l.take j ++ (p :: (l.take k).drop (j + 1)) := by
  have h1 := (List.take_append_drop j (l.take k)).symm; rw [List.take_take, Nat.min_eq_left (by omega)] at h1
  have h2 : j < (l.take k).length := by
   have := (List.getElem?_eq_some_iff.1 hk).1; rw [List.length_take]; omega
  rw [List.drop_eq_getElem_cons h2] at h1; rw [List.getElem_take, hje] at h1; exact h1
 have hpm := mG' hj
 have hbs : p.bs ≠ [] := fun e => by
  have h2 := (ho.bs p hpm).2; rw [e] at h2
  cases h2
 obtain ⟨a, b, hw⟩ := withNext_last hbs
 have hb : b ∈ p.bs := by
  have h1 := congrArg (List.map Prod.fst) hw; rw [withNext_fst, List.map_append] at h1; rw [h1]; simp
 obtain ⟨c1, c2, -⟩ := mem_fnBs.1 ((ho.bs p hpm).1.mem_iff.1 hb); have hne := blkIts_ne (h.fit (blk_get c1 c2))
 have e3 : seqL (l.take k) = seqL (l.take j) ++ ((a ++ [(b, -1)]) ++ seqL ((l.take k).drop (j + 1))) := by
  conv => lhs; rw [hs, seqL_app]
  congr 1
  show withNext p.bs ++ seqL _ = _; rw [hw]
 have e4 : itsOf d [(b, -1)] = blkIts (d.blocks.getD b.toNat blkZ) (-1) := by simp [itsOf]
 have e5 := List.length_pos_iff.2 hne; rw [e1, e2, e3]; simp only [itsOf_app, List.length_append, e4]; omega
theorem posLt {its : List ItD} (h : its.Pairwise fun a b => a.pos < b.pos) {a b : Int} (h0 : 0 ≤ a) (hab : a < b) (hb : b < its.length) : posAt its a < posAt its b := by
 rw [List.pairwise_iff_getElem] at h; have := h a.toNat b.toNat (by omega) (by omega) (by omega); unfold posAt; rw [gE' (by omega), gE' (by omega)]; exact this
theorem PgmF.calls (h : PgmF m ld bm S gs d) (hf : FnF m S) (ht : TabF m gs) (hc : checkE m = 0) (ho : OrdG d l) {ps : List (Int × Int)} (hp : PairOk (emIts d l) ps) {p : Int × Int} (hpm : p ∈ ps) :
 ∃ (i j : Ins) (s t : Int), decB m.text p.1 = (i, s, 0) ∧ decB (emL m d l).text p.2 = (j, t, 0) ∧ 0 ≤ p.1 ∧ p.1 ≤ m.text.length ∧ 0 ≤ p.2 ∧ p.2 ≤ (emL m d l).text.length ∧ i.chk = 0 ∧ j.chk = 0 ∧ (i.k = 23 → j.k = 23 ∧ (nmF m.funcs (p.1 + i.n)).toList.isEmpty = false ∧ nmF (emL m d l).funcs (p.2 + j.n) = nmF m.funcs (p.1 + i.n)) := by
 obtain ⟨z, t, hzS, htm, rfl, hO, d1, d2, b1, b2, b3, b4⟩ := h.oldPair hf ht hc ho hp hpm; have hC := h.emCode hf ht hc ho; have hE := h.emF hf ho; have hj2 := (decB_ok (show (decB (emL m d l).text t.pos).2.2 = 0 by rw [d2])).1; rw [d2] at hj2; refine ⟨_, _, _, _, d1, d2, b1, b2, b3, b4, (h.chkS hzS).1, hj2, fun hk => ?_⟩; have htile := tile_lt (check_tile hc).1; obtain ⟨q, f, k1, k2, k3⟩ := idxP_some _ _ (h.call z hzS hk); have k2' : f.start = z.2.p + z.2.i.n := by simpa using k2
 obtain ⟨o1, o2, o3⟩ := hO.call hk
 have hfn : t.fn = (q : Int) := by
  rw [o3]; unfold finPl; rw [if_pos hk]; exact k3
 have hql := (List.getElem?_eq_some_iff.1 k1).1; have hfl := h.firsts.1; obtain ⟨j, pt, g1, g2, g3, g4, g5⟩ := h.beginIn ho (f := (q : Int)) (by omega) (by omega); rw [Int.toNat_natCast] at g3 g4 g5
 have hN1 : nmF m.funcs (z.2.p + z.2.i.n) = f.name := nmF_at k1 k2' fun a g ha hg => by
  have := htile.2 a q g f ha hg k1; omega
 have hres : (resIt (emIts d l) (mkL d l) t).n = posAt (emIts d l) ((mkL d l).begin_.getD q 0) - t.pos := by
  unfold resIt; rw [if_neg (by omega), if_pos (by omega), hfn, Int.toNat_natCast]
 have hlen : (mkL d l).items.length = (emIts d l).length := hE.le.1; have hlt : (emIts d l).Pairwise fun a b => a.pos < b.pos := posOk_lt _ hE.pos fun k t hk => (hC.dec k t hk).2.2.2
 have hX := outFuncs_at m (mkL d l) (emIts d l) (endPos 0 (emIts d l)) l j pt g1; rw [g2, Int.toNat_natCast] at hX; have hnm : (m.funcs.getD q ⟨⟨#[]⟩, 0, 0⟩).name = f.name := by rw [List.getD_eq_getElem?_getD, k1]; rfl
 refine ⟨(resIt_o _ _ t).1.trans o1, ?_, ?_⟩
 · show (nmF m.funcs (z.2.p + z.2.i.n)).toList.isEmpty = false; rw [hN1]; exact nameOk_ne (check_nm hc f (mG' k1))
 · show nmF (emL m d l).funcs (t.pos + _) = nmF m.funcs (z.2.p + z.2.i.n); rw [hN1, hres, ← hnm, show t.pos + (posAt (emIts d l) ((mkL d l).begin_.getD q 0) - t.pos) = posAt (emIts d l) ((mkL d l).begin_.getD q 0) by omega]; refine Eq.trans (nmF_at (fs := (emL m d l).funcs) hX ?_ fun a g ha hg => ?_) rfl
   · show addrK _ _ _ = _; unfold addrK; rw [if_pos (by omega)]
   · have hal : a < l.length := by have := (List.getElem?_eq_some_iff.1 g1).1; omega
     have hpa := gE' hal; have hY := outFuncs_at m (mkL d l) (emIts d l) (endPos 0 (emIts d l)) l a _ hpa; have hY2 : (emL m d l).funcs[a]? = _ := hY; rw [hY2] at hg; injection hg with hg; have hbl := h.beginLt ho ha hpa g1; rw [g2, Int.toNat_natCast] at hbl
     have hb0 : 0 ≤ (mkL d l).begin_.getD (l[a]).fn.toNat 0 := by
      rw [(mkL_at ho).2.2.2.2 a _ hpa]; omega
     have := posLt hlt hb0 hbl (by omega); rw [← hg]; show addrK _ _ _ ≠ _; unfold addrK; rw [if_pos (by omega)]; omega
end
theorem emL_calls {m : Img} {d : FlowD} {l : List PartD} (hc : checkE m = 0) (hd : recL m = some d) (ho : OrdG d l) {ps : List (Int × Int)} (hp : PairOk (emIts d l) ps) : ∀ p ∈ ps,
 ∃ (i j : Ins) (s t : Int), decB m.text p.1 = (i, s, 0) ∧ decB (emL m d l).text p.2 = (j, t, 0) ∧ 0 ≤ p.1 ∧ p.1 ≤ m.text.length ∧ 0 ≤ p.2 ∧ p.2 ≤ (emL m d l).text.length ∧ i.chk = 0 ∧ j.chk = 0 ∧ (i.k = 23 → j.k = 23 ∧ (nmF m.funcs (p.1 + i.n)).toList.isEmpty = false ∧ nmF (emL m d l).funcs (p.2 + j.n) = nmF m.funcs (p.1 + i.n)) := by
 obtain ⟨ld, bm, S, gs, hF, hFN, hTF⟩ := gen_flow3 hc hd; exact fun p hpm => hF.calls hFN hTF hc ho hp hpm
end Go.Proofs.YtcafhoobeggmeaaDoor
