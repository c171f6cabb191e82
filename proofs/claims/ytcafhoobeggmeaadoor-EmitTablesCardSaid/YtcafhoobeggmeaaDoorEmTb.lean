/- An address of a table: where the new table leads, the instruction stands that stood there. -/
import Derived.Test.YtcafhoobeggmeaaDoorEmPr
namespace Go.Proofs.YtcafhoobeggmeaaDoor
open Go.RowKit
theorem nodup_inj {α β : Type} (f : α → β) : ∀ {l : List α}, (l.map f).Nodup → ∀ {a b : α}, a ∈ l → b ∈ l → f a = f b → a = b
 | [], _, a, _, h, _, _ => by cases h
 | x :: r, hn, a, b, ha, hb, e => by
  rw [List.map_cons, List.nodup_cons] at hn; rcases List.mem_cons.1 ha with h1 | h1
  · rcases List.mem_cons.1 hb with h2 | h2
    · rw [h1, h2]
    · exact absurd (List.mem_map.2 ⟨b, h2, by rw [← e, h1]⟩) hn.1
  · rcases List.mem_cons.1 hb with h2 | h2
    · exact absurd (List.mem_map.2 ⟨a, h1, by rw [e, h2]⟩) hn.1
    · exact nodup_inj f hn.2 h1 h2 e
theorem blk_head {b : BlkD} {next : Int} (h2 : b.ends = 2 → b.code ≠ []) {t : ItD} {r : List ItD} (e : blkIts b next = t :: r) : t.old = b.ats.getD 0 0 := by
 unfold blkIts at e; rcases hc : b.code with _ | ⟨c, cs⟩
 · have e1 : codeIts b = [] := by unfold codeIts; rw [hc]; rfl
   rw [e1, List.nil_append] at e; unfold tailIts at e; rw [if_neg (fun h => h2 h hc)] at e; have hl : b.code.length = 0 := by rw [hc]; rfl
   rw [hl] at e
   split at e
   · split at e
     · cases e
     · injection e with e _; rw [← e]
   · split at e
     · split at e
       · injection e with e _; rw [← e]
       · injection e with e _; rw [← e]
     · cases e
 · have e1 : codeIts b = codeIt b 0 c :: cs.mapIdx (fun i => codeIt b (i + 1)) := by unfold codeIts; rw [hc, List.mapIdx_cons]
   rw [e1, List.cons_append] at e; injection e with e _; rw [← e]; unfold codeIt
   split <;> rfl
section
variable {m : Img} {ld : Int → Bool} {bm : Int → Option Int} {S : List FSp} {gs : List (List FSp)} {d : FlowD} {l : List PartD}
theorem PgmF.apart (h : PgmF m ld bm S gs d) {i j : Nat} {g g' : List FSp} (hg : gs[i]? = some g) (hg' : gs[j]? = some g') {x y : FSp} (hx : x ∈ g) (hy : y ∈ g') (e : x.2.p = y.2.p) : i = j := by
 have h1 : gs.flatten.Pairwise fun a b => a.2.p < b.2.p := by
  rw [h.flat]; exact List.pairwise_map.1 (chain_lt S 0 h.chain).1
 have h2 := (List.pairwise_flatten.1 h1).2; rw [List.pairwise_iff_getElem] at h2; obtain ⟨a1, rfl⟩ := List.getElem?_eq_some_iff.1 hg; obtain ⟨a2, rfl⟩ := List.getElem?_eq_some_iff.1 hg'; rcases Nat.lt_trichotomy i j with c | c | c
 · have := h2 i j a1 a2 c x hx y hy; omega
 · exact c
 · have := h2 j i a2 a1 c y hy x hx; omega
theorem mem_itsOf {d : FlowD} {xs : List (Int × Int)} {t : ItD} (h : t ∈ itsOf d xs) : ∃ x ∈ xs, t ∈ blkIts (d.blocks.getD x.1.toNat blkZ) x.2 := List.mem_flatMap.1 h
theorem PgmF.tabAt (h : PgmF m ld bm S gs d) (hf : FnF m S) (ho : OrdG d l) {j : Nat} {y : FSp} {r : List FSp} (hg : gs[j]? = some (y :: r)) {t : ItD} (ht : t ∈ oldsI (emIts d l)) (e : t.old = y.2.p) : posAt (emIts d l) ((mkL d l).first.getD j 0) = t.pos := by
 obtain ⟨Z, z1, z2, z3, -, -⟩ := h.oldAll hf ho
 have hon : ((oldsI (emIts d l)).map ItD.old).Nodup := by
  have e1 : (oldsI (emIts d l)).map ItD.old = Z.map fun z => z.2.p := by
   refine List.ext_getElem? fun k => ?_
   rw [List.getElem?_map, List.getElem?_map]; rcases Nat.lt_or_ge k Z.length with hk | hk
   · have h1 := gE' hk; have h2 := gE' (show k < (oldsI (emIts d l)).length by rw [← z3.1]; exact hk); rw [h1, h2]; exact congrArg some (z3.2 k _ _ h1 h2).old
   · rw [List.getElem?_eq_none hk, List.getElem?_eq_none (by rw [← z3.1]; exact hk)]
     rfl
  rw [e1]; exact z1
 have hle := settleL_le (mkL d l).first (mkL d l).items
 have hi := (mkL_at ho).1; have hjl : j < gs.length := (List.getElem?_eq_some_iff.1 hg).1; have hfew := h.few.1; obtain ⟨k, nx, hk, hF, f0, f1⟩ := h.firstIn hf ho (b := (j : Int)) (by omega) (by omega); rw [Int.toNat_natCast] at hF f0 f1; have hbg : d.blocks[j]? = some (d.blocks.getD j blkZ) := by rw [List.getD_eq_getElem?_getD, gE' (by omega)]; rfl
 -- the item, ahead of settling
 obtain ⟨q, hq⟩ := List.getElem?_of_mem (List.mem_filter.1 ht).1; have hql : q < (mkL d l).items.length := by rw [hle.1]; exact (List.getElem?_eq_some_iff.1 hq).1
 have ht0 := gE' hql; generalize (mkL d l).items[q] = t0 at ht0; have hL := hle.2 q t0 t ht0 hq; have hm0 : t0 ∈ itsOf d (seqL l) := by rw [← hi]; exact mG' ht0
 obtain ⟨x, hx, hx0⟩ := mem_itsOf hm0; obtain ⟨x0, x1⟩ := seqL_in ho x hx; obtain ⟨g, zs, b1, b2, b3, -, -⟩ := h.oldBlk (blk_get x0 x1) x.2; have hto : t0.old = y.2.p := by rw [← hL.old]; exact e
 have hy0 : 0 ≤ y.2.p := (h.posb (h.flat ▸ List.mem_flatten.2 ⟨_, mG' hg, List.mem_cons_self⟩)).1; have hmo : t0 ∈ oldsI (blkIts (d.blocks.getD x.1.toNat blkZ) x.2) := List.mem_filter.2 ⟨hx0, by simpa using (by omega : 0 ≤ t0.old)⟩; obtain ⟨n, hn⟩ := List.getElem?_of_mem hmo; have hnz : n < zs.length := by rw [b3.1]; exact (List.getElem?_eq_some_iff.1 hn).1
 have hz := gE' hnz; have hO := b3.2 n _ t0 hz hn; have hxj : x.1.toNat = j := h.apart b1 hg (b2.mem (List.getElem_mem hnz)) List.mem_cons_self (hO.old.symm.trans hto)
 -- the same place in the order
 obtain ⟨k', hk'⟩ := List.getElem?_of_mem hx
 have hkk : k' = k := by
  have hnd := seqL_nodup ho; rw [List.Nodup, List.pairwise_iff_getElem] at hnd; obtain ⟨a1, a2⟩ := List.getElem?_eq_some_iff.1 hk; obtain ⟨a3, a4⟩ := List.getElem?_eq_some_iff.1 hk'
  have e1 : ((seqL l).map Prod.fst)[k]'(by simpa using a1) = ((seqL l).map Prod.fst)[k']'(by simpa using a3) := by
   rw [List.getElem_map, List.getElem_map, a2, a4]; show (j : Int) = x.1; omega
  rcases Nat.lt_trichotomy k k' with c | c | c
  · exact absurd e1 (hnd k k' (by simpa using a1) (by simpa using a3) c)
  · exact c.symm
  · exact absurd e1.symm (hnd k' k (by simpa using a3) (by simpa using a1) c)
 rw [hkk] at hk'; rw [hk] at hk'; injection hk' with hk'; rw [← hk'] at hx0; have hx0' : t0 ∈ blkIts (d.blocks.getD j blkZ) nx := hx0
 -- the block's first item
 obtain ⟨u0, us, hu⟩ := List.exists_cons_of_ne_nil (List.ne_nil_of_mem hx0')
 have hat : (d.blocks.getD j blkZ).ats.getD 0 0 = y.2.p := by
  obtain ⟨r2, y2, e1, -, -, e2, -⟩ := h.grp hbg; rw [hg] at e1; injection e1 with e1; rw [e2, ← e1]
  rfl
 have hend : (d.blocks.getD j blkZ).ends = 2 → (d.blocks.getD j blkZ).code ≠ [] := fun he => by
  obtain ⟨r2, y2, -, -, -, -, hG⟩ := h.grp hbg
  cases hG with
  | branch j z rz z' rz' h1 h2 => omega
  | jump j z rz h1 h2 => omega
  | stop h1 h2 => omega
  | fall z' rz' h1 h2 h3 => rw [h3]; simp
 have hu0 := blk_head hend hu; obtain ⟨hkl, hke⟩ := List.getElem?_eq_some_iff.1 hk
 have hsp : itsOf d (seqL l) = itsOf d ((seqL l).take k) ++ (u0 :: (us ++ itsOf d ((seqL l).drop (k + 1)))) := by
  conv => lhs; rw [← List.take_append_drop k (seqL l), List.drop_eq_getElem_cons hkl, hke, itsOf_app]
  congr 1
  show blkIts (d.blocks.getD j blkZ) nx ++ itsOf d ((seqL l).drop (k + 1)) = _; rw [hu]
  rfl
 have hF0 : (mkL d l).items[(itsOf d ((seqL l).take k)).length]? = some u0 := by
  rw [hi, hsp, List.getElem?_append_right lr', Nat.sub_self]
  rfl
 have hFl : (itsOf d ((seqL l).take k)).length < (emIts d l).length := by
  show _ < (settleL _ _).length; rw [← hle.1]; exact (List.getElem?_eq_some_iff.1 hF0).1
 have hU : (emIts d l)[(itsOf d ((seqL l).take k)).length]? = some _ := gE' hFl; generalize (emIts d l)[(itsOf d ((seqL l).take k)).length] = u at hU; have hLu := hle.2 _ u0 u hF0 hU; have huo : u.old = t.old := by rw [hLu.old, hu0, hat, e]
 have : u = t := nodup_inj ItD.old hon (List.mem_filter.2 ⟨mG' hU, by simpa using (by omega : 0 ≤ u.old)⟩) ht huo; unfold posAt; rw [hF, Int.toNat_natCast, hU, this]
 rfl
end
theorem emL_tabs {m : Img} {d : FlowD} {l : List PartD} (hc : checkE m = 0) (hd : recL m = some d) (ho : OrdG d l) {ps : List (Int × Int)} (hp : PairOk (emIts d l) ps) :
 (emL m d l).tables.length = m.tables.length ∧ ∀ (i : Nat) (t : List Int), m.tables[i]? = some t → ∃ t', (emL m d l).tables[i]? = some t' ∧ t'.length = t.length ∧ ∀ (k : Nat) (a n : Int), t[k]? = some a → (a, n) ∈ ps → t'[k]? = some n := by
 obtain ⟨ld, bm, S, gs, hF, hFN, hTF⟩ := gen_flow3 hc hd; have he : ps.Perm ((oldsI (emIts d l)).map fun t => (t.old, t.pos)) := hp.perm; refine ⟨?_, fun i t hi => ?_⟩
 · show (d.tables.map _).length = _; rw [List.length_map, hF.tables, List.length_map]
 · have h5 : d.tables[i]? = some (t.map fun a => (bm a).getD 0) := by
    rw [hF.tables, List.getElem?_map, hi]
    rfl
   refine ⟨(t.map fun a => (bm a).getD 0).map (fun b => posAt (emIts d l) ((mkL d l).first.getD b.toNat 0)), ?_, by simp, fun k a n hk hm => ?_⟩
   · show (d.tables.map _)[i]? = _; rw [List.getElem?_map, h5]
     rfl
   · obtain ⟨u, hu, eu⟩ := List.mem_map.1 (he.mem_iff.1 hm); injection eu with e1 e2; obtain ⟨j, y, r, hg, hy⟩ := hTF t (mG' hi) a (mG' hk); rw [List.getElem?_map, List.getElem?_map, hk]; have hb := hF.bm j y r hg; rw [hy] at hb; show some (posAt (emIts d l) ((mkL d l).first.getD ((bm a).getD 0).toNat 0)) = _; rw [hb]; show some (posAt (emIts d l) ((mkL d l).first.getD ((j : Int)).toNat 0)) = _; rw [Int.toNat_natCast, hF.tabAt hFN ho hg hu (e1.trans hy.symm), e2]
def fM (ps : List (Int × Int)) : Int → Option Int := ps.foldl (fun f p => upF f p.1 (some p.2)) (fun _ => none)
theorem fM_step {ps : List (Int × Int)} {j : Nat} {p q : Int} (h : ps[j]? = some (p, q)) : fM (ps.take (j + 1)) = upF (fM (ps.take j)) p (some q) := by
 unfold fM; rw [List.take_add_one, h, List.foldl_append]
 rfl
theorem fM_mem {ps : List (Int × Int)} {a n : Int} : fM ps a = some n → (a, n) ∈ ps := by
 have gen : ∀ (l : List (Int × Int)) (f : Int → Option Int), l.foldl (fun f p => upF f p.1 (some p.2)) f a = some n → f a = some n ∨ (a, n) ∈ l := by
  intro l
  induction l with
  | nil => exact fun f h => .inl h
  | cons p r ih =>
   intro f h; rcases ih _ h with h1 | h1
   · have h1 : (if a = p.1 then some p.2 else f a) = some n := h1
     split at h1
     · rename_i e
       injection h1 with h1; exact .inr (by rw [e, ← h1]; exact List.mem_cons_self)
     · exact .inl h1
   · exact .inr (List.mem_cons_of_mem _ h1)
 intro h; rcases gen ps _ h with h1 | h1
 · cases h1
 · exact h1
theorem rdT_at {w : World} {B : Nat} {A : Option Addr} {ts : List (List Int)} (h : RdT w B A ts) {i : Nat} {t : List Int} (hi : ts[i]? = some t) : ∃ b o a c, A = some ⟨b, o, none⟩ ∧ b < B ∧ w.cell? ⟨b, o + i, none⟩ = some (.slice a t.length c) ∧ t.length ≤ c ∧ c ≤ maxLen ∧ t.length ≤ 140737488355328 ∧ RdG w B a (intsV .i64 t) := by
 obtain ⟨vs, -, h2, h3⟩ := h; obtain ⟨a, c, h4, h5, h6, h7, h8⟩ := h3 i t hi; obtain ⟨b, o, e, hb, hc⟩ := h2 (by intro e; rw [e] at h4; simp at h4); exact ⟨b, o, a, c, e, hb, hc _ _ h4, h5, h6, h7, h8⟩
section
variable {w : World} {ops : Array Oper} {rest : List Oper} {o : Oper} {a : Act} {Q : Exit → Act → World → Prop}
theorem wpl_upI (hg : o.guard = none) (m x v : Operand) (hop : o.op = Op.mapUpdate 69 m x v) (b n : Nat) (f : Int → Option Int) (hm : a.eval m = .map (some b)) (hown : MapI w b n f) (hn : n < 1000000000000)
 (k y : Int) (hx : a.eval x = .int .i64 k) (hv : a.eval v = .int .i64 y) (hk : N64 k) (hy : N64 y) (hK : ∀ w', MapI w' b (n + 1) (upF f k (some y)) → w.grownBy w' (some b) → wpList Tryd.prog ops Q rest (a.put o.dst undef) w') :
 wpList Tryd.prog ops Q (o :: rest) a w := by
 refine wpList_plain hg fun K' hK' => ?_
 obtain ⟨w', hrun, r1, r2⟩ := hown.update hn hk hy; unfold Oper.wp; simp [execOp, hop, hm, hx, hv, hrun, Result.andThen]; exact hK' _ _ (hK w' r1 r2)
end
end Go.Proofs.YtcafhoobeggmeaaDoor
