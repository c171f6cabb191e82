/- A program's blocks: their fields, where they stand. A program's blocks: their code, their ends. A program's blocks: where they lead. A program's blocks: their lines, their calls, how they end. What the flow of whatever image that Recover takes is. -/
import Derived.Test.YtcdlgjhdbmmomaaGreatDoorRcvV
namespace Go.Proofs.YtcdlgjhdbmmomaaGreatDoor
open Go.RowKit
theorem addB_f (m : Img) (s : Sp) (b : BlkD) : (addB m s b).fn = b.fn ∧ (addB m s b).start = b.start ∧ (addB m s b).ats = b.ats ++ [s.p] ∧ (addB m s b).lines = b.lines ++ [lineAtF s.p 0 m.lines] := by
 unfold addB
 split
 · exact ⟨rfl, rfl, rfl, rfl⟩
 · split
   · exact ⟨rfl, rfl, rfl, rfl⟩
   · split
     · exact ⟨rfl, rfl, rfl, rfl⟩
     · exact ⟨rfl, rfl, rfl, rfl⟩
theorem addF_f (m : Img) : ∀ (r : List FSp) (b : BlkD), (r.foldl (fun b y => addB m y.2 b) b).fn = b.fn ∧ (r.foldl (fun b y => addB m y.2 b) b).start = b.start ∧
 (r.foldl (fun b y => addB m y.2 b) b).ats = b.ats ++ r.map (fun y => y.2.p) ∧ (r.foldl (fun b y => addB m y.2 b) b).lines = b.lines ++ r.map (fun y => lineAtF y.2.p 0 m.lines)
 | [], b => ⟨rfl, rfl, by simp, by simp⟩
 | x :: r, b => by
  obtain ⟨h1, h2, h3, h4⟩ := addF_f m r (addB m x.2 b); obtain ⟨k1, k2, k3, k4⟩ := addB_f m x.2 b; refine ⟨h1.trans k1, h2.trans k2, ?_, ?_⟩
  · rw [List.foldl_cons, h3, k3]; simp
  · rw [List.foldl_cons, h4, k4]; simp
theorem joinB_f (bm : Int → Option Int) (b : BlkD) : (joinB bm b).fn = b.fn ∧ (joinB bm b).start = b.start ∧ (joinB bm b).ats = b.ats ∧ (joinB bm b).code = b.code ∧ (joinB bm b).ends = b.ends ∧ (joinB bm b).last = b.last := by
 unfold joinB; simp only
 split <;> split <;> split <;> exact ⟨rfl, rfl, rfl, rfl, rfl, rfl⟩
theorem blk_f (m : Img) (bm : Int → Option Int) (x : FSp) (r : List FSp) : (joinB bm (blkOf m (x :: r))).fn = x.1 ∧ (joinB bm (blkOf m (x :: r))).start = x.2.p ∧ (joinB bm (blkOf m (x :: r))).ats = (x :: r).map (fun y => y.2.p) := by
 obtain ⟨h1, h2, h3, -, -, -⟩ := joinB_f bm (blkOf m (x :: r)); obtain ⟨k1, k2, k3, k4⟩ := addF_f m (x :: r) (newB x.1 x.2.p); exact ⟨h1.trans k1, h2.trans k2, h3.trans k3⟩
def szP : List FSp → Int
 | [] => 0
 | x :: r => x.2.z + szP r
theorem szP_app (b : List FSp) : ∀ a, szP (a ++ b) = szP a + szP b
 | [] => by simp [szP]
 | x :: r => by
  have := szP_app b r; simp only [List.cons_append, szP]; omega
theorem chain_pos {x : FSp} {r : List FSp} : ∀ {d : List FSp} {p : Int}, ChainS p ((d ++ x :: r).map Prod.snd) → x.2.p = p + szP d
 | [], p, h => by
  have h1 : x.2.p = p := h.1; simp only [szP]; omega
 | y :: d, p, h => by
  have h1 : y.2.p = p := h.1; have h2 : x.2.p = p + y.2.z + szP d := chain_pos (d := d) h.2.2; simp only [szP]; omega
section
variable {m : Img} {ld : Int → Bool} {bm : Int → Option Int} {S : List FSp} {gs : List (List FSp)} {d : FlowD}
theorem groups_at {gs : List (List FSp)} {i : Nat} {g : List FSp} (h : gs[i]? = some g) : gs.flatten = (gs.take i).flatten ++ (g ++ (gs.drop (i + 1)).flatten) := by
 obtain ⟨hi, he⟩ := List.getElem?_eq_some_iff.1 h
 conv => lhs; rw [← List.take_append_drop i gs, List.drop_eq_getElem_cons hi, he]
 rw [List.flatten_append, List.flatten_cons]
theorem list_at {g : List FSp} {j : Nat} {x : FSp} (h : g[j]? = some x) : g = g.take j ++ x :: g.drop (j + 1) := by
 obtain ⟨hi, he⟩ := List.getElem?_eq_some_iff.1 h
 conv => lhs; rw [← List.take_append_drop j g, List.drop_eq_getElem_cons hi, he]
def posP (gs : List (List FSp)) (g : List FSp) (i j : Nat) : Int := szP ((gs.take i).flatten ++ g.take j)
theorem PgmF.spot (h : PgmF m ld bm S gs d) {i : Nat} {g : List FSp} (hg : gs[i]? = some g) {j : Nat} {x : FSp} (hx : g[j]? = some x) : x.2.p = posP gs g i j ∧ posP gs g i (j + 1) = posP gs g i j + x.2.z ∧ x ∈ S ∧ decB m.text (posP gs g i j) = (x.2.i, x.2.z, 0) := by
 have e : S = ((gs.take i).flatten ++ g.take j) ++ x :: (g.drop (j + 1) ++ (gs.drop (i + 1)).flatten) := by
  rw [← h.flat, groups_at hg]
  conv => lhs; rw [list_at hx]
  simp
 have hm : x ∈ S := by rw [e]; simp
 have hp := chain_pos (by rw [← e]; exact h.chain); have h1 : x.2.p = posP gs g i j := by unfold posP; omega
 refine ⟨h1, ?_, hm, ?_⟩
 · unfold posP; rw [List.take_add_one, hx, ← List.append_assoc, szP_app _ ((gs.take i).flatten ++ g.take j)]; simp [szP]
 · rw [← h1]; exact h.dec x hm
theorem pos_next {gs : List (List FSp)} {i : Nat} {g : List FSp} (hg : gs[i]? = some g) (g' : List FSp) : posP gs g' (i + 1) 0 = posP gs g i g.length := by
 unfold posP; rw [List.take_add_one, hg]; simp
theorem PgmF.fin (h : PgmF m ld bm S gs d) (g : List FSp) : posP gs g gs.length 0 = (m.text.length : Int) := by
 unfold posP; rw [List.take_length, h.flat, List.take_zero, List.append_nil]; rcases List.eq_nil_or_concat S with e | ⟨a, x, e⟩
 · exact absurd e h.nil
 · rw [List.concat_eq_append] at e; have h1 := h.len a x e; have h2 := chain_pos (d := a) (x := x) (r := []) (p := 0) (by rw [← e]; exact h.chain); rw [e, szP_app]; simp only [szP]; omega
theorem PgmF.fnle (h : PgmF m ld bm S gs d) {i : Nat} {x y : FSp} {r r' : List FSp} (h1 : gs[i]? = some (x :: r)) (h2 : gs[i + 1]? = some (y :: r')) : x.1 ≤ y.1 := by
 have e := groups_at h1
 have e2 : gs.drop (i + 1) = (y :: r') :: gs.drop (i + 2) := by
  obtain ⟨hi, he⟩ := List.getElem?_eq_some_iff.1 h2; rw [List.drop_eq_getElem_cons hi, he]
 rw [e2, h.flat] at e; have hp := h.fns; rw [e] at hp; have hp2 := (List.pairwise_append.1 hp).2.1; exact (List.pairwise_append.1 hp2).2.2 x (by simp) y (by simp)
theorem PgmF.blk (h : PgmF m ld bm S gs d) {i : Nat} {b : BlkD} (hb : d.blocks[i]? = some b) : ∃ x r, gs[i]? = some (x :: r) ∧ b = joinB bm (blkOf m (x :: r)) ∧ b.fn = x.1 ∧ b.start = x.2.p ∧ b.ats = (x :: r).map (fun y => y.2.p) := by
 rw [h.blocks, List.getElem?_map, Option.map_eq_some_iff] at hb; obtain ⟨g, hg, rfl⟩ := hb; obtain ⟨x, r, rfl, -, -, -⟩ := h.ok g (mG' hg); obtain ⟨k1, k2, k3⟩ := blk_f m bm x r; exact ⟨x, r, hg, rfl, k1, k2, k3⟩
end
theorem FlowRd.at {w : World} {xA yA zA : Option Addr} {xc yc zc : Nat} {d : FlowD} (h : FlowRd w xA xc yA yc zA zc d) {i : Nat} {b : BlkD} (hb : d.blocks[i]? = some b) :
 ∃ (v : BlkV) (g o : Nat), xA = some ⟨g, o, none⟩ ∧ g < w.heap.size ∧ BRd w (b, v) ∧ ∀ (q : Nat) (u : Value), (blkC b v)[q]? = some u → w.cell? ⟨g, o + i * 14 + q, none⟩ = some u := by
 obtain ⟨l, h1, h2, h3, -, -⟩ := h; rw [← h1, List.getElem?_map, Option.map_eq_some_iff] at hb; obtain ⟨x, hx, rfl⟩ := hb
 have hne : blksV l ≠ [] := by
  intro e; have := blksV_at hx 0 _ rfl; rw [e] at this; simp at this
 obtain ⟨g, o, e, hg, hc⟩ := h2.1 hne; refine ⟨x.2, g, o, e, hg, h3 x (mG' hx), fun q u hu => ?_⟩; rw [Nat.add_assoc]; exact hc _ _ (blksV_at hx q u hu)
theorem chain_sz : ∀ (l : List FSp) (p : Int), ChainS p (l.map Prod.snd) → (l.length : Int) ≤ szP l
 | [], p, h => by simp [szP]
 | x :: r, p, h => by
  have h1 := chain_sz r _ h.2.2; have h2 : 1 ≤ x.2.z := h.2.1; simp only [List.length_cons, szP]; omega
theorem groups_len : ∀ gs : List (List FSp), (∀ g ∈ gs, g ≠ []) → gs.length ≤ gs.flatten.length
 | [], _ => Nat.le_refl _
 | g :: r, h => by
  have h1 := groups_len r fun y hy => h y (by simp [hy])
  have h2 := List.length_pos_iff.2 (h g (by simp)); rw [List.flatten_cons, List.length_append, List.length_cons]; omega
theorem PgmF.few {m : Img} {ld : Int → Bool} {bm : Int → Option Int} {S : List FSp} {gs : List (List FSp)} {d : FlowD} (h : PgmF m ld bm S gs d) : d.blocks.length = gs.length ∧ gs.length ≤ m.text.length := by
 have h1 := groups_len gs fun g hg => by
  obtain ⟨x, r, rfl, -⟩ := h.ok g hg; simp
 have h2 := chain_sz S 0 h.chain; have h3 := h.fin []; unfold posP at h3; rw [List.take_length, h.flat, List.take_nil, List.append_nil] at h3; rw [h.flat] at h1; refine ⟨by rw [h.blocks, List.length_map], by omega⟩
theorem PgmF.posb {m : Img} {ld : Int → Bool} {bm : Int → Option Int} {S : List FSp} {gs : List (List FSp)} {d : FlowD} (h : PgmF m ld bm S gs d) {x : FSp} (hx : x ∈ S) : 0 ≤ x.2.p ∧ 1 ≤ x.2.z ∧ x.2.z ≤ 4 ∧ x.2.p + x.2.z ≤ m.text.length := by
 have hd := h.dec x hx; have e : (decB m.text x.2.p).2.2 = 0 := by rw [hd]
 have h1 := decB_ok e; have h2 := decB_sz e; rw [hd] at h1 h2; simp only at h1 h2; omega
theorem PgmF.glen {m : Img} {ld : Int → Bool} {bm : Int → Option Int} {S : List FSp} {gs : List (List FSp)} {d : FlowD} (h : PgmF m ld bm S gs d) {i : Nat} {g : List FSp} (hg : gs[i]? = some g) : g.length ≤ m.text.length := by
 have e := groups_at hg; rw [h.flat] at e; have h2 := chain_sz S 0 h.chain; have h3 := h.fin []; unfold posP at h3; rw [List.take_length, h.flat, List.take_nil, List.append_nil] at h3
 have h4 : g.length ≤ S.length := by
  rw [e, List.length_append, List.length_append]; omega
 omega
theorem PgmF.first {m : Img} {ld : Int → Bool} {bm : Int → Option Int} {S : List FSp} {gs : List (List FSp)} {d : FlowD} (h : PgmF m ld bm S gs d) {i : Nat} {n : Int} (hn : d.firsts[i]? = some n) : ∃ (k : Nat) (b : BlkD) (f : FnD), n = k ∧ d.blocks[k]? = some b ∧ m.funcs[i]? = some f ∧ b.start = f.start := by
 obtain ⟨f, x, r, h1, h2, h3, h4, -⟩ := h.firsts.2 i n hn; obtain ⟨k, rfl⟩ := Int.eq_ofNat_of_zero_le h2; rw [Int.toNat_natCast] at h3; refine ⟨k, joinB bm (blkOf m (x :: r)), f, rfl, ?_, h1, ?_⟩
 · rw [h.blocks, List.getElem?_map, h3]
   rfl
 · rw [(blk_f m bm x r).2.1, h4]
theorem FlowRd.fst {w : World} {xA yA zA : Option Addr} {xc yc zc : Nat} {d : FlowD} (h : FlowRd w xA xc yA yc zA zc d) : RdG w w.heap.size zA (intsV .i64 d.firsts) ∧ d.firsts.length ≤ zc ∧ d.blocks.length ≤ xc := by
 obtain ⟨l, -, h2, -, -, h5⟩ := h; exact ⟨h5.1, h5.2.1, h2.2.1⟩
def PlainK (i : Ins) : Prop := (branchI i || i.k == 22 || stopsI i) = false
theorem addB_plain (m : Img) (s : Sp) (b : BlkD) (h : PlainK s.i) : (addB m s b).code = b.code ++ [finPl m.funcs s] ∧ (addB m s b).ends = b.ends ∧ (addB m s b).last = b.last ∧ (addB m s b).els = b.els ∧ (addB m s b).dst = s.p + s.z := by
 unfold PlainK at h; rw [Bool.or_eq_false_iff, Bool.or_eq_false_iff, beq_eq_false_iff_ne] at h; unfold addB; rw [if_neg (by rw [h.1.1]; simp), if_neg h.1.2, if_neg (by rw [h.2]; simp)]; exact ⟨rfl, rfl, rfl, rfl, rfl⟩
theorem addF_plain (m : Img) : ∀ (r : List FSp) (b : BlkD), (∀ y ∈ r, PlainK y.2.i) → (r.foldl (fun b y => addB m y.2 b) b).code = b.code ++ r.map (fun y => finPl m.funcs y.2) ∧ (r.foldl (fun b y => addB m y.2 b) b).ends = b.ends
 | [], b, _ => ⟨by simp, rfl⟩
 | x :: r, b, h => by
  obtain ⟨h1, h2⟩ := addF_plain m r (addB m x.2 b) fun y hy => h y (by simp [hy])
  obtain ⟨k1, k2, -⟩ := addB_plain m x.2 b (h x (by simp)); refine ⟨?_, h2.trans k2⟩; rw [List.foldl_cons, h1, k1]; simp
theorem blk_snoc (m : Img) (r : List FSp) (y : FSp) (h : ∀ z ∈ r, PlainK z.2.i) : ∃ B : BlkD, blkOf m (r ++ [y]) = addB m y.2 B ∧ B.code = r.map (fun z => finPl m.funcs z.2) ∧ B.ends = 2 := by
 cases r with
 | nil => exact ⟨newB y.1 y.2.p, rfl, rfl, rfl⟩
 | cons x r =>
  obtain ⟨h1, h2⟩ := addF_plain m (x :: r) (newB x.1 x.2.p) h; refine ⟨(x :: r).foldl (fun b y => addB m y.2 b) (newB x.1 x.2.p), ?_, by rw [h1]; rfl, h2⟩; show ((x :: r) ++ [y]).foldl (fun b y => addB m y.2 b) (newB x.1 x.2.p) = _; rw [List.foldl_append]
  rfl
section
variable {m : Img} {ld : Int → Bool} {bm : Int → Option Int} {S : List FSp} {gs : List (List FSp)} {d : FlowD}
theorem PgmF.plain (h : PgmF m ld bm S gs d) {i : Nat} {g : List FSp} (hg : gs[i]? = some g) {j : Nat} {x : FSp} (hx : g[j]? = some x) (hj : j + 1 < g.length) : PlainK x.2.i := by
 unfold PlainK; rcases hb : (branchI x.2.i || x.2.i.k == 22 || stopsI x.2.i) with _ | _
 · rfl
 · exfalso
   have hy : g[j + 1]? = some (g[j + 1]'hj) := gE' hj; obtain ⟨s1, s2, s3, -⟩ := h.spot hg hx; obtain ⟨t1, -, -, -⟩ := h.spot hg hy; have ht := h.term x s3 hb; obtain ⟨x0, r, rfl, -, g2, -⟩ := h.ok g (mG' hg)
   have hm : (x0 :: r)[j + 1]'hj ∈ r := by
    rw [List.getElem?_cons_succ] at hy; exact mG' hy
   have := g2 _ hm; rw [t1, s2, ← s1, ht] at this
   cases this
theorem PgmF.snoc (h : PgmF m ld bm S gs d) {i : Nat} {g : List FSp} (hg : gs[i]? = some g) : ∃ r y, g = r ++ [y] ∧ (∀ z ∈ r, PlainK z.2.i) ∧ y ∈ S := by
 obtain ⟨x0, r0, hgr, -⟩ := h.ok g (mG' hg); rcases List.eq_nil_or_concat g with e | ⟨r, y, e⟩
 · rw [e] at hgr
   cases hgr
 · rw [List.concat_eq_append] at e; subst e; refine ⟨r, y, rfl, fun z hz => ?_, ?_⟩
   · obtain ⟨j, hj⟩ := List.getElem?_of_mem hz; have hjl := (List.getElem?_eq_some_iff.1 hj).1; exact h.plain hg (j := j) (by rw [List.getElem?_append_left hjl]; exact hj) (by simp; omega)
   · exact (h.spot hg (j := r.length) (x := y) (by simp)).2.2.1
theorem blk_ends (m : Img) (r : List FSp) (y : FSp) (h : ∀ z ∈ r, PlainK z.2.i) :
 (branchI y.2.i = true → (blkOf m (r ++ [y])).ends = 4 ∧ (blkOf m (r ++ [y])).last = ⟨y.2.i.k, 0, y.2.i.a, y.2.i.b, 0, false⟩ ∧ (blkOf m (r ++ [y])).dst = y.2.p + y.2.i.n ∧ (blkOf m (r ++ [y])).els = y.2.p + y.2.z ∧ (blkOf m (r ++ [y])).code = r.map (fun z => finPl m.funcs z.2)) ∧
 (branchI y.2.i = false → y.2.i.k = 22 → (blkOf m (r ++ [y])).ends = 3 ∧ (blkOf m (r ++ [y])).dst = y.2.p + y.2.i.n ∧ (blkOf m (r ++ [y])).code = r.map (fun z => finPl m.funcs z.2)) ∧
 (branchI y.2.i = false → y.2.i.k ≠ 22 → stopsI y.2.i = true → (blkOf m (r ++ [y])).ends = 1 ∧ (blkOf m (r ++ [y])).code = (r ++ [y]).map (fun z => finPl m.funcs z.2)) ∧
 (PlainK y.2.i → (blkOf m (r ++ [y])).ends = 2 ∧ (blkOf m (r ++ [y])).dst = y.2.p + y.2.z ∧ (blkOf m (r ++ [y])).code = (r ++ [y]).map (fun z => finPl m.funcs z.2)) := by
 obtain ⟨B, e, b1, b2⟩ := blk_snoc m r y h; rw [e]; refine ⟨fun h1 => ?_, fun h1 h2 => ?_, fun h1 h2 h3 => ?_, fun h1 => ?_⟩
 · unfold addB; rw [if_pos h1]; exact ⟨rfl, rfl, rfl, rfl, b1⟩
 · unfold addB; rw [if_neg (by rw [h1]; simp), if_pos h2]; exact ⟨rfl, rfl, b1⟩
 · unfold addB; rw [if_neg (by rw [h1]; simp), if_neg h2, if_pos h3]; refine ⟨rfl, ?_⟩; show B.code ++ [finPl m.funcs y.2] = _; rw [b1, List.map_append]
   rfl
 · obtain ⟨k1, k2, -, -, k5⟩ := addB_plain m y.2 B h1; refine ⟨k2.trans b2, k5, ?_⟩; rw [k1, b1, List.map_append]
   rfl
end
theorem joinB_g (bm : Int → Option Int) (b : BlkD) : (joinB bm b).dst = (if b.ends = 1 then b.dst else (bm b.dst).getD 0) ∧ (joinB bm b).els = (if b.ends = 4 then (bm b.els).getD 0 else b.els) ∧ (joinB bm b).lines = (if b.ends = 1 ∨ b.ends = 2 then b.lines ++ [b.lines.getLastD 0] else b.lines) := by
 unfold joinB; simp only
 split <;> split <;> split <;> exact ⟨rfl, rfl, rfl⟩
section
variable {m : Img} {ld : Int → Bool} {bm : Int → Option Int} {S : List FSp} {gs : List (List FSp)} {d : FlowD}
theorem PgmF.to (h : PgmF m ld bm S gs d) {x : FSp} (hx : x ∈ S) (hb : (branchI x.2.i || x.2.i.k == 22) = true) : ∃ (j : Nat) (y : FSp) (r : List FSp), gs[j]? = some (y :: r) ∧ y.2.p = x.2.p + x.2.i.n ∧ y.1 = x.1 ∧ bm (x.2.p + x.2.i.n) = some (j : Int) := by
 obtain ⟨j, y, r, h1, h2, h3⟩ := h.goto x hx hb; exact ⟨j, y, r, h1, h2, h3, by rw [← h2]; exact h.bm j y r h1⟩
theorem PgmF.next (h : PgmF m ld bm S gs d) {i : Nat} {r : List FSp} {y : FSp} (hg : gs[i]? = some (r ++ [y])) (hn : (stopsI y.2.i || y.2.i.k == 22) = false) :
 ∃ (z : FSp) (r' : List FSp), gs[i + 1]? = some (z :: r') ∧ z.2.p = y.2.p + y.2.z ∧ z.1 = y.1 ∧ bm (y.2.p + y.2.z) = some ((i + 1 : Nat) : Int) := by
 have e := groups_at hg; rw [h.flat] at e; have e2 : S = ((gs.take i).flatten ++ r) ++ y :: (gs.drop (i + 1)).flatten := by rw [e]; simp
 rcases h.last _ _ _ e2 with hl | ⟨z, r', hz, hz1⟩
 · rw [hn] at hl
   cases hl
 · rcases hd : gs.drop (i + 1) with _ | ⟨g', rest⟩
   · rw [hd] at hz
     cases hz
   · have hg' : gs[i + 1]? = some g' := by
      have := List.getElem?_drop (xs := gs) (i := i + 1) (j := 0); rw [hd, Nat.add_zero] at this; exact this.symm
     obtain ⟨z', r'', rfl, -⟩ := h.ok g' (mG' hg'); rw [hd] at hz
     have hzz : z' = z := by
      have h2 : z' :: (r'' ++ rest.flatten) = z :: r' := hz; injection h2
     subst hzz; have s1 := (h.spot hg' (j := 0) rfl).1; obtain ⟨t1, t2, -⟩ := h.spot hg (j := r.length) (x := y) (by simp); have hp := pos_next hg (z' :: r'')
     have hp2 : z'.2.p = y.2.p + y.2.z := by
      rw [s1, hp, List.length_append, List.length_singleton, t2, ← t1]
     exact ⟨z', r'', hg', hp2, hz1, by rw [← hp2]; exact h.bm (i + 1) z' r'' hg'⟩
end
theorem blk_lines0 (m : Img) (x : FSp) (r : List FSp) : (blkOf m (x :: r)).lines = (x :: r).map (fun y => lineAtF y.2.p 0 m.lines) := by
 obtain ⟨-, -, -, k4⟩ := addF_f m (x :: r) (newB x.1 x.2.p); exact k4
theorem ends_cases (i : Ins) : branchI i = true ∨ (branchI i = false ∧ i.k = 22) ∨ (branchI i = false ∧ i.k ≠ 22 ∧ stopsI i = true) ∨ PlainK i := by
 rcases hb : branchI i with _ | _
 · by_cases h22 : i.k = 22
   · exact .inr (.inl ⟨rfl, h22⟩)
   · rcases hs : stopsI i with _ | _
     · refine .inr (.inr (.inr ?_)); unfold PlainK; rw [hb, hs]; simpa using h22
     · exact .inr (.inr (.inl ⟨rfl, h22, rfl⟩))
 · exact .inl rfl
section
variable {m : Img} {ld : Int → Bool} {bm : Int → Option Int} {S : List FSp} {gs : List (List FSp)} {d : FlowD}
theorem PgmF.lines (h : PgmF m ld bm S gs d) {i : Nat} {b : BlkD} (hb : d.blocks[i]? = some b) : b.lines.length = b.code.length + 1 ∧ ∀ (j : Nat) (p : Int), b.ats[j]? = some p → b.lines[j]? = some (lineAtF p 0 m.lines) := by
 obtain ⟨x, r, hg, e, -, -, b3⟩ := h.blk hb; obtain ⟨r', y, hs, hp, -⟩ := h.snoc hg; have hl := blk_lines0 m x r; obtain ⟨-, -, -, j4, j5, -⟩ := joinB_f bm (blkOf m (x :: r)); obtain ⟨-, -, g3⟩ := joinB_g bm (blkOf m (x :: r)); rw [← e] at j4 j5 g3; have hends := blk_ends m r' y hp; rw [← hs] at hends; have hlen : (x :: r).length = r'.length + 1 := by rw [hs]; simp
 have hll : (blkOf m (x :: r)).lines.length = r'.length + 1 := by rw [hl, List.length_map, hlen]
 have hpre : ∀ (j : Nat) (p : Int), b.ats[j]? = some p → (blkOf m (x :: r)).lines[j]? = some (lineAtF p 0 m.lines) := fun j p hj => by
  rw [b3, List.getElem?_map, Option.map_eq_some_iff] at hj; obtain ⟨z, hz, rfl⟩ := hj; rw [hl, List.getElem?_map, hz]
  rfl
 obtain ⟨e1, e2, e3, e4⟩ := hends; rcases ends_cases y.2.i with c | ⟨c1, c2⟩ | ⟨c1, c2, c3⟩ | c
 · obtain ⟨k1, -, -, -, k5⟩ := e1 c; rw [if_neg (by rw [k1]; decide)] at g3; rw [g3, j4, k5, hll, List.length_map]; exact ⟨rfl, hpre⟩
 · obtain ⟨k1, -, k5⟩ := e2 c1 c2; rw [if_neg (by rw [k1]; decide)] at g3; rw [g3, j4, k5, hll, List.length_map]; exact ⟨rfl, hpre⟩
 · obtain ⟨k1, k5⟩ := e3 c1 c2 c3; rw [if_pos (.inl k1)] at g3; rw [g3, j4, k5, List.length_append, hll, List.length_map, hlen]
   exact ⟨rfl, fun j p hj => by
    have := hpre j p hj; rw [List.getElem?_append_left (List.getElem?_eq_some_iff.1 this).1]
    exact this⟩
 · obtain ⟨k1, -, k5⟩ := e4 c; rw [if_pos (.inr k1)] at g3; rw [g3, j4, k5, List.length_append, hll, List.length_map, hlen]
   exact ⟨rfl, fun j p hj => by
    have := hpre j p hj; rw [List.getElem?_append_left (List.getElem?_eq_some_iff.1 this).1]
    exact this⟩
theorem PgmF.code (h : PgmF m ld bm S gs d) {i : Nat} {b : BlkD} (hb : d.blocks[i]? = some b) {j : Nat} {c : Ins} (hc : b.code[j]? = some c) : ∃ (y : FSp) (g : List FSp), gs[i]? = some g ∧ g[j]? = some y ∧ b.ats[j]? = some y.2.p ∧ c = finPl m.funcs y.2 := by
 obtain ⟨x, r, hg, e, -, -, b3⟩ := h.blk hb; obtain ⟨r', y, hs, hp, -⟩ := h.snoc hg; obtain ⟨-, -, -, j4, j5, -⟩ := joinB_f bm (blkOf m (x :: r)); rw [← e] at j4; have hends := blk_ends m r' y hp; rw [← hs] at hends; obtain ⟨e1, e2, e3, e4⟩ := hends
 have h1 : (∃ z, r'[j]? = some z ∧ c = finPl m.funcs z.2) ∨ (∃ z, (x :: r)[j]? = some z ∧ c = finPl m.funcs z.2) := by
  rcases ends_cases y.2.i with c1 | ⟨c1, c2⟩ | ⟨c1, c2, c3⟩ | c1
  · left
    rw [j4, (e1 c1).2.2.2.2, List.getElem?_map, Option.map_eq_some_iff] at hc; obtain ⟨z, hz, rfl⟩ := hc; exact ⟨z, hz, rfl⟩
  · left
    rw [j4, (e2 c1 c2).2.2, List.getElem?_map, Option.map_eq_some_iff] at hc; obtain ⟨z, hz, rfl⟩ := hc; exact ⟨z, hz, rfl⟩
  · right
    rw [j4, (e3 c1 c2 c3).2, List.getElem?_map, Option.map_eq_some_iff] at hc; obtain ⟨z, hz, rfl⟩ := hc; exact ⟨z, hz, rfl⟩
  · right
    rw [j4, (e4 c1).2.2, List.getElem?_map, Option.map_eq_some_iff] at hc; obtain ⟨z, hz, rfl⟩ := hc; exact ⟨z, hz, rfl⟩
 have h2 : ∃ z, (x :: r)[j]? = some z ∧ c = finPl m.funcs z.2 := by
  rcases h1 with ⟨z, hz, hc⟩ | h2
  · refine ⟨z, ?_, hc⟩; rw [hs, List.getElem?_append_left (List.getElem?_eq_some_iff.1 hz).1]; exact hz
  · exact h2
 obtain ⟨z, hz, hc2⟩ := h2; exact ⟨z, x :: r, hg, hz, by rw [b3, List.getElem?_map, hz]; rfl, hc2⟩
end
theorem idxP_some {α : Type} (p : α → Bool) : ∀ (L : List α), L.any p = true → ∃ (k : Nat) (x : α), L[k]? = some x ∧ p x = true ∧ idxP p L = (k : Int)
 | [], h => by simp at h
 | x :: r, h => by
  by_cases hp : p x = true
  · exact ⟨0, x, rfl, hp, by unfold idxP; rw [if_pos hp]; rfl⟩
  · rw [List.any_cons, Bool.or_eq_true] at h; rcases h with h | h
    · exact absurd h hp
    · obtain ⟨k, y, h1, h2, h3⟩ := idxP_some p r h; refine ⟨k + 1, y, by simpa using h1, h2, ?_⟩; unfold idxP; rw [if_neg hp, if_neg (by omega), h3]; omega
section
variable {m : Img} {ld : Int → Bool} {bm : Int → Option Int} {S : List FSp} {gs : List (List FSp)} {d : FlowD}
theorem PgmF.named (h : PgmF m ld bm S gs d) {i : Nat} {b : BlkD} (hb : d.blocks[i]? = some b) {j : Nat} {c : Ins} (hc : b.code[j]? = some c) (hk : c.k = 23) :
 ∃ (p : Int) (y : Ins) (z : Int) (q : Nat) (f : FnD), b.ats[j]? = some p ∧ decB m.text p = (y, z, 0) ∧ c.n = (q : Int) ∧ m.funcs[q]? = some f ∧ f.start = p + y.n := by
 obtain ⟨y, g, hg, hy, ha, rfl⟩ := h.code hb hc; obtain ⟨s1, -, s3, s4⟩ := h.spot hg hy
 have hk2 : y.2.i.k = 23 := by
  unfold finPl at hk
  split at hk
  · assumption
  · exact hk
 obtain ⟨q, f, k1, k2, k3⟩ := idxP_some _ _ (h.call y s3 hk2); refine ⟨y.2.p, y.2.i, y.2.z, q, f, ha, by rw [s1]; exact s4, ?_, k1, by simpa using k2⟩; unfold finPl; rw [if_pos hk2]; exact k3
inductive EndsB (m : Img) (gs : List (List FSp)) (i : Nat) (b : BlkD) (y : FSp) : Prop where
 | branch (j : Nat) (z : FSp) (r : List FSp) (z' : FSp) (r' : List FSp) : b.ends = 4 → branchI y.2.i = true → b.last.k = y.2.i.k → b.code.length + 1 = b.ats.length → b.dst = j → gs[j]? = some (z :: r) → z.2.p = y.2.p + y.2.i.n → z.1 = b.fn → b.els = (i + 1 : Nat) → gs[i + 1]? = some (z' :: r') → z'.2.p = y.2.p + y.2.z → z'.1 = b.fn → EndsB m gs i b y
 | jump (j : Nat) (z : FSp) (r : List FSp) : b.ends = 3 → y.2.i.k = 22 → b.code.length + 1 = b.ats.length → b.dst = j → gs[j]? = some (z :: r) → z.2.p = y.2.p + y.2.i.n → z.1 = b.fn → EndsB m gs i b y
 | stop : b.ends = 1 → y.2.i.k ≤ 3 ∨ y.2.i.k = 24 → b.code.length = b.ats.length → b.code.getLast? = some (finPl m.funcs y.2) → EndsB m gs i b y
 | fall (z' : FSp) (r' : List FSp) : b.ends = 2 → y.2.i.k < 18 ∨ y.2.i.k = 23 → b.code.length = b.ats.length → b.dst = (i + 1 : Nat) → gs[i + 1]? = some (z' :: r') → z'.2.p = y.2.p + y.2.z → z'.1 = b.fn → EndsB m gs i b y
theorem PgmF.fnAll (h : PgmF m ld bm S gs d) {i : Nat} {x : FSp} {r : List FSp} (hg : gs[i]? = some (x :: r)) : ∀ y ∈ x :: r, y.1 = x.1 := by
 obtain ⟨x', r', e, -, g2, g3⟩ := h.ok _ (mG' hg); injection e with e1 e2; subst e1 e2; intro y hy; rcases List.mem_cons.1 hy with rfl | hy
 · rfl
 · exact g3 y hy
theorem PgmF.ends (h : PgmF m ld bm S gs d) {i : Nat} {b : BlkD} (hb : d.blocks[i]? = some b) : ∃ (a : List Int) (y : FSp) (g : List FSp), b.ats = a ++ [y.2.p] ∧ decB m.text y.2.p = (y.2.i, y.2.z, 0) ∧ y ∈ S ∧ gs[i]? = some g ∧ g.getLast? = some y ∧ EndsB m gs i b y := by
 obtain ⟨x, r, hg, e, bf, -, b3⟩ := h.blk hb; obtain ⟨r', y, hs, hp, hyS⟩ := h.snoc hg; have hfn := h.fnAll hg; have hy1 : y.1 = b.fn := by rw [bf]; exact hfn y (by rw [hs]; simp)
 obtain ⟨s1, -, -, s4⟩ := h.spot (hs ▸ hg) (j := r'.length) (x := y) (by simp); have hchk := (decB_ok (show (decB m.text y.2.p).2.2 = 0 by rw [s1, s4])).1; rw [s1, s4] at hchk; have hkk : 1 ≤ y.2.i.k ∧ y.2.i.k ≤ 24 := chk_kind hchk; have hrl : r.length = r'.length := by have := congrArg List.length hs; simpa using this
 refine ⟨r'.map (fun y => y.2.p), y, r' ++ [y], by rw [b3, hs, List.map_append]; rfl, by rw [s1]; exact s4, hyS, by rw [← hs]; exact hg, by simp, ?_⟩; obtain ⟨-, -, j3, j4, j5, j6⟩ := joinB_f bm (blkOf m (x :: r)); obtain ⟨g1, g2, -⟩ := joinB_g bm (blkOf m (x :: r)); rw [← e] at g1 g2 j3 j4 j5 j6; have hal : b.ats.length = r'.length + 1 := by rw [b3, hs]; simp
 have hends := blk_ends m r' y hp; rw [← hs] at hends; obtain ⟨e1, e2, e3, e4⟩ := hends; rw [hs] at hg; rcases ends_cases y.2.i with c1 | ⟨c1, c2⟩ | ⟨c1, c2, c3⟩ | c1
 · obtain ⟨k1, k2, k3, k4, k5⟩ := e1 c1; obtain ⟨j, z, rz, t1, t2, t3, t4⟩ := h.to hyS (by rw [c1]; rfl)
   have hns : (stopsI y.2.i || y.2.i.k == 22) = false := by
    unfold branchI at c1; unfold stopsI; simp at c1 ⊢; omega
   obtain ⟨z', rz', u1, u2, u3, u4⟩ := h.next hg hns; refine .branch j z rz z' rz' (j5.trans k1) c1 ?_ ?_ ?_ t1 t2 (t3.trans hy1) ?_ u1 u2 (u3.trans hy1)
   · rw [j6, k2]
   · rw [j4, k5, List.length_map, hal]
   · rw [g1, if_neg (by rw [k1]; decide), k3, t4]
     rfl
   · rw [g2, if_pos k1, k4, u4]
     rfl
 · obtain ⟨k1, k3, k5⟩ := e2 c1 c2; obtain ⟨j, z, rz, t1, t2, t3, t4⟩ := h.to hyS (by rw [c2]; simp); refine .jump j z rz (j5.trans k1) c2 ?_ ?_ t1 t2 (t3.trans hy1)
   · rw [j4, k5, List.length_map, hal]
   · rw [g1, if_neg (by rw [k1]; decide), k3, t4]
     rfl
 · obtain ⟨k1, k5⟩ := e3 c1 c2 c3; refine .stop (j5.trans k1) ?_ ?_ ?_
   · unfold stopsI at c3; simpa using c3
   · rw [j4, k5, List.length_map, hal, List.length_cons, hrl]
   · rw [j4, k5, hs]; simp
 · obtain ⟨k1, k3, k5⟩ := e4 c1; have c1' := c1; unfold PlainK at c1'; rw [Bool.or_eq_false_iff, Bool.or_eq_false_iff] at c1'; obtain ⟨z', rz', u1, u2, u3, u4⟩ := h.next hg (by rw [c1'.2, c1'.1.2]; rfl); refine .fall z' rz' (j5.trans k1) ?_ ?_ ?_ u1 u2 (u3.trans hy1)
   · have d1 := c1'.1.1; have d2 := c1'.1.2; have d3 := c1'.2; unfold branchI at d1; unfold stopsI at d3; simp at d1 d2 d3; omega
   · rw [j4, k5, List.length_map, hal, List.length_cons, hrl]
   · rw [g1, if_neg (by rw [k1]; decide), k3, u4]
     rfl
theorem PgmF.blen (h : PgmF m ld bm S gs d) {i : Nat} {b : BlkD} (hb : d.blocks[i]? = some b) : 1 ≤ b.ats.length ∧ b.ats.length ≤ m.text.length ∧ b.code.length ≤ b.ats.length := by
 obtain ⟨x, r, hg, -, -, -, b3⟩ := h.blk hb; have h1 := h.glen hg; obtain ⟨a, y, g, ha, -, -, -, -, he⟩ := h.ends hb; have h2 : b.ats.length = (x :: r).length := by rw [b3, List.length_map]
 have h3 : b.code.length ≤ b.ats.length := by
  cases he with
  | branch j z r z' r' _ _ _ h4 => omega
  | jump j z r _ _ h4 => omega
  | stop _ _ h4 _ => omega
  | fall z' r' _ _ h4 => omega
 have h4 : b.ats.length = a.length + 1 := by rw [ha]; simp
 omega
end
theorem sweepGo_chain (text : List Int) (en : Int) : ∀ (d : Nat) (p : Int) (l : List Sp), sweepGo text en d p = some l → en - p ≤ d → ChainS p l ∧ (∀ a s, l = a ++ [s] → s.p + s.z = en) ∧ (l = [] → en ≤ p) := by
 intro d
 induction d with
 | zero =>
  intro p l h hd; simp only [sweepGo, Option.some.injEq] at h; subst h; exact ⟨trivial, fun a s e => by simp at e, fun _ => by omega⟩
 | succ d ih =>
  intro p l h hd; simp only [sweepGo] at h
  split at h
  · split at h
    · cases h
    · rename_i hp hc
      have he : (decB text p).2.2 = 0 := by
       rcases Classical.em ((decB text p).2.2 = 0) with e | e
       · exact e
       · exact absurd (.inl e) hc
      have hz := decB_sz he
      have hen : p + (decB text p).2.1 ≤ en := by
       rcases Classical.em (en < p + (decB text p).2.1) with e | e
       · exact absurd (.inr e) hc
       · omega
      obtain ⟨r, hr, rfl⟩ := Option.map_eq_some_iff.1 h; obtain ⟨k1, k2, k3⟩ := ih _ r hr (by omega); refine ⟨⟨rfl, hz.1, k1⟩, fun a s e => ?_, fun e => by cases e⟩
      cases a with
      | nil =>
       injection e with e1 e2; have := k3 e2; subst e1; show p + (decB text p).2.1 = en; omega
      | cons x a =>
       injection e with e1 e2; exact k2 a s e2
  · rename_i hp
    simp only [Option.some.injEq] at h; subst h; exact ⟨trivial, fun a s e => by simp at e, fun _ => by omega⟩
theorem sweepL_chain {text : List Int} {f : FnD} {l : List Sp} (h : sweepL text f = some l) : ChainS f.start l ∧ (∀ a s, l = a ++ [s] → s.p + s.z = f.start + f.size) ∧ lastOk l = true := by
 unfold sweepL at h
 split at h
 · cases h
 · rename_i l' hg
   split at h
   · injection h with h; subst h; obtain ⟨k1, k2, -⟩ := sweepGo_chain _ _ _ _ _ hg (by omega)
     rename_i hl
     exact ⟨k1, k2, hl⟩
   · cases h
theorem lastOk_ne {l : List Sp} (h : lastOk l = true) : ∃ a s, l = a ++ [s] ∧ (stopsI s.i = true ∨ s.i.k = 22) := by
 rcases List.eq_nil_or_concat l with e | ⟨a, s, e⟩
 · rw [e] at h
   cases h
 · rw [List.concat_eq_append] at e; refine ⟨a, s, e, ?_⟩; unfold lastOk at h; rw [e] at h; simpa using h
theorem ChainS.app {r : List Sp} {q : Int} : ∀ {l : List Sp} {p : Int}, ChainS p l → (l = [] → p = q) → (∀ a s, l = a ++ [s] → s.p + s.z = q) → ChainS q r → ChainS p (l ++ r)
 | [], p, _, h0, _, h2 => by rw [h0 rfl]; exact h2
 | s :: l, p, h, _, h1, h2 => by
  refine ⟨h.1, h.2.1, ChainS.app (l := l) h.2.2 (fun e => ?_) (fun a t e => h1 (s :: a) t (by rw [e]; rfl)) h2⟩; have := h1 [] s (by rw [e]; rfl); have := h.1; omega
def TileF (T : Int) : Int → List FnD → Prop
 | p, [] => p = T
 | p, f :: r => f.start = p ∧ 1 ≤ f.size ∧ TileF T (p + f.size) r
theorem funcsGo_tile (T : Int) : ∀ (l prev : List FnD) (p : Int), funcsGo T prev p l = 0 → TileF T p l
 | [], prev, p, h => by
  unfold funcsGo at h
  split at h
  · assumption
  · cases h
 | f :: r, prev, p, h => by
  unfold funcsGo at h
  split at h
  · cases h
  · split at h
    · cases h
    · split at h
      · cases h
      · rename_i h1
        exact ⟨by omega, by omega, funcsGo_tile T r _ _ h⟩
theorem check_tile {m : Img} (h : checkE m = 0) : TileF m.text.length 0 m.funcs ∧ m.funcs ≠ [] ∧ m.text.length ≤ 8000 ∧ 0 ≤ m.entry ∧ m.entry < m.funcs.length ∧ m.funcs.length ≤ 40 ∧ m.tables.length ≤ 20 ∧ m.data.length ≤ 64 := by
 unfold checkE at h
 split at h
 · cases h
 · rename_i h0
   split at h
   · rename_i h2
     exact absurd h h2
   · rename_i h2
     split at h
     · cases h
     · rename_i h4
       split at h
       · cases h
       · rename_i h5
         have h3 : funcsE m = 0 := by omega
         unfold funcsE at h3
         split at h3
         · cases h3
         · rename_i h6
           refine ⟨funcsGo_tile _ _ _ _ h3, fun e => ?_, by omega, by omega, by omega, by omega, by omega, by omega⟩; rw [e] at h4; simp at h4; omega
theorem tile_chain {text : List Int} {T : Int} : ∀ {fs : List FnD} {all : List (List Sp)} {p : Int}, TileF T p fs → sweepAll text fs = some all → ChainS p all.flatten ∧ (∀ a s, all.flatten = a ++ [s] → s.p + s.z = T) ∧ (fs = [] → p = T) ∧ (fs ≠ [] → all.flatten ≠ [])
 | [], all, p, h, hs => by
  injection hs with hs; subst hs; exact ⟨trivial, fun a s e => by simp at e, fun _ => h, fun e => absurd rfl e⟩
 | f :: r, all, p, h, hs => by
  have h' : (sweepL text f).bind (fun l => (sweepAll text r).map (l :: ·)) = some all := hs
  cases hl : sweepL text f with
  | none => rw [hl] at h'; cases h'
  | some l =>
   rw [hl] at h'; obtain ⟨all', ha, rfl⟩ := Option.map_eq_some_iff.1 h'; obtain ⟨k1, k2, k3, k4⟩ := tile_chain h.2.2 ha; obtain ⟨c1, c2, c3⟩ := sweepL_chain hl; obtain ⟨a0, s0, e0, -⟩ := lastOk_ne c3; rw [h.1] at c1 c2; have hne : l ≠ [] := by rw [e0]; simp
   refine ⟨?_, fun a s e => ?_, (fun e => by cases e), fun _ => ?_⟩
   · rw [List.flatten_cons]; exact ChainS.app c1 (fun e => absurd e hne) c2 k1
   · rw [List.flatten_cons] at e; rcases List.eq_nil_or_concat all'.flatten with e1 | ⟨b, t, e1⟩
     · rw [e1, List.append_nil] at e; have h1 := c2 a s e; rcases Classical.em (r = []) with e2 | e2
       · rw [h1]; exact k3 e2
       · exact absurd e1 (k4 e2)
     · rw [List.concat_eq_append] at e1; rw [e1, ← List.append_assoc] at e; have h2 := (List.append_inj' e rfl).2; have h3 : t = s := by injection h2
       exact k2 b s (by rw [e1, h3])
   · rw [List.flatten_cons]; intro e; exact hne (List.append_eq_nil_iff.1 e).1
theorem sweepAll_is {text : List Int} {fs : List FnD} {all : List (List Sp)} (h : sweepAll text fs = some all) {j : Nat} {l : List Sp} (hl : all[j]? = some l) : ∃ f, fs[j]? = some f ∧ sweepL text f = some l := by
 have hj := (List.getElem?_eq_some_iff.1 hl).1; rw [sweepAll_len h] at hj; obtain ⟨sp, h1, h2⟩ := sweepAll_at h j _ (gE' hj); rw [hl] at h1; injection h1 with h1; exact ⟨_, gE' hj, by rw [h1]; exact h2⟩
theorem gen_sok {m : Img} (hc : checkE m = 0) {all : List (List Sp)} (ha : sweepAll m.text m.funcs = some all) {own : Int → Option Int} {ld0 ld : Int → Bool} (hm : markAll m own (m.funcs.zip all) 0 ld0 = some ld) : SOk ld (tagS 0 all) := by
 have hch := (tile_chain (check_tile hc).1 ha).1; rw [← tagS_snd all 0] at hch; refine ⟨fun d x r e => ?_, fun d x r e y hy => ?_⟩
 · rcases tagS_split _ _ _ e with ⟨j, l, k1, k2, k3⟩ | h2
   · left
     obtain ⟨f, hf, hs⟩ := sweepAll_is ha k1
     have hz : (m.funcs.zip all)[j]? = some (f, l) := by
      rw [List.getElem?_zip_eq_some]; exact ⟨hf, k1⟩
     have h1 := markAll_first hm _ (mG' hz)
     have h2 : l[0]? = some x.2 := by
      cases l with
      | nil => cases k3
      | cons s l => simpa using k3
     rw [sweep_first hs h2]; exact h1
   · exact .inr h2
 · rw [e, List.map_append, List.map_cons] at hch; have := (ChainS.at hch).2.1 y.2 (List.mem_map_of_mem hy); omega
theorem sweepL_in {text : List Int} {f : FnD} {l : List Sp} (h : sweepL text f = some l) {s : Sp} (hs : s ∈ l) : f.start ≤ s.p ∧ s.p + s.z ≤ f.start + f.size := by
 unfold sweepL at h
 split at h
 · cases h
 · rename_i l' hg
   split at h
   · injection h with h; subst h; obtain ⟨j, hj⟩ := List.getElem?_of_mem hs; have := sweepGo_ok _ _ _ _ _ hg (by omega) j s hj; exact ⟨this.1, this.2.1⟩
   · cases h
def FnF (m : Img) (S : List FSp) : Prop := ∀ x ∈ S, ∃ f : FnD, 0 ≤ x.1 ∧ m.funcs[x.1.toNat]? = some f ∧ f.start ≤ x.2.p ∧ x.2.p + x.2.z ≤ f.start + f.size
theorem tabsLd_own {own : Int → Option Int} : ∀ {l : List Int} {ld ld' : Int → Bool}, tabsLd own l ld = some ld' → ∀ a ∈ l, (own a).isSome = true
 | [], _, _, _, a, h => by cases h
 | x :: r, ld, ld', h, a, ha => by
  unfold tabsLd at h
  split at h
  · rename_i hx
    rcases List.mem_cons.1 ha with rfl | ha
    · exact hx
    · exact tabsLd_own h a ha
  · cases h
def TabF (m : Img) (gs : List (List FSp)) : Prop := ∀ t ∈ m.tables, ∀ a ∈ t, ∃ (j : Nat) (y : FSp) (r : List FSp), gs[j]? = some (y :: r) ∧ y.2.p = a
theorem gen_flow3 {m : Img} (hc : checkE m = 0) {d : FlowD} (hd : recL m = some d) : ∃ ld bm S gs, PgmF m ld bm S gs d ∧ FnF m S ∧ TabF m gs := by
 unfold recL at hd; obtain ⟨all, a1, hd⟩ := Option.bind_eq_some_iff.1 hd; obtain ⟨ld0, a2, hd⟩ := Option.bind_eq_some_iff.1 hd; obtain ⟨ld, a3, hd⟩ := Option.map_eq_some_iff.1 hd; subst hd; have hS := gen_sok hc a1 a3; obtain ⟨T1, T2, -, T4⟩ := tile_chain (check_tile hc).1 a1; have hlen3 := sweepAll_len a1; obtain ⟨S, hSe⟩ := ex' (tagS 0 all)
 obtain ⟨gs, hcv, -⟩ := CInv.run S [] [] _ (CInv.start m ld) (by rw [← hSe]; exact hS); rw [List.nil_append] at hcv
 have hpl : ∀ {j : Nat} {l : List Sp}, all[j]? = some l → ∃ f, m.funcs[j]? = some f ∧ sweepL m.text f = some l ∧ (m.funcs.zip all)[j]? = some (f, l) := fun {j l} hj => by
  obtain ⟨f, h1, h2⟩ := sweepAll_is a1 hj; refine ⟨f, h1, h2, ?_⟩; rw [List.getElem?_zip_eq_some]; exact ⟨h1, hj⟩
 have hmk : ∀ x ∈ S, ∃ l1 l2, markS m (ownA all) x.1 x.2 l1 = some l2 ∧ ∀ q, l2 q = true → ld q = true := fun x hx => by
  rw [← hSe] at hx; obtain ⟨j, l, k1, k2, k3⟩ := tagS_mem _ _ hx; obtain ⟨f, -, -, hz⟩ := hpl k1; rw [k2]; exact markAll_mark a3 j _ hz k3
 have hown : ∀ (f q : Int), ownA all q = some f → ld q = true → ∃ (j : Nat) (y : FSp) (r : List FSp), gs[j]? = some (y :: r) ∧ y.2.p = q ∧ y.1 = f := fun f q ho hq => by
  rcases finOwn_of q f _ 0 _ ho with ⟨j, l, k1, k2, s, k3, k4⟩ | h1
  · have hx := tagS_in _ 0 j l k1 k3; rw [hSe] at hx; obtain ⟨i, r, hi⟩ := hcv.head hx (by show ld s.p = true; rw [k4]; exact hq); exact ⟨i, _, r, hi, k4, k2.symm⟩
  · cases h1
 have hle := tagS_le all 0; have hch : ChainS 0 ((tagS 0 all).map Prod.snd) := by rw [tagS_snd]; exact T1
 have hbs : (S.foldl (cut1 m ld) ⟨[], fun _ => none⟩) = (cutAll m ld all 0 ⟨[], fun _ => none⟩ []).1 := by rw [cutAll_tag, hSe]
 rw [hbs] at hcv; rw [hSe] at hle hch
 have hdecS : ∀ x ∈ S, decB m.text x.2.p = (x.2.i, x.2.z, 0) := fun x hx => by
  rw [← hSe] at hx; obtain ⟨j, l, k1, k2, k3⟩ := tagS_mem _ _ hx; obtain ⟨f, -, hs, -⟩ := hpl k1; exact sweepL_dec hs k3
 have hfn : FnF m S := fun x hx => by
  rw [← hSe] at hx; obtain ⟨j, l, k1, k2, k3⟩ := tagS_mem _ _ hx; obtain ⟨f, hf, hs, -⟩ := hpl k1; have hj : x.1.toNat = j := by omega
  obtain ⟨i1, i2⟩ := sweepL_in hs k3; exact ⟨f, by omega, by rw [hj]; exact hf, i1, i2⟩
 have htf : TabF m gs := fun t ht a ha => by
  have hin : a ∈ m.tables.flatten := List.mem_flatten.2 ⟨t, ht, ha⟩; obtain ⟨f, hf⟩ := Option.isSome_iff_exists.1 (tabsLd_own a2 a hin); obtain ⟨j, y, r, h1, h2, -⟩ := hown f a hf (markAll_keep a3 ((tabsLd_ld a2).2 a hin)); exact ⟨j, y, r, h1, h2⟩
 refine ⟨ld, (cutAll m ld all 0 ⟨[], fun _ => none⟩ []).1.bm, S, gs, ?_, hfn, htf⟩; refine ⟨?_, rfl, hcv.flat, hcv.ok, hcv.bm, hch, hdecS, ?_, ?_, hle.1, ⟨?_, ?_⟩, ?_, ?_, ?_, ?_, ?_⟩
 · show ((cutAll m ld all 0 ⟨[], fun _ => none⟩ []).1.bs.map _) = _; rw [hcv.bs, List.map_map]
   rfl
 · intro a x e; have e2 := congrArg (List.map Prod.snd) e; rw [← hSe, tagS_snd, List.map_append] at e2; exact T2 _ _ e2
 · intro e; have e2 := congrArg (List.map Prod.snd) e; rw [← hSe, tagS_snd] at e2; exact T4 (check_tile hc).2.1 e2
 · have h1 := (cutAll_firsts m ld all _ lr').1; rw [List.take_length] at h1; show (cutAll m ld all 0 ⟨[], fun _ => none⟩ []).2.length = m.funcs.length; rw [h1, hlen3]
 · intro i n hn; obtain ⟨h1, h2⟩ := cutAll_firsts m ld all _ lr'; rw [List.take_length] at h1 h2
   have hi : i < all.length := by
    have := (List.getElem?_eq_some_iff.1 hn).1; exact Nat.lt_of_lt_of_eq this h1
   have hn2 := (h2 i hi).symm.trans hn; injection hn2 with hn2; obtain ⟨l, hat⟩ : ∃ l, all[i]? = some l := ⟨_, gE' hi⟩
   obtain ⟨f, hf, hsw, hzp⟩ := hpl hat; obtain ⟨a0, s0, e0, -⟩ := lastOk_ne (sweepL_chain hsw).2.2; obtain ⟨q, rq, hq⟩ : ∃ q rq, l = q :: rq := List.exists_cons_of_ne_nil (by rw [e0]; simp); have hqp : q.p = f.start := sweep_first hsw (by rw [hq]; rfl)
   have hsplit : all = all.take i ++ (q :: rq) :: all.drop (i + 1) := by
    obtain ⟨hi2, he⟩ := List.getElem?_eq_some_iff.1 hat; rw [← hq, ← he, ← List.drop_eq_getElem_cons hi2, List.take_append_drop]
   have hSs : S = tagS 0 (all.take i) ++ ((i : Int), q) :: (rq.map (fun s => ((i : Int), s)) ++ tagS ((i : Int) + 1) (all.drop (i + 1))) := by
    rw [← hSe]
    conv => lhs; rw [hsplit]
    rw [tagS_app, List.length_take, Nat.min_eq_left (by omega), Int.zero_add]
    rfl
   obtain ⟨x, hx⟩ := ex' (((i : Int), q) : FSp)
   obtain ⟨R, hR⟩ := ex' (rq.map (fun s => ((i : Int), s)) ++ tagS ((i : Int) + 1) (all.drop (i + 1)))
   obtain ⟨P, hP⟩ := ex' (tagS 0 (all.take i))
   rw [hx, hR, hP] at hSs; rw [hP] at hn2; rw [hSe] at hS
   have hldx : ld x.2.p = true := by
    have := markAll_first a3 _ (mG' hzp); rw [← hx]; show ld q.p = true; rw [hqp]; exact this
   rw [hSs] at hS; obtain ⟨g1, c1, -⟩ := CInv.run P [] [] _ (CInv.start m ld) (by rw [List.nil_append]; exact hS.pre); rw [List.nil_append] at c1; obtain ⟨g2, c2, e2, -⟩ := c1.step (.inl hldx) (hS.ap P x R rfl); obtain ⟨g3, c3, e3⟩ := CInv.run R (P ++ [x]) g2 _ c2 (by rw [List.append_assoc]; exact hS)
   have hfold : R.foldl (cut1 m ld) (cut1 m ld (P.foldl (cut1 m ld) ⟨[], fun _ => none⟩) x) = (cutAll m ld all 0 ⟨[], fun _ => none⟩ []).1 := by
    rw [← hbs, hSs, List.foldl_append]
    rfl
   rw [hfold] at c3; have h4 : g2[g1.length]? = some (x :: []) := by rw [e2 hldx]; simp
   obtain ⟨r3, h5⟩ := e3 g1.length x [] h4; have b1 := c3.bm _ _ _ h5; obtain ⟨j, r, hj⟩ := hcv.head (x := x) (by rw [hSs]; simp) hldx; have b2 := hcv.bm _ _ _ hj; rw [b1] at b2; injection b2 with b2; have hl1 : (P.foldl (cut1 m ld) ⟨[], fun _ => none⟩).bs.length = g1.length := by rw [c1.bs, List.length_map]
   rw [hl1] at hn2; refine ⟨f, x, r, hf, by omega, ?_, ?_, ?_⟩
   · rw [show n.toNat = j by omega]; exact hj
   · rw [← hx]; exact hqp
   · rw [← hx]
 · intro x hx ht; obtain ⟨l1, l2, k1, k2⟩ := hmk x hx; apply k2; unfold markS at k1
   split at k1
   · split at k1
     · injection k1 with k1; rw [← k1]; unfold upF; rw [if_pos rfl]
     · cases k1
   · rename_i hnb
     have hst : stopsI x.2.i = true := by
      rw [Bool.or_eq_true] at ht; rcases ht with ht | ht
      · exact absurd ht hnb
      · exact ht
     rw [if_pos hst] at k1
     split at k1
     · cases k1
     · injection k1 with k1; rw [← k1]; unfold upF; rw [if_pos rfl]
 · intro x hx ht; obtain ⟨l1, l2, k1, k2⟩ := hmk x hx; unfold markS at k1; rw [if_pos ht] at k1
   split at k1
   · rename_i ho
     injection k1 with k1; refine hown _ _ (by simpa using ho) (k2 _ ?_); rw [← k1]; exact up_keep (by unfold upF; rw [if_pos rfl])
   · cases k1
 · intro a x r e; rw [← hSe] at e; rcases tagS_last _ _ _ e with ⟨j, l, k1, k2, k3⟩ | h2
   · left
     obtain ⟨f, -, hsw, -⟩ := hpl k1; obtain ⟨a0, s0, e0, hq⟩ := lastOk_ne (sweepL_chain hsw).2.2; rw [e0, List.getLast?_append] at k3; simp only [List.getLast?_singleton, Option.some_or, Option.some.injEq] at k3; rw [← k3]; rw [Bool.or_eq_true, beq_iff_eq]; exact hq
   · exact .inr h2
 · intro x hx h23; obtain ⟨l1, l2, k1, k2⟩ := hmk x hx; unfold markS at k1; have e1 : (branchI x.2.i || x.2.i.k == 22) = false := by unfold branchI; rw [h23]; rfl
   have e2 : stopsI x.2.i = false := by unfold stopsI; rw [h23]; rfl
   rw [e1, e2, if_neg (by simp), if_neg (by simp), if_pos h23] at k1
   split at k1
   · assumption
   · cases k1
 · intro x hx h24; have hdec := hdecS x hx; have hchk := (decB_ok (show (decB m.text x.2.p).2.2 = 0 by rw [hdec])).1; rw [hdec] at hchk; have hn0 := (chk_n hchk).2 h24; refine ⟨hn0, fun t ht a ha => ?_⟩; obtain ⟨l1, l2, k1, k2⟩ := hmk x hx; unfold markS at k1; have e1 : (branchI x.2.i || x.2.i.k == 22) = false := by unfold branchI; rw [h24]; rfl
   have e2 : stopsI x.2.i = true := by unfold stopsI; rw [h24]; rfl
   rw [e1, e2, if_neg (by simp), if_pos rfl] at k1
   split at k1
   · cases k1
   · rename_i hc1
     have hlt := (List.getElem?_eq_some_iff.1 ht).1
     have ho : ownA all a = some x.1 := by
      rcases Classical.em (ownA all a = some x.1) with e | e
      · exact e
      · exfalso
        apply hc1; rw [Bool.and_eq_true, Bool.and_eq_true, beq_iff_eq, decide_eq_true_eq]; refine ⟨⟨h24, by omega⟩, List.any_eq_true.2 ⟨a, ?_, ?_⟩⟩
        · rw [List.getD_eq_getElem?_getD, ht]; exact ha
        · simpa using e
     refine hown _ _ ho (markAll_keep a3 ((tabsLd_ld a2).2 a ?_)); exact List.mem_flatten.2 ⟨t, mG' ht, ha⟩
theorem gen_flow {m : Img} (hc : checkE m = 0) {d : FlowD} (hd : recL m = some d) : ∃ ld bm S gs, PgmF m ld bm S gs d ∧ FnF m S := by
 obtain ⟨ld, bm, S, gs, h1, h2, -⟩ := gen_flow3 hc hd; exact ⟨ld, bm, S, gs, h1, h2⟩
end Go.Proofs.YtcdlgjhdbmmomaaGreatDoor
