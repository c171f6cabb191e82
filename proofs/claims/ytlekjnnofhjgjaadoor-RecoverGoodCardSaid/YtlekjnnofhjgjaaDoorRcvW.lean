/- A program's blocks: their fields, where they stand. -/
import Derived.Test.YtlekjnnofhjgjaaDoorRcvV
namespace Go.Proofs.YtlekjnnofhjgjaaDoor
open Go.RowKit
theorem addB_f (m : Img) (s : Sp) (b : BlkD) : (addB m s b).fn = b.fn ∧ (addB m s b).start = b.start ∧ (addB m s b).ats = b.ats ++ [s.p] ∧ (addB m s b).lines = b.lines ++ [lineAtF s.p 0 m.lines] := by
  unfold addB
  split
  · exact ⟨rfl, rfl, rfl, rfl⟩
  · split
    · exact ⟨rfl, rfl, rfl, rfl⟩
    · split
      · exact ⟨rfl, rfl, rfl, rfl⟩
      · exact ⟨rfl, rfl, rfl, rfl⟩
theorem addF_f (m : Img) : ∀ (r : List FSp) (b : BlkD), (r.foldl (fun b y => addB m y.2 b) b).fn = b.fn ∧ (r.foldl (fun b y => addB m y.2 b) b).start = b.start ∧
    (r.foldl (fun b y => addB m y.2 b) b).ats = b.ats ++ r.map (fun y => y.2.p) ∧ (r.foldl (fun b y => addB m y.2 b) b).lines = b.lines ++ r.map (fun y => lineAtF y.2.p 0 m.lines)
  | [], b => ⟨rfl, rfl, by simp, by simp⟩
  | x :: r, b => by
    obtain ⟨h1, h2, h3, h4⟩ := addF_f m r (addB m x.2 b)
    obtain ⟨k1, k2, k3, k4⟩ := addB_f m x.2 b
    refine ⟨h1.trans k1, h2.trans k2, ?_, ?_⟩
    · rw [List.foldl_cons, h3, k3]
      simp
    · rw [List.foldl_cons, h4, k4]
      simp
theorem joinB_f (bm : Int → Option Int) (b : BlkD) : (joinB bm b).fn = b.fn ∧ (joinB bm b).start = b.start ∧ (joinB bm b).ats = b.ats ∧ (joinB bm b).code = b.code ∧ (joinB bm b).ends = b.ends ∧ (joinB bm b).last = b.last := by
  unfold joinB
  simp only
  split <;> split <;> split <;> exact ⟨rfl, rfl, rfl, rfl, rfl, rfl⟩
theorem blk_f (m : Img) (bm : Int → Option Int) (x : FSp) (r : List FSp) : (joinB bm (blkOf m (x :: r))).fn = x.1 ∧ (joinB bm (blkOf m (x :: r))).start = x.2.p ∧ (joinB bm (blkOf m (x :: r))).ats = (x :: r).map (fun y => y.2.p) := by
  obtain ⟨h1, h2, h3, -, -, -⟩ := joinB_f bm (blkOf m (x :: r))
  obtain ⟨k1, k2, k3, k4⟩ := addF_f m (x :: r) (newB x.1 x.2.p)
  exact ⟨h1.trans k1, h2.trans k2, h3.trans k3⟩
/-- how many bytes some spots take -/
def szP : List FSp → Int
  | [] => 0
  | x :: r => x.2.z + szP r
theorem szP_app (b : List FSp) : ∀ a, szP (a ++ b) = szP a + szP b
  | [] => by simp [szP]
  | x :: r => by
    have := szP_app b r
    simp only [List.cons_append, szP]
    omega
theorem chain_pos {x : FSp} {r : List FSp} : ∀ {d : List FSp} {p : Int}, ChainS p ((d ++ x :: r).map Prod.snd) → x.2.p = p + szP d
  | [], p, h => by
    have h1 : x.2.p = p := h.1
    simp only [szP]
    omega
  | y :: d, p, h => by
    have h1 : y.2.p = p := h.1
    have h2 : x.2.p = p + y.2.z + szP d := chain_pos (d := d) h.2.2
    simp only [szP]
    omega
section
variable {m : Img} {ld : Int → Bool} {bm : Int → Option Int} {S : List FSp} {gs : List (List FSp)} {d : FlowD}
theorem groups_at {gs : List (List FSp)} {i : Nat} {g : List FSp} (h : gs[i]? = some g) : gs.flatten = (gs.take i).flatten ++ (g ++ (gs.drop (i + 1)).flatten) := by
  obtain ⟨hi, he⟩ := List.getElem?_eq_some_iff.1 h
  conv => lhs; rw [← List.take_append_drop i gs, List.drop_eq_getElem_cons hi, he]
  rw [List.flatten_append, List.flatten_cons]
theorem list_at {g : List FSp} {j : Nat} {x : FSp} (h : g[j]? = some x) : g = g.take j ++ x :: g.drop (j + 1) := by
  obtain ⟨hi, he⟩ := List.getElem?_eq_some_iff.1 h
  conv => lhs; rw [← List.take_append_drop j g, List.drop_eq_getElem_cons hi, he]
/-- where group i, spot j stands -/
def posP (gs : List (List FSp)) (g : List FSp) (i j : Nat) : Int := szP ((gs.take i).flatten ++ g.take j)
theorem PgmF.spot (h : PgmF m ld bm S gs d) {i : Nat} {g : List FSp} (hg : gs[i]? = some g) {j : Nat} {x : FSp} (hx : g[j]? = some x) : x.2.p = posP gs g i j ∧ posP gs g i (j + 1) = posP gs g i j + x.2.z ∧ x ∈ S ∧ decB m.text (posP gs g i j) = (x.2.i, x.2.z, 0) := by
  have e : S = ((gs.take i).flatten ++ g.take j) ++ x :: (g.drop (j + 1) ++ (gs.drop (i + 1)).flatten) := by
    rw [← h.flat, groups_at hg]
    conv => lhs; rw [list_at hx]
    simp
  have hm : x ∈ S := by rw [e]; simp
  have hp := chain_pos (by rw [← e]; exact h.chain)
  have h1 : x.2.p = posP gs g i j := by unfold posP; omega
  refine ⟨h1, ?_, hm, ?_⟩
  · unfold posP
    rw [List.take_add_one, hx, ← List.append_assoc, szP_app _ ((gs.take i).flatten ++ g.take j)]
    simp [szP]
  · rw [← h1]
    exact h.dec x hm
theorem pos_next {gs : List (List FSp)} {i : Nat} {g : List FSp} (hg : gs[i]? = some g) (g' : List FSp) : posP gs g' (i + 1) 0 = posP gs g i g.length := by
  unfold posP
  rw [List.take_add_one, hg]
  simp
theorem PgmF.fin (h : PgmF m ld bm S gs d) (g : List FSp) : posP gs g gs.length 0 = (m.text.length : Int) := by
  unfold posP
  rw [List.take_length, h.flat, List.take_zero, List.append_nil]
  rcases List.eq_nil_or_concat S with e | ⟨a, x, e⟩
  · exact absurd e h.nil
  · rw [List.concat_eq_append] at e
    have h1 := h.len a x e
    have h2 := chain_pos (d := a) (x := x) (r := []) (p := 0) (by rw [← e]; exact h.chain)
    rw [e, szP_app]
    simp only [szP]
    omega
theorem PgmF.fnle (h : PgmF m ld bm S gs d) {i : Nat} {x y : FSp} {r r' : List FSp} (h1 : gs[i]? = some (x :: r)) (h2 : gs[i + 1]? = some (y :: r')) : x.1 ≤ y.1 := by
  have e := groups_at h1
  have e2 : gs.drop (i + 1) = (y :: r') :: gs.drop (i + 2) := by
    obtain ⟨hi, he⟩ := List.getElem?_eq_some_iff.1 h2
    rw [List.drop_eq_getElem_cons hi, he]
  rw [e2, h.flat] at e
  have hp := h.fns
  rw [e] at hp
  have hp2 := (List.pairwise_append.1 hp).2.1
  exact (List.pairwise_append.1 hp2).2.2 x (by simp) y (by simp)
theorem PgmF.blk (h : PgmF m ld bm S gs d) {i : Nat} {b : BlkD} (hb : d.blocks[i]? = some b) : ∃ x r, gs[i]? = some (x :: r) ∧ b = joinB bm (blkOf m (x :: r)) ∧ b.fn = x.1 ∧ b.start = x.2.p ∧ b.ats = (x :: r).map (fun y => y.2.p) := by
  rw [h.blocks, List.getElem?_map, Option.map_eq_some_iff] at hb
  obtain ⟨g, hg, rfl⟩ := hb
  obtain ⟨x, r, rfl, -, -, -⟩ := h.ok g (List.mem_of_getElem? hg)
  obtain ⟨k1, k2, k3⟩ := blk_f m bm x r
  exact ⟨x, r, hg, rfl, k1, k2, k3⟩
end
/-- a block of a flow is read -/
theorem FlowRd.at {w : World} {xA yA zA : Option Addr} {xc yc zc : Nat} {d : FlowD} (h : FlowRd w xA xc yA yc zA zc d) {i : Nat} {b : BlkD} (hb : d.blocks[i]? = some b) :
    ∃ (v : BlkV) (g o : Nat), xA = some ⟨g, o, none⟩ ∧ g < w.heap.size ∧ BRd w (b, v) ∧ ∀ (q : Nat) (u : Value), (blkC b v)[q]? = some u → w.cell? ⟨g, o + i * 14 + q, none⟩ = some u := by
  obtain ⟨l, h1, h2, h3, -, -⟩ := h
  rw [← h1, List.getElem?_map, Option.map_eq_some_iff] at hb
  obtain ⟨x, hx, rfl⟩ := hb
  have hne : blksV l ≠ [] := by
    intro e
    have := blksV_at hx 0 _ rfl
    rw [e] at this
    simp at this
  obtain ⟨g, o, e, hg, hc⟩ := h2.1 hne
  refine ⟨x.2, g, o, e, hg, h3 x (List.mem_of_getElem? hx), fun q u hu => ?_⟩
  rw [Nat.add_assoc]
  exact hc _ _ (blksV_at hx q u hu)
theorem chain_sz : ∀ (l : List FSp) (p : Int), ChainS p (l.map Prod.snd) → (l.length : Int) ≤ szP l
  | [], p, h => by simp [szP]
  | x :: r, p, h => by
    have h1 := chain_sz r _ h.2.2
    have h2 : 1 ≤ x.2.z := h.2.1
    simp only [List.length_cons, szP]
    omega
theorem groups_len : ∀ gs : List (List FSp), (∀ g ∈ gs, g ≠ []) → gs.length ≤ gs.flatten.length
  | [], _ => Nat.le_refl _
  | g :: r, h => by
    have h1 := groups_len r fun y hy => h y (by simp [hy])
    have h2 := List.length_pos_iff.2 (h g (by simp))
    rw [List.flatten_cons, List.length_append, List.length_cons]
    omega
theorem PgmF.few {m : Img} {ld : Int → Bool} {bm : Int → Option Int} {S : List FSp} {gs : List (List FSp)} {d : FlowD} (h : PgmF m ld bm S gs d) : d.blocks.length = gs.length ∧ gs.length ≤ m.text.length := by
  have h1 := groups_len gs fun g hg => by
    obtain ⟨x, r, rfl, -⟩ := h.ok g hg
    simp
  have h2 := chain_sz S 0 h.chain
  have h3 := h.fin []
  unfold posP at h3
  rw [List.take_length, h.flat, List.take_nil, List.append_nil] at h3
  rw [h.flat] at h1
  refine ⟨by rw [h.blocks, List.length_map], by omega⟩
theorem PgmF.posb {m : Img} {ld : Int → Bool} {bm : Int → Option Int} {S : List FSp} {gs : List (List FSp)} {d : FlowD} (h : PgmF m ld bm S gs d) {x : FSp} (hx : x ∈ S) : 0 ≤ x.2.p ∧ 1 ≤ x.2.z ∧ x.2.z ≤ 4 ∧ x.2.p + x.2.z ≤ m.text.length := by
  have hd := h.dec x hx
  have e : (decB m.text x.2.p).2.2 = 0 := by rw [hd]
  have h1 := decB_ok e
  have h2 := decB_sz e
  rw [hd] at h1 h2
  simp only at h1 h2
  omega
theorem PgmF.glen {m : Img} {ld : Int → Bool} {bm : Int → Option Int} {S : List FSp} {gs : List (List FSp)} {d : FlowD} (h : PgmF m ld bm S gs d) {i : Nat} {g : List FSp} (hg : gs[i]? = some g) : g.length ≤ m.text.length := by
  have e := groups_at hg
  rw [h.flat] at e
  have h2 := chain_sz S 0 h.chain
  have h3 := h.fin []
  unfold posP at h3
  rw [List.take_length, h.flat, List.take_nil, List.append_nil] at h3
  have h4 : g.length ≤ S.length := by
    rw [e, List.length_append, List.length_append]
    omega
  omega
/-- a function's first block begins where the function does -/
theorem PgmF.first {m : Img} {ld : Int → Bool} {bm : Int → Option Int} {S : List FSp} {gs : List (List FSp)} {d : FlowD} (h : PgmF m ld bm S gs d) {i : Nat} {n : Int} (hn : d.firsts[i]? = some n) : ∃ (k : Nat) (b : BlkD) (f : FnD), n = k ∧ d.blocks[k]? = some b ∧ m.funcs[i]? = some f ∧ b.start = f.start := by
  obtain ⟨f, x, r, h1, h2, h3, h4, -⟩ := h.firsts.2 i n hn
  obtain ⟨k, rfl⟩ := Int.eq_ofNat_of_zero_le h2
  rw [Int.toNat_natCast] at h3
  refine ⟨k, joinB bm (blkOf m (x :: r)), f, rfl, ?_, h1, ?_⟩
  · rw [h.blocks, List.getElem?_map, h3]
    rfl
  · rw [(blk_f m bm x r).2.1, h4]
theorem FlowRd.fst {w : World} {xA yA zA : Option Addr} {xc yc zc : Nat} {d : FlowD} (h : FlowRd w xA xc yA yc zA zc d) : RdG w w.heap.size zA (intsV .i64 d.firsts) ∧ d.firsts.length ≤ zc ∧ d.blocks.length ≤ xc := by
  obtain ⟨l, -, h2, -, -, h5⟩ := h
  exact ⟨h5.1, h5.2.1, h2.2.1⟩
end Go.Proofs.YtlekjnnofhjgjaaDoor
