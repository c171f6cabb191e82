/- Each item that was there already is one of the old code: the same instruction, but for where it leads, with its line. -/
import Derived.Test.YtcafhoobeggmeaaDoorEmSh
namespace Go.Proofs.YtcafhoobeggmeaaDoor
open Go.RowKit
def jmpB (b : BlkD) : Nat := if b.ends = 3 then 1 else 0
theorem jmpB_le (b : BlkD) : jmpB b ≤ 1 := by unfold jmpB; split <;> omega
structure OldIt (m : Img) (z : FSp) (t : ItD) : Prop where
 old : t.old = z.2.p
 line : t.line = lineAtF z.2.p 0 m.lines
 k : t.i.k = z.2.i.k ∨ (18 ≤ z.2.i.k ∧ z.2.i.k ≤ 21 ∧ t.i.k ≤ 21)
 d : t.i.d = z.2.i.d
 a : t.i.a = z.2.i.a
 b : t.i.b = z.2.i.b
 eq : z.2.i.k < 18 ∨ z.2.i.k = 24 → t.i = z.2.i ∧ t.blk = -1 ∧ t.fn = -1
 call : z.2.i.k = 23 → t.i.k = 23 ∧ t.blk = -1 ∧ t.fn = (finPl m.funcs z.2).n
def OldMs (m : Img) (zs : List FSp) (ts : List ItD) : Prop := zs.length = ts.length ∧ ∀ (j : Nat) (z : FSp) (t : ItD), zs[j]? = some z → ts[j]? = some t → OldIt m z t
theorem OldMs.nil (m : Img) : OldMs m [] [] := ⟨rfl, fun j z t h => by simp at h⟩
theorem OldMs.one {m : Img} {z : FSp} {t : ItD} (h : OldIt m z t) : OldMs m [z] [t] := ⟨rfl, fun j x u hx hu => by
 rcases j with _ | j
 · simp only [List.getElem?_cons_zero, Option.some.injEq] at hx hu; rw [← hx, ← hu]; exact h
 · simp at hx⟩
theorem OldMs.app {m : Img} {a b : List FSp} {c e : List ItD} (h : OldMs m a c) (k : OldMs m b e) : OldMs m (a ++ b) (c ++ e) := by
 refine ⟨by rw [List.length_append, List.length_append, h.1, k.1], fun j z t hz ht => ?_⟩; rcases Nat.lt_or_ge j a.length with hj | hj
 · rw [List.getElem?_append_left hj] at hz; rw [List.getElem?_append_left (by rw [← h.1]; exact hj)] at ht; exact h.2 j z t hz ht
 · rw [List.getElem?_append_right hj] at hz; rw [List.getElem?_append_right (by rw [← h.1]; exact hj), ← h.1] at ht; exact k.2 _ z t hz ht
def oldsI (l : List ItD) : List ItD := l.filter fun t => decide (0 ≤ t.old)
theorem oldsI_app (a b : List ItD) : oldsI (a ++ b) = oldsI a ++ oldsI b := List.filter_append ..
theorem oldsI_pos {t : ItD} (h : 0 ≤ t.old) (r : List ItD) : oldsI (t :: r) = t :: oldsI r := List.filter_cons_of_pos (by simpa using h)
theorem oldsI_neg {t : ItD} (h : ¬ 0 ≤ t.old) (r : List ItD) : oldsI (t :: r) = oldsI r := List.filter_cons_of_neg (by simpa using h)
theorem chk_bd {k d a b n : Int} {l : Bool} (h : chk k d a b n l = 0) (hk : 18 ≤ k ∧ k ≤ 22) : d = 0 ∧ (k = 22 → a = 0 ∧ b = 0) := by
 obtain ⟨-, h2, -, -⟩ := chk_zero.1 h; have hD : ∀ k : Fin 25, 18 ≤ k.val → k.val ≤ 22 → hasD (shapeT (k.val : Int)) = false ∧ (k.val = 22 → hasA (shapeT (k.val : Int)) = false ∧ hasB (shapeT (k.val : Int)) = false) := by decide +kernel
 obtain ⟨q, rfl⟩ := Int.eq_ofNat_of_zero_le (show 0 ≤ k by omega); obtain ⟨d1, d2⟩ := hD ⟨q, by omega⟩ (by simp only; omega) (by simp only; omega); simp only at d1 d2; unfold formBad at h2; rw [d1] at h2; simp only [Bool.not_false, Bool.true_and, Bool.or_eq_false_iff] at h2; refine ⟨by simpa using h2.1.1.1.1, fun e => ?_⟩; obtain ⟨d3, d4⟩ := d2 (by omega); rw [d3, d4] at h2; exact ⟨by simpa using h2.1.1.1.2, by simpa using h2.1.1.2⟩
theorem oppK_b {k : Int} (h1 : 18 ≤ k) (h2 : k ≤ 21) : 18 ≤ oppK k ∧ oppK k ≤ 21 := by
 unfold oppK
 repeat' split
 all_goals omega
theorem finPl_o (fs : List FnD) (s : Sp) : (finPl fs s).k = s.i.k ∧ (finPl fs s).d = s.i.d ∧ (finPl fs s).a = s.i.a ∧ (finPl fs s).b = s.i.b ∧ (s.i.k ≠ 23 → finPl fs s = s.i) := by
 unfold finPl
 split
 · exact ⟨rfl, rfl, rfl, rfl, fun h => by omega⟩
 · exact ⟨rfl, rfl, rfl, rfl, fun _ => rfl⟩
section
variable {m : Img} {ld : Int → Bool} {bm : Int → Option Int} {S : List FSp} {gs : List (List FSp)} {d : FlowD} {l : List PartD}
theorem PgmF.atLine (h : PgmF m ld bm S gs d) {i : Nat} {b : BlkD} (hb : d.blocks[i]? = some b) {g : List FSp} (ha : b.ats = g.map fun z => z.2.p) {k : Nat} {z : FSp} (hz : g[k]? = some z) : b.ats.getD k 0 = z.2.p ∧ b.lines.getD k 0 = lineAtF z.2.p 0 m.lines := by
 have e : b.ats[k]? = some z.2.p := by rw [ha, List.getElem?_map, hz]; rfl
 have e2 := (h.lines hb).2 k _ e; rw [List.getD_eq_getElem?_getD, List.getD_eq_getElem?_getD, e, e2]; exact ⟨rfl, rfl⟩
theorem PgmF.oldCode (h : PgmF m ld bm S gs d) {i : Nat} {b : BlkD} (hb : d.blocks[i]? = some b) {g r : List FSp} (ha : b.ats = (g ++ r).map fun z => z.2.p) (hc : b.code = g.map fun z => finPl m.funcs z.2) (hg : ∀ z ∈ g, z ∈ S ∧ (z.2.i.k < 18 ∨ 23 ≤ z.2.i.k)) : OldMs m g (oldsI (codeIts b)) := by
 have e : oldsI (codeIts b) = codeIts b := by
  refine List.filter_eq_self.2 fun t ht => ?_
  obtain ⟨k, c, -, rfl⟩ := mem_codeIts ht; have := h.atsNN hb k; unfold codeIt
  split <;> simpa using this
 rw [e]; refine ⟨by unfold codeIts; rw [List.length_mapIdx, hc, List.length_map], fun j z t hz ht => ?_⟩; unfold codeIts at ht; rw [List.getElem?_mapIdx, hc, List.getElem?_map, hz] at ht; injection ht with ht; have hz2 : (g ++ r)[j]? = some z := by rw [List.getElem?_append_left (List.getElem?_eq_some_iff.1 hz).1]; exact hz
 obtain ⟨a1, a2⟩ := h.atLine hb ha hz2; obtain ⟨f1, f2, f3, f4, f5⟩ := finPl_o m.funcs z.2; obtain ⟨g1, g2⟩ := hg z (mG' hz); rw [← ht]; unfold codeIt
 dsimp only
 by_cases hk : z.2.i.k = 23
 · rw [if_pos (f1.trans hk)]; exact ⟨a1, a2, .inl f1, f2, f3, f4, fun e => by omega, fun _ => ⟨f1.trans hk, rfl, rfl⟩⟩
 · rw [if_neg (by rw [f1]; exact hk), f5 hk]; exact ⟨a1, a2, .inl rfl, rfl, rfl, rfl, fun _ => ⟨rfl, rfl, rfl⟩, fun e => absurd e hk⟩
theorem PgmF.oldBlk (h : PgmF m ld bm S gs d) {i : Nat} {b : BlkD} (hb : d.blocks[i]? = some b) (next : Int) :
 ∃ (g zs : List FSp), gs[i]? = some g ∧ zs.Sublist g ∧ OldMs m zs (oldsI (blkIts b next)) ∧ g.length ≤ zs.length + jmpB b ∧ b.ats.length = g.length := by
 obtain ⟨r, y, hg, hr, hm, ha, hG⟩ := h.grp hb; have hp : ∀ z ∈ r, z ∈ S ∧ (z.2.i.k < 18 ∨ 23 ≤ z.2.i.k) := fun z hz => ⟨(hm z (by simp [hz])).1, by have := plainK_k (hr z hz); omega⟩
 have hyS := (hm y (by simp)).1; have hlen : b.ats.length = (r ++ [y]).length := by rw [ha, List.length_map]
 have hyA : ∀ n, b.code.length = n → n = r.length → b.ats.getD n 0 = y.2.p ∧ b.lines.getD n 0 = lineAtF y.2.p 0 m.lines := fun n _ e => h.atLine hb ha (by rw [e, List.getElem?_append_right lr', Nat.sub_self]; rfl)
 have hy0 : 0 ≤ y.2.p := (h.posb hyS).1; have hyc := (h.chkS hyS).1; unfold blkIts; rw [oldsI_app]
 cases hG with
 | branch j z rz z' rz' h1 h2 h3 h4 =>
  have hk : 18 ≤ y.2.i.k ∧ y.2.i.k ≤ 21 := by unfold branchI at h1; simpa using h1
  have hc := h.oldCode hb ha h3 hp; obtain ⟨y1, y2⟩ := hyA b.code.length rfl (by rw [h3, List.length_map]); have hyd := (chk_bd hyc ⟨hk.1, by omega⟩).1; refine ⟨_, r ++ [y], hg, List.Sublist.refl _, ?_, by omega, hlen⟩; refine hc.app ?_; unfold tailIts; rw [if_neg (by omega), if_neg (by omega), if_pos h2]; have hop := oppK_b (k := b.last.k) (by rw [h4]; exact hk.1) (by rw [h4]; exact hk.2)
  split
  · rw [oldsI_pos (by show 0 ≤ b.ats.getD _ 0; rw [y1]; exact hy0)]; refine OldMs.one ⟨y1, y2, .inr ⟨hk.1, hk.2, hop.2⟩, ?_, ?_, ?_, fun e => by omega, fun e => by omega⟩
    · show b.last.d = _; rw [h4, hyd]
    · show b.last.a = _; rw [h4]
    · show b.last.b = _; rw [h4]
  · rw [oldsI_pos (by show 0 ≤ b.ats.getD _ 0; rw [y1]; exact hy0)]; have e : oldsI (if b.els = next then [] else [⟨jmpI, b.els, -1, -1, b.lines.getD b.code.length 0, 0⟩]) = [] := by split <;> rfl
    rw [e]; refine OldMs.one ⟨y1, y2, .inl ?_, ?_, ?_, ?_, fun e => by omega, fun e => by omega⟩
    · show b.last.k = _; rw [h4]
    · show b.last.d = _; rw [h4, hyd]
    · show b.last.a = _; rw [h4]
    · show b.last.b = _; rw [h4]
 | jump j z rz h1 h2 h3 h4 =>
  have hc := h.oldCode hb ha h3 hp; obtain ⟨y1, y2⟩ := hyA b.code.length rfl (by rw [h3, List.length_map]); obtain ⟨hyd, hyab⟩ := chk_bd hyc ⟨by omega, by omega⟩; obtain ⟨hya, hyb⟩ := hyab h1; unfold tailIts; rw [if_neg (by omega), if_pos h2, show jmpB b = 1 from if_pos h2]
  split
  · refine ⟨_, r, hg, List.sublist_append_left _ _, ?_, by simp, hlen⟩; have := hc.app (OldMs.nil m); rwa [List.append_nil] at this
  · refine ⟨_, r ++ [y], hg, List.Sublist.refl _, ?_, by omega, hlen⟩; rw [oldsI_pos (by show 0 ≤ b.ats.getD _ 0; rw [y1]; exact hy0)]; exact hc.app (OldMs.one ⟨y1, y2, .inl h1.symm, hyd.symm, hya.symm, hyb.symm, fun e => by omega, fun e => by omega⟩)
 | stop h1 h2 h3 =>
  have hc := h.oldCode (r := []) hb (by rw [List.append_nil]; exact ha) h3 (fun z hz => by
   rcases List.mem_append.1 hz with hz | hz
   · exact hp z hz
   · rw [List.mem_singleton.1 hz]
     exact ⟨hyS, by omega⟩)
  refine ⟨_, r ++ [y], hg, List.Sublist.refl _, ?_, by omega, hlen⟩; unfold tailIts; rw [if_neg (by omega), if_neg (by omega), if_neg (by omega)]; have := hc.app (OldMs.nil m); rwa [List.append_nil] at this
 | fall z' rz' h1 h2 h3 =>
  have hc := h.oldCode (r := []) hb (by rw [List.append_nil]; exact ha) h3 (fun z hz => by
   rcases List.mem_append.1 hz with hz | hz
   · exact hp z hz
   · rw [List.mem_singleton.1 hz]
     exact ⟨hyS, by omega⟩)
  refine ⟨_, r ++ [y], hg, List.Sublist.refl _, ?_, by omega, hlen⟩; unfold tailIts; rw [if_pos h2]; have e : oldsI (if b.dst = next then [] else [⟨jmpI, b.dst, -1, -1, b.lines.getD b.code.length 0, 0⟩]) = [] := by split <;> rfl
  rw [e]; have := hc.app (OldMs.nil m); rwa [List.append_nil] at this
theorem PgmF.oldIts (h : PgmF m ld bm S gs d) : ∀ xs : List (Int × Int), (∀ x ∈ xs, 0 ≤ x.1 ∧ x.1 < d.blocks.length) →
 ∃ Z : List FSp, Z.Sublist ((xs.map Prod.fst).flatMap fun i => gs.getD i.toNat []) ∧ OldMs m Z (oldsI (itsOf d xs)) ∧
  (xs.map fun x => (d.blocks.getD x.1.toNat blkZ).ats.length).sum ≤ Z.length + (xs.map fun x => jmpB (d.blocks.getD x.1.toNat blkZ)).sum ∧ Z.length ≤ (xs.map fun x => (d.blocks.getD x.1.toNat blkZ).ats.length).sum
 | [], _ => ⟨[], List.Sublist.refl _, OldMs.nil m, Nat.le_refl _, Nat.le_refl _⟩
 | x :: r, hx => by
  obtain ⟨Z, i1, i2, i3, i4⟩ := h.oldIts r fun y hy => hx y (List.mem_cons_of_mem _ hy)
  obtain ⟨h1, h2⟩ := hx x List.mem_cons_self; obtain ⟨g, zs, k1, k2, k3, k4, k5⟩ := h.oldBlk (blk_get h1 h2) x.2; have e : itsOf d (x :: r) = blkIts (d.blocks.getD x.1.toNat blkZ) x.2 ++ itsOf d r := rfl; have eg : gs.getD x.1.toNat [] = g := by rw [List.getD_eq_getElem?_getD, k1]; rfl
  refine ⟨zs ++ Z, ?_, ?_, ?_, ?_⟩
  · rw [List.map_cons, List.flatMap_cons, eg]; exact k2.append i1
  · rw [e, oldsI_app]; exact k3.app i2
  · simp only [List.map_cons, List.sum_cons, List.length_append]; omega
  · have := k2.length_le; simp only [List.map_cons, List.sum_cons, List.length_append]; omega
theorem oldsI_le {a b : List ItD} (h : ItsLe a b) : (oldsI a).length = (oldsI b).length ∧ ∀ (j : Nat) (t u : ItD), (oldsI a)[j]? = some t → (oldsI b)[j]? = some u → ItLe t u := by
 obtain ⟨hl, hi⟩ := h
 induction a generalizing b with
 | nil =>
  have : b = [] := List.length_eq_zero_iff.1 hl.symm; rw [this]; exact ⟨rfl, fun j t u h => by simp [oldsI] at h⟩
 | cons t r ih =>
  cases b with
  | nil => simp at hl
  | cons u s =>
   have h0 := hi 0 t u rfl rfl; obtain ⟨i1, i2⟩ := ih (b := s) (by simpa using hl) fun j x y hx hy => hi (j + 1) x y (by simpa using hx) (by simpa using hy)
   by_cases ho : 0 ≤ t.old
   · rw [oldsI_pos ho, oldsI_pos (by rw [h0.old]; exact ho)]; refine ⟨by simp [i1], fun j x y hx hy => ?_⟩; rcases j with _ | j
     · simp only [List.getElem?_cons_zero, Option.some.injEq] at hx hy; rw [← hx, ← hy]; exact h0
     · exact i2 j x y (by simpa using hx) (by simpa using hy)
   · rw [oldsI_neg ho, oldsI_neg (by rw [h0.old]; exact ho)]; exact ⟨i1, i2⟩
theorem OldIt.le {z : FSp} {t u : ItD} (h : OldIt m z t) (hl : ItLe t u) : OldIt m z u := by
 have e := hl.i; have e1 := congrArg Ins.k e; have e2 := congrArg Ins.d e; have e3 := congrArg Ins.a e; have e4 := congrArg Ins.b e; simp only at e1 e2 e3 e4; refine ⟨hl.old.trans h.old, hl.line.trans h.line, by rw [e1]; exact h.k, e2.trans h.d, e3.trans h.a, e4.trans h.b, fun hk => ?_, fun hk => ?_⟩
 · obtain ⟨a, b, c⟩ := h.eq hk
   have hll : u.i.l = t.i.l := Classical.byContradiction fun hn => by
    have := hl.ch hn; omega
   refine ⟨?_, hl.blk.trans b, hl.fn.trans c⟩; rw [e, hll, ← a]
 · obtain ⟨a, b, c⟩ := h.call hk; exact ⟨e1.trans a, hl.blk.trans b, hl.fn.trans c⟩
theorem chain_lt : ∀ (S : List FSp) (p : Int), ChainS p (S.map Prod.snd) → (S.map fun z => z.2.p).Pairwise (· < ·) ∧ ∀ z ∈ S, p ≤ z.2.p
 | [], _, _ => ⟨List.Pairwise.nil, fun z h => by cases h⟩
 | x :: r, p, h => by
  obtain ⟨h1, -, h3, h4⟩ := ChainS.at (d := []) h; obtain ⟨i1, i2⟩ := chain_lt r _ h4; refine ⟨List.Pairwise.cons (fun q hq => ?_) i1, fun z hz => ?_⟩
  · obtain ⟨z, hz, rfl⟩ := List.mem_map.1 hq; have := i2 z hz; show x.2.p < z.2.p; omega
  · rcases List.mem_cons.1 hz with rfl | hz
    · exact h1
    · have := i2 z hz; omega
theorem PgmF.oldAll (h : PgmF m ld bm S gs d) (hf : FnF m S) (ho : OrdG d l) :
 ∃ Z : List FSp, (Z.map fun z => z.2.p).Nodup ∧ (∀ z ∈ Z, z ∈ S) ∧ OldMs m Z (oldsI (emIts d l)) ∧
  (d.blocks.map fun b => b.ats.length).sum ≤ Z.length + (d.blocks.map jmpB).sum ∧ Z.length ≤ (d.blocks.map fun b => b.ats.length).sum := by
 obtain ⟨Z, z1, z2, z3, z4⟩ := h.oldIts (seqL l) (seqL_in ho); have hp := seqL_perm ho (h.blkFn hf)
 have hS : ((seqL l).map Prod.fst).flatMap (fun i => gs.getD i.toNat []) |>.Perm S := by
  refine (hp.flatMap_right _).trans ?_; rw [List.flatMap_map, h.few.1]
  have e : (List.range gs.length).flatMap (fun i => gs.getD (Int.ofNat i).toNat []) = gs.flatten := by
   rw [List.flatMap_def]; exact congrArg List.flatten (range_getD [] gs)
  rw [e, h.flat]
 have sm : ∀ F : BlkD → Nat, ((seqL l).map fun x => F (d.blocks.getD x.1.toNat blkZ)).sum = (d.blocks.map F).sum := fun F => by
  have := (hp.map (fun i : Int => F (d.blocks.getD i.toNat blkZ))).sum_nat; rw [List.map_map, List.map_map] at this; refine this.trans ?_; have e := congrArg (List.map F) (range_getD blkZ d.blocks); rw [List.map_map] at e; exact congrArg List.sum e
 rw [sm fun b => b.ats.length, sm jmpB] at z3; rw [sm fun b => b.ats.length] at z4; have hle := settleL_le (mkL d l).first (mkL d l).items
 obtain ⟨o1, o2⟩ := oldsI_le hle; refine ⟨Z, ?_, fun z hz => hS.mem_iff.1 (z1.mem hz), ?_, z3, z4⟩
 · have n1 : (S.map fun z => z.2.p).Nodup := ((chain_lt S 0 h.chain).1).imp (fun h => by omega); exact ((z1.map _).nodup ((hS.map _).nodup_iff.2 n1))
 · have e := (mkL_at ho).1; rw [← e] at z2; refine ⟨z2.1.trans o1, fun j z u hz hu => ?_⟩; have hj : j < (oldsI (mkL d l).items).length := by rw [o1]; exact (List.getElem?_eq_some_iff.1 hu).1
   have ht := gE' hj; exact (z2.2 j z _ hz ht).le (o2 j _ u ht hu)
theorem lnGo_none (a n : Int) : ∀ l : List (Int × Int), (∀ x ∈ l, a < x.1) → lineAtF a n l = n
 | [], _ => rfl
 | x :: r, h => by
  unfold lineAtF; rw [if_neg (by have := h x List.mem_cons_self; omega)]; exact lnGo_none a n r fun y hy => h y (List.mem_cons_of_mem _ hy)
theorem itLines_mem : ∀ (l : List ItD) (q : Int), ∀ x ∈ itLines q l, ∃ t ∈ l, x.1 = t.pos
 | [], _, x, h => by cases h
 | t :: r, q, x, h => by
  unfold itLines at h
  split at h
  · rcases List.mem_cons.1 h with rfl | h
    · exact ⟨t, List.mem_cons_self, rfl⟩
    · obtain ⟨u, hu, e⟩ := itLines_mem r _ x h; exact ⟨u, List.mem_cons_of_mem _ hu, e⟩
  · obtain ⟨u, hu, e⟩ := itLines_mem r _ x h; exact ⟨u, List.mem_cons_of_mem _ hu, e⟩
theorem itLines_at : ∀ (l : List ItD) (q : Int), l.Pairwise (fun a b => a.pos < b.pos) → ∀ t ∈ l, lineAtF t.pos q (itLines q l) = t.line
 | [], _, _, t, h => by cases h
 | u :: r, q, hp, t, h => by
  obtain ⟨h1, h2⟩ := List.pairwise_cons.1 hp
  have key : u.pos ≤ t.pos → lineAtF t.pos q (itLines q (u :: r)) = lineAtF t.pos u.line (itLines u.line r) := fun hle => by
   by_cases hq : u.line = q
   · rw [show itLines q (u :: r) = itLines q r from if_neg (by simpa using hq), hq]
   · rw [show itLines q (u :: r) = (u.pos, u.line) :: itLines u.line r from if_pos hq]; show lineAtF t.pos (if u.pos ≤ t.pos then u.line else q) (itLines u.line r) = _; rw [if_pos hle]
  rcases List.mem_cons.1 h with rfl | h
  · rw [key (Int.le_refl _)]
    exact lnGo_none _ _ _ fun x hx => by
     obtain ⟨v, hv, e⟩ := itLines_mem r _ x hx; rw [e]; exact h1 v hv
  · rw [key (by have := h1 t h; omega)]; exact itLines_at r _ h2 t h
theorem posOk_lt (its : List ItD) (hp : PosOk its) (hs : ∀ (k : Nat) (t : ItD), its[k]? = some t → 1 ≤ sizeK t.i.k t.i.l) : its.Pairwise (fun a b => a.pos < b.pos) := by
 have mono : ∀ (k n : Nat), k + n ≤ its.length → szI (its.take k) + n ≤ szI (its.take (k + n)) := fun k n => by
  induction n with
  | zero => intro _; simp
  | succ n ih =>
   intro hl; have h1 : its[k + n]? = some its[k + n] := gE' (by omega); have h2 := szI_take h1; have h3 := hs _ _ h1; have := ih (by omega); rw [← Nat.add_assoc, h2]
   push_cast
   omega
 rw [List.pairwise_iff_getElem]; intro i j hi hj hij; have e1 := hp i _ (gE' hi); have e2 := hp j _ (gE' hj); rw [e1, e2]; have := mono i (j - i) (by omega); rw [show i + (j - i) = j by omega] at this; omega
theorem PgmF.oldPair (h : PgmF m ld bm S gs d) (hf : FnF m S) (ht : TabF m gs) (hc : checkE m = 0) (ho : OrdG d l) {ps : List (Int × Int)} (hp : PairOk (emIts d l) ps) {p : Int × Int} (hpm : p ∈ ps) :
 ∃ (z : FSp) (t : ItD), z ∈ S ∧ t ∈ emIts d l ∧ p = (z.2.p, t.pos) ∧ OldIt m z t ∧ decB m.text p.1 = (z.2.i, z.2.z, 0) ∧ decB (emL m d l).text p.2 = (resIt (emIts d l) (mkL d l) t, sizeK t.i.k t.i.l, 0) ∧ 0 ≤ p.1 ∧ p.1 ≤ m.text.length ∧ 0 ≤ p.2 ∧ p.2 ≤ (emL m d l).text.length := by
 have hC := h.emCode hf ht hc ho; obtain ⟨Z, -, z2, z3, -, -⟩ := h.oldAll hf ho; have he : ps.Perm ((oldsI (emIts d l)).map fun t => (t.old, t.pos)) := hp.perm; obtain ⟨t, htm, rfl⟩ := List.mem_map.1 (he.mem_iff.1 hpm); obtain ⟨j, hj⟩ := List.getElem?_of_mem htm; have hjz : j < Z.length := by rw [z3.1]; exact (List.getElem?_eq_some_iff.1 hj).1
 have hz := gE' hjz; generalize Z[j] = z at hz; have hO := z3.2 j z t hz hj; have hzS := z2 z (mG' hz); have htm2 : t ∈ emIts d l := (List.mem_filter.1 htm).1; obtain ⟨k, hk⟩ := List.getElem?_of_mem htm2; obtain ⟨c1, c2, c3, c4⟩ := hC.dec k t hk; have hpb := h.posb hzS; have hb1 := szI_nn (emIts d l) hC.chk 0 k; have hb2 := szI_nn (emIts d l) hC.chk (k + 1) ((emIts d l).length - (k + 1)); rw [show k + 1 + ((emIts d l).length - (k + 1)) = (emIts d l).length by have := (List.getElem?_eq_some_iff.1 hk).1; omega, List.take_length] at hb2
 rw [Nat.zero_add] at hb1; have hl := hC.len; have hs0 : szI ((emIts d l).take 0) = 0 := rfl; refine ⟨z, t, hzS, htm2, by rw [← hO.old], hO, ?_, c1, ?_, ?_, ?_, ?_⟩
 · show decB m.text t.old = _; rw [hO.old]; exact h.dec z hzS
 · show 0 ≤ t.old; rw [hO.old]; omega
 · show t.old ≤ _; rw [hO.old]; omega
 · show 0 ≤ t.pos; omega
 · show t.pos ≤ _; omega
theorem resIt_o (its : List ItD) (s : MkD) (t : ItD) : (resIt its s t).k = t.i.k ∧ (resIt its s t).d = t.i.d ∧ (resIt its s t).a = t.i.a ∧ (resIt its s t).b = t.i.b := by
 unfold resIt
 split
 · exact ⟨rfl, rfl, rfl, rfl⟩
 · split <;> exact ⟨rfl, rfl, rfl, rfl⟩
theorem sum_step {α : Type} (f : α → Nat) {l : List α} {i : Nat} {b : α} (h : l[i]? = some b) : ((l.take (i + 1)).map f).sum = ((l.take i).map f).sum + f b := by
 rw [List.take_add_one, h, List.map_append, List.sum_append]; simp
theorem sum_bd {α : Type} (f : α → Nat) (k : Nat) : ∀ l : List α, (∀ x ∈ l, f x ≤ k) → (l.map f).sum ≤ k * l.length
 | [], _ => Nat.zero_le _
 | x :: r, h => by
  have h1 := sum_bd f k r fun y hy => h y (List.mem_cons_of_mem _ hy)
  have h2 := h x List.mem_cons_self; rw [List.map_cons, List.sum_cons, List.length_cons, Nat.mul_succ]; omega
theorem sum_all {α : Type} (f : α → Nat) {l : List α} {n : Nat} (h : l.length = n) : ((l.take n).map f).sum = (l.map f).sum := by rw [← h, List.take_length]
structure EmPrs (m x : Img) (d : FlowD) (ps : List (Int × Int)) : Prop where
 pr : ∀ p ∈ ps, ∃ (i j : Ins) (s t : Int), decB m.text p.1 = (i, s, 0) ∧ decB x.text p.2 = (j, t, 0) ∧ lineAtF p.1 0 m.lines = lineAtF p.2 0 x.lines ∧ (j.k = i.k ∨ (18 ≤ i.k ∧ i.k ≤ 21)) ∧ j.d = i.d ∧ j.a = i.a ∧ j.b = i.b ∧ (i.k < 18 ∨ i.k = 24 → j = i) ∧ 0 ≤ p.1 ∧ p.1 ≤ m.text.length ∧ 0 ≤ p.2 ∧ p.2 ≤ x.text.length
 lt : ps.Pairwise fun a b => a.1 < b.1
 few : x.lines.length ≤ 4 * m.text.length
 cnt : (d.blocks.map fun b => b.ats.length).sum ≤ ps.length + (d.blocks.map jmpB).sum ∧ ps.length ≤ (d.blocks.map fun b => b.ats.length).sum
theorem PgmF.prs (h : PgmF m ld bm S gs d) (hf : FnF m S) (ht : TabF m gs) (hc : checkE m = 0) (ho : OrdG d l) {ps : List (Int × Int)} (hp : PairOk (emIts d l) ps) : EmPrs m (emL m d l) d ps := by
 have hC := h.emCode hf ht hc ho; have hE := h.emF hf ho; obtain ⟨Z, z1, z2, z3, z4, z5⟩ := h.oldAll hf ho
 have hpl : ps.length = Z.length := by
  rw [hp.perm.length_eq, z3.1]; exact List.length_map ..
 have hlt : (emIts d l).Pairwise fun a b => a.pos < b.pos := posOk_lt _ hE.pos fun k t hk => (hC.dec k t hk).2.2.2
 have he : ps.Perm ((oldsI (emIts d l)).map fun t => (t.old, t.pos)) := hp.perm
 have hZ : (oldsI (emIts d l)).map ItD.old = Z.map fun z => z.2.p := by
  refine List.ext_getElem? fun j => ?_
  rw [List.getElem?_map, List.getElem?_map]; rcases Nat.lt_or_ge j Z.length with hj | hj
  · have h1 := gE' hj; have h2 := gE' (show j < (oldsI (emIts d l)).length by rw [← z3.1]; exact hj); rw [h1, h2]; exact congrArg some (z3.2 j _ _ h1 h2).old
  · rw [List.getElem?_eq_none hj, List.getElem?_eq_none (by rw [← z3.1]; exact hj)]
    rfl
 refine ⟨fun p hpm => ?_, ?_, Nat.le_trans (itLines_len (emIts d l) 0) hE.len, by rw [hpl]; exact ⟨z4, z5⟩⟩
 · obtain ⟨z, t, hzS, htm2, rfl, hO, d1, d2, b1, b2, b3, b4⟩ := h.oldPair hf ht hc ho hp hpm; obtain ⟨r1, r2, r3, r4⟩ := resIt_o (emIts d l) (mkL d l) t; refine ⟨z.2.i, _, _, _, d1, d2, ?_, ?_, r2.trans hO.d, r3.trans hO.a, r4.trans hO.b, fun e => ?_, b1, b2, b3, b4⟩
   · show lineAtF z.2.p 0 m.lines = lineAtF t.pos 0 (itLines 0 (emIts d l)); rw [itLines_at _ 0 hlt t htm2, hO.line]
   · rcases hO.k with e | ⟨e1, e2, -⟩
     · exact .inl (r1.trans e)
     · exact .inr ⟨e1, e2⟩
   · obtain ⟨e1, e2, e3⟩ := hO.eq e; unfold resIt; rw [if_neg (by omega), if_neg (by omega)]; exact e1
 · have n1 : (ps.map Prod.fst).Nodup := by
    have e := he.map Prod.fst; rw [List.map_map] at e; refine e.nodup_iff.2 ?_; show ((oldsI (emIts d l)).map ItD.old).Nodup; rw [hZ]; exact z1
   have n2 : ps.Pairwise fun a b => a.1 ≠ b.1 := List.pairwise_map.1 n1
   exact (hp.sorted.and n2).imp fun h => by omega
end
theorem blk_len {w : World} {l : List RawI} {m : Img} {v : ImgV} {d : FlowD} {xA yA zA : Option Addr} {xc yc zc : Nat} (h : FlwSt w l m v d xA yA zA xc yc zc) : ∀ b ∈ d.blocks, b.ats.length ≤ 1600 := fun b hb => by
 obtain ⟨ld, bm, S, gs, hF, -, -⟩ := gen_flow3 h.pgm.check h.rc; obtain ⟨i, hi⟩ := List.getElem?_of_mem hb; have := (hF.blen hi).2.1; have := h.pgm.text; omega
theorem EmPrs.lt2 {m x : Img} {d : FlowD} {ps : List (Int × Int)} (h : EmPrs m x d ps) {k : Nat} {p q : Int × Int} (hq : ps[k]? = some q) (hp : ps[k + 1]? = some p) : q.1 < p.1 := by
 have := h.lt; rw [List.pairwise_iff_getElem] at this; obtain ⟨a1, rfl⟩ := List.getElem?_eq_some_iff.1 hq; obtain ⟨a2, rfl⟩ := List.getElem?_eq_some_iff.1 hp; exact this k (k + 1) a1 a2 (by omega)
theorem emL_prs {m : Img} {d : FlowD} {l : List PartD} (hc : checkE m = 0) (hd : recL m = some d) (ho : OrdG d l) {ps : List (Int × Int)} (hp : PairOk (emIts d l) ps) : EmPrs m (emL m d l) d ps := by
 obtain ⟨ld, bm, S, gs, hF, hFN, hTF⟩ := gen_flow3 hc hd; exact hF.prs hFN hTF hc ho hp
end Go.Proofs.YtcafhoobeggmeaaDoor
