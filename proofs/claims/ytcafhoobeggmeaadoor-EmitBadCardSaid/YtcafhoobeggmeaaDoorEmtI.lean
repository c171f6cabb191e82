/- Emit's items in a good order: they can be put; what program needs holds; they take at most four times the bytes of the old text. -/
import Derived.Test.YtcafhoobeggmeaaDoorEmtG
import Derived.Test.YtcafhoobeggmeaaDoorClnI
namespace Go.Proofs.YtcafhoobeggmeaaDoor
open Go.RowKit
theorem tables_len0 {T : Int} : ∀ {ts : List (List Int)}, tablesGo T ts = 0 → ∀ t ∈ ts, t.length ≤ 20
 | [], _, t, ht => by cases ht
 | x :: r, h, t, ht => by
  unfold tablesGo at h
  split at h
  · omega
  · split at h
    · omega
    · rcases List.mem_cons.1 ht with rfl | ht
      · omega
      · exact tables_len0 h t ht
theorem check_tabs0 {m : Img} (h : checkE m = 0) : ∀ t ∈ m.tables, t.length ≤ 20 := by
 unfold checkE at h
 split at h
 · omega
 split at h
 · omega
 split at h
 · omega
 split at h
 · omega
 unfold tailE at h
 split at h
 · rename_i h1
   exact tables_len0 h1
 · omega
theorem seqL_in {d : FlowD} {l : List PartD} (h : OrdG d l) : ∀ x ∈ seqL l, 0 ≤ x.1 ∧ x.1 < d.blocks.length := fun x hx => by
 obtain ⟨p, hp, hxp⟩ := List.mem_flatMap.1 hx
 have : x.1 ∈ p.bs := by
  have := List.mem_map_of_mem (f := Prod.fst) hxp; rwa [withNext_fst] at this
 obtain ⟨i1, i2, -⟩ := mem_fnBs.1 ((h.bs p hp).1.mem_iff.1 this); exact ⟨i1, i2⟩
theorem seqL_nodup {d : FlowD} {l : List PartD} (h : OrdG d l) : ((seqL l).map Prod.fst).Nodup := by
 have hnf : (l.map PartD.fn).Nodup := by
  rw [h.fns.nodup_iff]; exact List.Pairwise.map _ (fun a b h e => h (Int.ofNat.inj e)) List.nodup_range
 rw [seqL_fst]
 have gen : ∀ q : List PartD, (q.map PartD.fn).Nodup → (∀ p ∈ q, p.bs.Nodup ∧ ∀ b ∈ p.bs, (d.blocks.getD b.toNat blkZ).fn = p.fn) → (q.flatMap PartD.bs).Nodup := by
  intro q
  induction q with
  | nil => exact fun _ _ => List.nodup_nil
  | cons p r ih =>
   intro h1 h2; rw [List.map_cons, List.nodup_cons] at h1; rw [List.flatMap_cons, List.nodup_append]; refine ⟨(h2 p (by simp)).1, ih h1.2 (fun q hq => h2 q (by simp [hq])), fun a ha b hb e => ?_⟩; subst e; obtain ⟨q, hq, hbq⟩ := List.mem_flatMap.1 hb; have e1 := (h2 p (by simp)).2 a ha; have e2 := (h2 q (by simp [hq])).2 a hbq; exact h1.1 (List.mem_map.2 ⟨q, hq, by rw [← e2, e1]⟩)
 exact gen l hnf fun p hp => ⟨(h.bs p hp).1.nodup_iff.2 (fnBs_nodup d p.fn), fun b hb => (mem_fnBs.1 ((h.bs p hp).1.mem_iff.1 hb)).2.2⟩
theorem seqL_perm {d : FlowD} {l : List PartD} (h : OrdG d l) (hd : ∀ b ∈ d.blocks, 0 ≤ b.fn ∧ b.fn < d.firsts.length) : ((seqL l).map Prod.fst).Perm ((List.range d.blocks.length).map Int.ofNat) := by
 refine (List.perm_ext_iff_of_nodup (seqL_nodup h) (List.Pairwise.map _ (fun a b h e => h (Int.ofNat.inj e)) List.nodup_range)).2 fun a => ⟨fun ha => ?_, fun ha => ?_⟩
 · obtain ⟨x, hx, rfl⟩ := List.mem_map.1 ha; obtain ⟨h1, h2⟩ := seqL_in h x hx; exact List.mem_map.2 ⟨x.1.toNat, List.mem_range.2 (by omega), by show (x.1.toNat : Int) = _; omega⟩
 · obtain ⟨n, hn, rfl⟩ := List.mem_map.1 ha; obtain ⟨k, nx, hk⟩ := h.all hd (List.mem_range.1 hn); exact List.mem_map.2 ⟨_, mG' hk, rfl⟩
theorem blk_get {d : FlowD} {x : Int} (h0 : 0 ≤ x) (h1 : x < d.blocks.length) : d.blocks[x.toNat]? = some (d.blocks.getD x.toNat blkZ) := by
 rw [List.getD_eq_getElem?_getD, gE' (by omega)]
 rfl
theorem withNext_last : ∀ {l : List Int}, l ≠ [] → ∃ a b, withNext l = a ++ [(b, -1)]
 | [], h => absurd rfl h
 | [b], _ => ⟨[], b, rfl⟩
 | b :: c :: r, _ => by
  obtain ⟨a, x, e⟩ := withNext_last (l := c :: r) (by simp); exact ⟨(b, c) :: a, x, by show (b, c) :: withNext (c :: r) = _; rw [e]; rfl⟩
theorem blkIts_ne {d : FlowD} {b : BlkD} (hf : BlkFit d b) : blkIts b (-1) ≠ [] := by
 intro e; unfold blkIts at e; obtain ⟨e1, e2⟩ := List.append_eq_nil_iff.1 e
 have hc : b.code = [] := by
  have := congrArg List.length e1; unfold codeIts at this; simpa using this
 unfold tailIts at e2; rcases hf.ends with h | h | h | h
 · exact hf.code h hc
 · rw [if_pos h] at e2; have := hf.dst (by omega); rw [if_neg (by omega)] at e2
   cases e2
 · rw [if_neg (by omega), if_pos h] at e2; have := hf.dst (by omega); rw [if_neg (by omega)] at e2
   cases e2
 · rw [if_neg (by omega), if_neg (by omega), if_pos h] at e2
   split at e2 <;> cases e2
theorem itsOf_take_le (d : FlowD) (xs : List (Int × Int)) {i j : Nat} (h : i ≤ j) : (itsOf d (xs.take i)).length ≤ (itsOf d (xs.take j)).length := by
 have e : xs.take j = xs.take i ++ (xs.take j).drop i := by
  have := (List.take_append_drop i (xs.take j)).symm; rwa [List.take_take, Nat.min_eq_left h] at this
 rw [e, itsOf_app, List.length_append]; omega
theorem szI_le_wT : ∀ {a b : List ItD}, ItsLe a b → (∀ t ∈ a, 0 ≤ sizeK t.i.k t.i.l ∧ sizeK t.i.k t.i.l ≤ sizeK t.i.k true) → szI b ≤ ((a.map wT).sum : Nat)
 | [], b, h, _ => by
  have := h.1; simp at this; rw [List.length_eq_zero_iff.1 this.symm]; simp [szI]
 | t :: r, [], h, _ => by
  have := h.1; simp at this
 | t :: r, u :: r', h, hs => by
  have ih := szI_le_wT (a := r) (b := r') ⟨by have := h.1; simpa using this, fun j x y h1 h2 => h.2 (j + 1) x y (by simpa using h1) (by simpa using h2)⟩ (fun x hx => hs x (by simp [hx])); have h0 := h.2 0 t u rfl rfl; obtain ⟨s1, s2⟩ := hs t (by simp); have hk : u.i.k = t.i.k := by rw [h0.i]
  have e : sizeK u.i.k u.i.l ≤ (wT t : Int) := by
   unfold wT; rw [hk]; rcases Classical.em (u.i.l = t.i.l) with e | e
   · rw [e]
     split <;> omega
   · have := h0.ch e; rw [if_pos this]
     have : sizeK t.i.k u.i.l ≤ sizeK t.i.k true := by
      unfold sizeK
      cases u.i.l
      · simp only [Bool.false_eq_true, if_false, if_true]; omega
      · exact Int.le_refl _
     omega
  simp only [szI, List.map_cons, List.sum_cons]
  push_cast
  omega
theorem gsz_flat : ∀ gs : List (List FSp), (gs.map gsz).sum = gsz gs.flatten
 | [] => rfl
 | g :: r => by
  rw [List.map_cons, List.sum_cons, List.flatten_cons, gsz_app, gsz_flat r]
theorem gsz_szP : ∀ S : List FSp, (∀ x ∈ S, 0 ≤ x.2.z) → (gsz S : Int) = szP S
 | [], _ => rfl
 | x :: r, h => by
  have ih := gsz_szP r fun y hy => h y (by simp [hy])
  have h0 := h x (by simp); simp only [szP]; rw [← ih]; unfold gsz; rw [List.map_cons, List.sum_cons]
  push_cast
  omega
theorem sum_le_sum {α : Type} (f g : α → Nat) : ∀ l : List α, (∀ x ∈ l, f x ≤ g x) → (l.map f).sum ≤ (l.map g).sum
 | [], _ => Nat.le_refl _
 | x :: r, h => by
  have h1 := h x (by simp); have h2 := sum_le_sum f g r fun y hy => h y (by simp [hy])
  simp only [List.map_cons, List.sum_cons]; omega
theorem sum_mul4 {α : Type} (f : α → Nat) : ∀ l : List α, (l.map fun x => 4 * f x).sum = 4 * (l.map f).sum
 | [] => rfl
 | x :: r => by
  simp only [List.map_cons, List.sum_cons]; rw [sum_mul4 f r]; omega
theorem itsOf_sum (d : FlowD) (f : ItD → Nat) : ∀ xs : List (Int × Int), ((itsOf d xs).map f).sum = (xs.map fun x => ((blkIts (d.blocks.getD x.1.toNat blkZ) x.2).map f).sum).sum
 | [] => rfl
 | x :: r => by
  have e : itsOf d (x :: r) = blkIts (d.blocks.getD x.1.toNat blkZ) x.2 ++ itsOf d r := rfl; rw [e, List.map_append, List.sum_append, itsOf_sum d f r, List.map_cons, List.sum_cons]
theorem range_getD {α : Type} (z : α) (l : List α) : (List.range l.length).map (fun i => l.getD i z) = l := by
 apply List.ext_getElem?; intro k; rw [List.getElem?_map]; rcases Nat.lt_or_ge k l.length with h | h
 · rw [gE' (by simpa using h), List.getElem_range, gE' h]; simp [List.getD_eq_getElem?_getD, h]
 · rw [List.getElem?_eq_none (by simpa using h), List.getElem?_eq_none h]
   rfl
section
variable {m : Img} {ld : Int → Bool} {bm : Int → Option Int} {S : List FSp} {gs : List (List FSp)} {d : FlowD} {l : List PartD}
theorem PgmF.szS (h : PgmF m ld bm S gs d) : gsz gs.flatten = m.text.length := by
 have h1 := h.fin []; unfold posP at h1; rw [List.take_length, List.take_zero, List.append_nil] at h1
 have h2 := gsz_szP gs.flatten fun x hx => by
  rw [h.flat] at hx; have := h.posb hx; omega
 omega
theorem PgmF.items (h : PgmF m ld bm S gs d) (ho : OrdG d l) : ∀ t ∈ (mkL d l).items, ItK d.blocks.length d.firsts.length t := by
 rw [(mkL_at ho).1]; intro t ht; obtain ⟨x, hx, hxt⟩ := List.mem_flatMap.1 ht; obtain ⟨h1, h2⟩ := seqL_in ho x hx; exact h.itK (blk_get h1 h2) x.2 t hxt
theorem PgmF.itsW (h : PgmF m ld bm S gs d) (hf : FnF m S) (ho : OrdG d l) : ((mkL d l).items.map wT).sum ≤ 4 * m.text.length := by
 rw [(mkL_at ho).1, itsOf_sum]; refine Nat.le_trans (sum_le_sum _ (fun x => 4 * gsz (gs.getD x.1.toNat [])) _ fun x hx => ?_) ?_
 · obtain ⟨h1, h2⟩ := seqL_in ho x hx; obtain ⟨g, hg, hle⟩ := h.blkW (blk_get h1 h2) x.2; rw [List.getD_eq_getElem?_getD (l := gs), hg]; exact hle
 · rw [sum_mul4]; have hp := (seqL_perm ho (h.blkFn hf)).map (fun i : Int => gsz (gs.getD i.toNat [])); rw [List.map_map, List.map_map] at hp; have e1 := hp.sum_nat
   have e2 : (List.range d.blocks.length).map ((fun i : Int => gsz (gs.getD i.toNat [])) ∘ Int.ofNat) = gs.map gsz := by
    rw [h.few.1]; have := congrArg (List.map gsz) (range_getD [] gs); rw [List.map_map] at this; exact this
   rw [e2, gsz_flat, h.szS] at e1; have e3 : (seqL l).map (fun x => gsz (gs.getD x.1.toNat [])) = (seqL l).map ((fun i : Int => gsz (gs.getD i.toNat [])) ∘ Prod.fst) := rfl; rw [e3, e1]; exact Nat.le_refl _
theorem PgmF.inside (h : PgmF m ld bm S gs d) (ho : OrdG d l) {k : Nat} (hk : k < (seqL l).length) : (itsOf d ((seqL l).take k)).length < (mkL d l).items.length := by
 rw [(mkL_at ho).1]
 have hne : seqL l ≠ [] := by
  intro e; rw [e] at hk; simp at hk
 have hlast : ∃ a b, seqL l = a ++ [(b, -1)] := by
  have hpb : ∀ p ∈ l, p.bs ≠ [] := fun p hp e => by
   have := (ho.bs p hp).2; rw [e] at this
   cases this
  have gen : ∀ q : List PartD, (∀ p ∈ q, p.bs ≠ []) → q ≠ [] → ∃ a b, seqL q = a ++ [(b, -1)] := by
   intro q
   induction q with
   | nil => exact fun _ e => absurd rfl e
   | cons p r ih =>
    intro h1 _; rcases Classical.em (r = []) with e | e
    · obtain ⟨a, b, e2⟩ := withNext_last (h1 p (by simp)); refine ⟨a, b, ?_⟩; subst e; show withNext p.bs ++ [] = _; rw [List.append_nil, e2]
    · obtain ⟨a, b, e2⟩ := ih (fun p hp => h1 p (by simp [hp])) e; refine ⟨withNext p.bs ++ a, b, ?_⟩; show withNext p.bs ++ seqL r = _; rw [e2, List.append_assoc]
  refine gen l hpb fun e => ?_
  rw [e] at hne; exact hne rfl
 obtain ⟨a, b, e⟩ := hlast; have hb := seqL_in ho (b, -1) (by rw [e]; simp); have hx := blkIts_ne (h.fit (blk_get hb.1 hb.2)); have h1 : k ≤ a.length := by rw [e] at hk; simp at hk; omega
 have h2 := itsOf_take_le d (seqL l) h1; have h3 : (seqL l).take a.length = a := by rw [e]; simp
 rw [h3] at h2
 have h4 : (itsOf d (seqL l)).length = (itsOf d a).length + (blkIts (d.blocks.getD b.toNat blkZ) (-1)).length := by
  rw [e, itsOf_app, List.length_append]; simp [itsOf]
 have h5 : 0 < (blkIts (d.blocks.getD b.toNat blkZ) (-1)).length := List.length_pos_iff.2 hx; omega
theorem PgmF.firstIn (h : PgmF m ld bm S gs d) (hf : FnF m S) (ho : OrdG d l) {b : Int} (h0 : 0 ≤ b) (h1 : b < d.blocks.length) : ∃ (k : Nat) (nx : Int), (seqL l)[k]? = some (b, nx) ∧ (mkL d l).first.getD b.toNat 0 = ((itsOf d ((seqL l).take k)).length : Int) ∧ 0 ≤ (mkL d l).first.getD b.toNat 0 ∧ (mkL d l).first.getD b.toNat 0 < (mkL d l).items.length := by
 obtain ⟨k, nx, hk⟩ := ho.all (h.blkFn hf) (n := b.toNat) (by omega); rw [Int.toNat_of_nonneg h0] at hk; have e := (mkL_at ho).2.2.2.1 k _ hk; have hin := h.inside ho (List.getElem?_eq_some_iff.1 hk).1; exact ⟨k, nx, hk, e, by rw [e]; omega, by rw [e]; omega⟩
theorem PgmF.beginIn (h : PgmF m ld bm S gs d) (ho : OrdG d l) {f : Int} (h0 : 0 ≤ f) (h1 : f < d.firsts.length) : ∃ (k : Nat) (p : PartD), l[k]? = some p ∧ p.fn = f ∧ (mkL d l).begin_.getD f.toNat 0 = ((itsOf d (seqL (l.take k))).length : Int) ∧ 0 ≤ (mkL d l).begin_.getD f.toNat 0 ∧ (mkL d l).begin_.getD f.toNat 0 < (mkL d l).items.length := by
 have hm : f ∈ l.map PartD.fn := by
  rw [ho.fns.mem_iff]; exact List.mem_map.2 ⟨f.toNat, List.mem_range.2 (by omega), by show (f.toNat : Int) = _; omega⟩
 obtain ⟨p, hp, rfl⟩ := List.mem_map.1 hm; obtain ⟨k, hk⟩ := List.getElem?_of_mem hp; have e := (mkL_at ho).2.2.2.2 k p hk; obtain ⟨hkl, he⟩ := List.getElem?_eq_some_iff.1 hk
 have hs : seqL l = seqL (l.take k) ++ (withNext p.bs ++ seqL (l.drop (k + 1))) := by
  conv => lhs; rw [← List.take_append_drop k l, List.drop_eq_getElem_cons hkl, he]
  rw [seqL_app]
  rfl
 have hbs : withNext p.bs ≠ [] := by
  intro e2; have := congrArg List.length (withNext_fst p.bs); rw [e2] at this; have h2 := (ho.bs p hp).2; have h3 : p.bs = [] := List.length_eq_zero_iff.1 (by simpa using this.symm); rw [h3] at h2
  cases h2
 have hin := h.inside ho (k := (seqL (l.take k)).length) (by rw [hs, List.length_append, List.length_append]; have := List.length_pos_iff.2 hbs; omega); rw [hs, List.take_left'] at hin
 · exact ⟨k, p, hk, rfl, e, by rw [e]; omega, by rw [e]; omega⟩
 · rfl
theorem PgmF.itsOk (h : PgmF m ld bm S gs d) (hf : FnF m S) (ho : OrdG d l) : ItsOk (mkL d l).first (mkL d l).items := by
 have hk := h.items ho; refine ⟨fun t ht => (hk t ht).chk, fun t ht hb => (hk t ht).lng hb, fun t ht hb => ?_⟩
 have hlt : t.blk < d.blocks.length := by
  cases hk t ht with
  | plain h1 => omega
  | call h1 => omega
  | jump l h1 h2 => exact h2
  | branch k a b l h1 h2 => exact h2
 obtain ⟨-, -, -, -, h1, h2⟩ := h.firstIn hf ho hb hlt; exact ⟨by rw [(mkL_at ho).2.1]; exact hlt, h1, h2⟩
theorem PgmF.itsSz (h : PgmF m ld bm S gs d) (hf : FnF m S) (ho : OrdG d l) : szI (emIts d l) ≤ 4 * m.text.length ∧ (emIts d l).length ≤ 4 * m.text.length := by
 have hk := h.items ho
 have hsz : ∀ t ∈ (mkL d l).items, 1 ≤ sizeK t.i.k t.i.l ∧ sizeK t.i.k t.i.l ≤ sizeK t.i.k true := fun t ht => by
  refine ⟨(sizeK_bd (hk t ht).chk).1, ?_⟩; unfold sizeK
  cases t.i.l
  · simp only [Bool.false_eq_true, if_false, if_true]; omega
  · exact Int.le_refl _
 have hw := h.itsW hf ho; have hle := settleL_le (mkL d l).first (mkL d l).items
 have h1 := szI_le_wT hle fun t ht => ⟨by have := hsz t ht; omega, (hsz t ht).2⟩
 refine ⟨by unfold emIts; omega, ?_⟩
 have h2 : (mkL d l).items.length ≤ ((mkL d l).items.map wT).sum := by
  have gen : ∀ q : List ItD, (∀ t ∈ q, 1 ≤ sizeK t.i.k t.i.l ∧ sizeK t.i.k t.i.l ≤ sizeK t.i.k true) → q.length ≤ (q.map wT).sum := by
   intro q
   induction q with
   | nil => exact fun _ => Nat.le_refl _
   | cons t r ih =>
    intro hq; have h1 := ih fun u hu => hq u (by simp [hu])
    have h2 := hq t (by simp); have h3 : 1 ≤ wT t := by unfold wT; split <;> omega
    simp only [List.length_cons, List.map_cons, List.sum_cons]; omega
  exact gen _ hsz
 unfold emIts; rw [← hle.1]; omega
theorem posAt_bd {its : List ItD} (hp : PosOk its) (hc : ∀ t ∈ its, t.i.chk = 0) {T : Int} (hT : szI its ≤ T) (k : Int) : 0 ≤ posAt its k ∧ posAt its k ≤ T := by
 have h0 := (szI_bd hc).1; unfold posAt; rcases hk : its[k.toNat]? with _ | t
 · simp; omega
 · have e := hp _ t hk; have h1 := (szI_bd (l := its.take k.toNat) fun u hu => hc u (List.mem_of_mem_take hu)).1; have h2 := (szI_bd (l := its.drop k.toNat) fun u hu => hc u (List.mem_of_mem_drop hu)).1; have h3 := szI_app (its.drop k.toNat) (its.take k.toNat); rw [List.take_append_drop] at h3; show 0 ≤ t.pos ∧ t.pos ≤ T; omega
structure EmF (m : Img) (d : FlowD) (l : List PartD) (its : List ItD) (s : MkD) : Prop where
 le : ItsLe s.items its
 pos : PosOk its
 near : its.any (farI its s.first) = false
 kind : ∀ t ∈ its, ItK d.blocks.length d.firsts.length t
 sz : szI its ≤ 4 * m.text.length
 len : its.length ≤ 4 * m.text.length
 olds : ∀ t ∈ its, t.old ≤ m.text.length
theorem PgmF.emF (h : PgmF m ld bm S gs d) (hf : FnF m S) (ho : OrdG d l) : EmF m d l (emIts d l) (mkL d l) := by
 have hle := settleL_le (mkL d l).first (mkL d l).items
 obtain ⟨h1, h2⟩ := h.itsSz hf ho
 have get : ∀ u ∈ emIts d l, ∃ t ∈ (mkL d l).items, ItLe t u := fun u hu => by
  obtain ⟨j, hj⟩ := List.getElem?_of_mem hu; have hjl := (List.getElem?_eq_some_iff.1 hj).1; have ha : (mkL d l).items[j]? = some _ := gE' (by rw [hle.1]; exact hjl); exact ⟨_, mG' ha, hle.2 j _ u ha hj⟩
 refine ⟨hle, settleL_pos _ _, settleL_end _ _, fun u hu => ?_, h1, h2, fun u hu => ?_⟩
 · obtain ⟨t, ht, e⟩ := get u hu; exact (h.items ho t ht).le e
 · obtain ⟨t, ht, e⟩ := get u hu; rw [e.old]; rw [(mkL_at ho).1] at ht; obtain ⟨x, hx, hxt⟩ := List.mem_flatMap.1 ht; obtain ⟨q1, q2⟩ := seqL_in ho x hx; exact h.oldLe (blk_get q1 q2) x.2 t hxt
theorem EmF.chk {its : List ItD} {s : MkD} (h : EmF m d l its s) (hT : m.text.length ≤ 8000) : ∀ t ∈ its, (resIt its s t).chk = 0 := by
 intro t ht; have hc : ∀ u ∈ its, u.i.chk = 0 := fun u hu => (h.kind u hu).chk
 have hpb : ∀ k, 0 ≤ posAt its k ∧ posAt its k ≤ 32000 := posAt_bd h.pos hc (by have := h.sz; omega)
 have htp : 0 ≤ t.pos ∧ t.pos ≤ 32000 := by
  obtain ⟨j, hj⟩ := List.getElem?_of_mem ht; have := hpb (j : Int); unfold posAt at this; rw [Int.toNat_natCast, hj] at this; exact this
 have hfar : farI its s.first t = false := by
  have := h.near; rw [List.any_eq_false] at this; simpa using this t ht
 unfold resIt
 cases h.kind t ht with
 | plain h1 h2 h3 =>
  rw [if_neg (by omega), if_neg (by omega)]; exact h3
 | call h1 h2 h3 h4 =>
  rw [if_neg (by omega), if_pos h2, h4]; have := hpb (s.begin_.getD t.fn.toNat 0); exact chk_call (n := posAt its (s.begin_.getD t.fn.toNat 0) - t.pos) (by omega)
 | jump lg h1 h2 h3 h4 =>
  rw [if_pos h1, h4]; have := hpb (s.first.getD t.blk.toNat 0); unfold farI at hfar; rw [decide_eq_true h1, h4] at hfar; obtain ⟨pj, hpj⟩ := ex' (posAt its (s.first.getD t.blk.toNat 0))
  rw [hpj] at this hfar ⊢; refine chk_jump (n := pj - t.pos) (l := lg) ?_; rcases lg with _ | _
  · simp at hfar; rw [if_neg (by decide)]; omega
  · rw [if_pos rfl]; omega
 | branch k a b lg h1 h2 h3 h4 h5 h6 h7 =>
  rw [if_pos h1, h4]; have := hpb (s.first.getD t.blk.toNat 0); unfold farI at hfar; rw [decide_eq_true h1, h4] at hfar; obtain ⟨pj, hpj⟩ := ex' (posAt its (s.first.getD t.blk.toNat 0))
  rw [hpj] at this hfar ⊢; refine chk_set (n' := pj - t.pos) (l' := lg) h7 ⟨h5, h6⟩ ⟨h5, h6⟩ ?_; rcases lg with _ | _
  · simp at hfar; rw [if_neg (by decide)]; omega
  · rw [if_pos rfl]; omega
theorem PgmF.pgOk (h : PgmF m ld bm S gs d) (hf : FnF m S) (ht : TabF m gs) (hc : checkE m = 0) (ho : OrdG d l) : PgOk m d l (mkL d l) (emIts d l) := by
 obtain ⟨-, -, c3, -, -, c6, c7, c8⟩ := check_tile hc; have hF := h.emF hf ho; have hlen := hF.le.1; have hm := mkL_at ho; have hll : l.length = d.firsts.length := by have := ho.fns.length_eq; simpa using this
 have hpb : ∀ k, 0 ≤ posAt (emIts d l) k ∧ posAt (emIts d l) k ≤ 32000 := posAt_bd hF.pos (fun u hu => (hF.kind u hu).chk) (by have := hF.sz; omega); refine ⟨by rw [hm.2.2.1, h.firsts.1], by rw [hll, h.firsts.1]; omega, by have := hF.len; omega, by rw [h.tables, List.length_map]; omega, fun p hp => by rw [← h.firsts.1]; exact ho.fn hp, fun x hx => ?_, fun t ht hb => ?_, fun t ht hb => ?_, hF.chk c3, fun t ht => ?_, fun t htt => ?_⟩
 · obtain ⟨j, hj⟩ := List.getElem?_of_mem hx; have hjl := (List.getElem?_eq_some_iff.1 hj).1; rw [hm.2.2.1] at hjl; obtain ⟨-, -, -, -, -, h1, h2⟩ := h.beginIn ho (f := (j : Int)) (by omega) (by omega); rw [Int.toNat_natCast, List.getD_eq_getElem?_getD, hj] at h1 h2; simp only [Option.getD_some] at h1 h2; omega
 · have hlt : t.blk < d.blocks.length := by
    cases hF.kind t ht with
    | plain h1 => omega
    | call h1 => omega
    | jump l h1 h2 => exact h2
    | branch k a b l h1 h2 => exact h2
   obtain ⟨-, -, -, -, h1, h2⟩ := h.firstIn hf ho hb hlt; exact ⟨by rw [hm.2.1]; exact hlt, h1, by rw [← hlen]; exact h2⟩
 · have hlt : t.fn < d.firsts.length := by
    cases hF.kind t ht with
    | plain h1 h2 => omega
    | call h1 h2 h3 => exact h3
    | jump l h1 h2 h3 => omega
    | branch k a b l h1 h2 h3 => omega
   obtain ⟨-, -, -, -, -, h1, h2⟩ := h.beginIn ho hb hlt; exact ⟨by rw [hm.2.2.1]; exact hlt, h1, by rw [← hlen]; exact h2⟩
 · obtain ⟨j, hj⟩ := List.getElem?_of_mem ht; have := hpb (j : Int); unfold posAt at this; rw [Int.toNat_natCast, hj] at this; have h2 : 0 ≤ t.pos ∧ t.pos ≤ 32000 := this; omega
 · rw [h.tables] at htt; obtain ⟨t0, ht0, rfl⟩ := List.mem_map.1 htt; have htl := (check_tabs0 hc) t0 ht0; refine ⟨by rw [List.length_map]; omega, fun b hb => ?_⟩; obtain ⟨a, ha, rfl⟩ := List.mem_map.1 hb; obtain ⟨j, y, r, hj, hy⟩ := ht t0 ht0 a ha; have hbm := h.bm j y r hj; rw [hy] at hbm; rw [hbm, Option.getD_some]; have hjl := (List.getElem?_eq_some_iff.1 hj).1; have := h.few.1; obtain ⟨-, -, -, -, h1, h2⟩ := h.firstIn hf ho (b := (j : Int)) (by omega) (by omega); exact ⟨by omega, by rw [hm.2.1]; omega, h1, by rw [← hlen]; exact h2⟩
end
end Go.Proofs.YtcafhoobeggmeaaDoor
