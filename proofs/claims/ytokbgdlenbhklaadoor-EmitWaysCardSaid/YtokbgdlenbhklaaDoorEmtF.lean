/- Emit's items: where each block's and each function's begin. -/
import Derived.Test.YtokbgdlenbhklaaDoorEmtH
import Derived.Test.YtokbgdlenbhklaaDoorImgX
namespace Go.Proofs.YtokbgdlenbhklaaDoor
open Go.RowKit
theorem withNext_fst : ∀ l : List Int, (withNext l).map Prod.fst = l
 | [] => rfl
 | [_] => rfl
 | b :: c :: r => by
  show b :: (withNext (c :: r)).map Prod.fst = _; rw [withNext_fst (c :: r)]
theorem withNext_at : ∀ (l : List Int) (k : Nat) (b : Int), l[k]? = some b → (withNext l)[k]? = some (b, (l[k + 1]?).getD (-1))
 | [], k, b, h => by simp at h
 | [x], k, b, h => by
  cases k with
  | zero =>
   simp at h; subst h
   rfl
  | succ k => simp at h
 | x :: c :: r, k, b, h => by
  cases k with
  | zero =>
   simp at h; subst h
   rfl
  | succ k =>
   have := withNext_at (c :: r) k b (by simpa using h); show (withNext (c :: r))[k]? = _; rw [this]
   rfl
def seqL (l : List PartD) : List (Int × Int) := l.flatMap fun p => withNext p.bs
def itsOf (d : FlowD) (xs : List (Int × Int)) : List ItD := xs.flatMap fun x => blkIts (d.blocks.getD x.1.toNat blkZ) x.2
theorem itsOf_app (d : FlowD) (a b : List (Int × Int)) : itsOf d (a ++ b) = itsOf d a ++ itsOf d b := by simp [itsOf]
theorem seqL_app (a b : List PartD) : seqL (a ++ b) = seqL a ++ seqL b := by simp [seqL]
theorem seqL_fst (l : List PartD) : (seqL l).map Prod.fst = l.flatMap PartD.bs := by
 induction l with
 | nil => rfl
 | cons p r ih =>
  show (withNext p.bs ++ seqL r).map Prod.fst = p.bs ++ r.flatMap PartD.bs; rw [List.map_append, withNext_fst, ih]
theorem mkB_items (d : FlowD) : ∀ (xs : List (Int × Int)) (s : MkD), (xs.foldl (mkB d) s).items = s.items ++ itsOf d xs ∧ (xs.foldl (mkB d) s).begin_ = s.begin_ ∧ (xs.foldl (mkB d) s).first.length = s.first.length
 | [], s => ⟨by simp [itsOf], rfl, rfl⟩
 | x :: r, s => by
  obtain ⟨h1, h2, h3⟩ := mkB_items d r (mkB d s x); refine ⟨?_, h2, ?_⟩
  · rw [List.foldl_cons, h1]; simp [mkB, itsOf]
  · rw [List.foldl_cons, h3]; simp [mkB]
theorem mkB_first (d : FlowD) : ∀ (xs : List (Int × Int)) (s : MkD), (∀ x ∈ xs, 0 ≤ x.1 ∧ x.1 < s.first.length) → (xs.map Prod.fst).Nodup →
 (∀ b : Int, b ∉ xs.map Prod.fst → 0 ≤ b → (xs.foldl (mkB d) s).first.getD b.toNat 0 = s.first.getD b.toNat 0) ∧
 ∀ (k : Nat) (x : Int × Int), xs[k]? = some x → (xs.foldl (mkB d) s).first.getD x.1.toNat 0 = ((s.items ++ itsOf d (xs.take k)).length : Int)
 | [], s, _, _ => ⟨fun b _ _ => rfl, fun k x h => by simp at h⟩
 | x :: r, s, hb, hn => by
  rw [List.map_cons, List.nodup_cons] at hn; obtain ⟨x0, x1⟩ := hb x (by simp); have hlen : (mkB d s x).first.length = s.first.length := by simp [mkB]
  obtain ⟨h1, h2⟩ := mkB_first d r (mkB d s x) (fun y hy => by rw [hlen]; exact hb y (by simp [hy])) hn.2
  have hset : (mkB d s x).first.getD x.1.toNat 0 = (s.items.length : Int) := by
   simp only [mkB, List.getD_eq_getElem?_getD]; rw [List.getElem?_set_self (by omega)]
   rfl
  refine ⟨fun b hbm h0 => ?_, fun k y hy => ?_⟩
  · rw [List.map_cons, List.mem_cons] at hbm; rw [List.foldl_cons, h1 b (fun e => hbm (.inr e)) h0]; simp only [mkB, List.getD_eq_getElem?_getD]; rw [List.getElem?_set_ne]; intro e; exact hbm (.inl (by omega))
  · rw [List.foldl_cons]
    cases k with
    | zero =>
     simp only [List.getElem?_cons_zero, Option.some.injEq] at hy; subst hy; rw [h1 x.1 hn.1 x0, hset]; simp [itsOf]
    | succ k =>
     rw [List.getElem?_cons_succ] at hy; rw [h2 k y hy]; simp [mkB, itsOf, List.take_succ_cons]
theorem mkL_items (d : FlowD) : ∀ (l : List PartD) (s : MkD), (l.foldl (mkP d) s).items = s.items ++ itsOf d (seqL l) ∧ (l.foldl (mkP d) s).first = ((seqL l).foldl (mkB d) s).first ∧ (l.foldl (mkP d) s).begin_.length = s.begin_.length
 | [], s => ⟨by simp [itsOf, seqL], rfl, rfl⟩
 | p :: r, s => by
  obtain ⟨h1, h2, h3⟩ := mkL_items d r (mkP d s p); obtain ⟨k1, k2, k3⟩ := mkB_items d (withNext p.bs) ⟨s.items, s.first, s.begin_.set p.fn.toNat s.items.length⟩
  have hgen : ∀ (xs : List (Int × Int)) (a b : MkD), a.items = b.items → a.first = b.first → (xs.foldl (mkB d) a).items = (xs.foldl (mkB d) b).items ∧ (xs.foldl (mkB d) a).first = (xs.foldl (mkB d) b).first := by
   intro xs
   induction xs with
   | nil => exact fun a b e1 e2 => ⟨e1, e2⟩
   | cons x xs ih =>
    intro a b e1 e2; exact ih _ _ (by simp [mkB, e1]) (by simp [mkB, e1, e2])
  refine ⟨?_, ?_, ?_⟩
  · rw [List.foldl_cons, h1]; show (((withNext p.bs).foldl (mkB d) ⟨s.items, s.first, s.begin_.set p.fn.toNat s.items.length⟩).items) ++ _ = _; rw [k1]; show _ = s.items ++ itsOf d (withNext p.bs ++ seqL r); rw [itsOf_app, List.append_assoc]
  · rw [List.foldl_cons, h2]; show _ = ((withNext p.bs ++ seqL r).foldl (mkB d) s).first
    rw [List.foldl_append]; obtain ⟨g1, g2⟩ := hgen (withNext p.bs) ⟨s.items, s.first, s.begin_.set p.fn.toNat s.items.length⟩ s rfl rfl; exact (hgen (seqL r) _ _ g1 g2).2
  · rw [List.foldl_cons, h3]; show ((withNext p.bs).foldl (mkB d) ⟨s.items, s.first, s.begin_.set p.fn.toNat s.items.length⟩).begin_.length = _; rw [k2]; simp
theorem mkL_begin (d : FlowD) : ∀ (l : List PartD) (s : MkD), (∀ p ∈ l, 0 ≤ p.fn ∧ p.fn < s.begin_.length) → (l.map PartD.fn).Nodup →
 (∀ f : Int, f ∉ l.map PartD.fn → 0 ≤ f → (l.foldl (mkP d) s).begin_.getD f.toNat 0 = s.begin_.getD f.toNat 0) ∧
 ∀ (k : Nat) (p : PartD), l[k]? = some p → (l.foldl (mkP d) s).begin_.getD p.fn.toNat 0 = ((s.items ++ itsOf d (seqL (l.take k))).length : Int)
 | [], s, _, _ => ⟨fun b _ _ => rfl, fun k x h => by simp at h⟩
 | p :: r, s, hb, hn => by
  rw [List.map_cons, List.nodup_cons] at hn; obtain ⟨x0, x1⟩ := hb p (by simp); obtain ⟨k1, k2, k3⟩ := mkB_items d (withNext p.bs) ⟨s.items, s.first, s.begin_.set p.fn.toNat s.items.length⟩; have e1 : (mkP d s p).items = s.items ++ itsOf d (withNext p.bs) := k1; have e2 : (mkP d s p).begin_ = s.begin_.set p.fn.toNat s.items.length := k2; have hlen : (mkP d s p).begin_.length = s.begin_.length := by rw [e2]; simp
  obtain ⟨h1, h2⟩ := mkL_begin d r (mkP d s p) (fun y hy => by rw [hlen]; exact hb y (by simp [hy])) hn.2
  have hset : (mkP d s p).begin_.getD p.fn.toNat 0 = (s.items.length : Int) := by
   rw [e2, List.getD_eq_getElem?_getD, List.getElem?_set_self (by omega)]
   rfl
  refine ⟨fun b hbm h0 => ?_, fun k y hy => ?_⟩
  · rw [List.map_cons, List.mem_cons] at hbm; rw [List.foldl_cons, h1 b (fun e => hbm (.inr e)) h0, e2, List.getD_eq_getElem?_getD, List.getD_eq_getElem?_getD, List.getElem?_set_ne]; intro e; exact hbm (.inl (by omega))
  · rw [List.foldl_cons]
    cases k with
    | zero =>
     simp only [List.getElem?_cons_zero, Option.some.injEq] at hy; subst hy; rw [h1 p.fn hn.1 x0, hset]; simp [itsOf, seqL]
    | succ k =>
     rw [List.getElem?_cons_succ] at hy; rw [h2 k y hy, e1]; simp [itsOf, seqL, List.take_succ_cons]
theorem mkL_at {d : FlowD} {l : List PartD} (h : OrdG d l) :
 (mkL d l).items = itsOf d (seqL l) ∧ (mkL d l).first.length = d.blocks.length ∧ (mkL d l).begin_.length = d.firsts.length ∧
 (∀ (k : Nat) (x : Int × Int), (seqL l)[k]? = some x → (mkL d l).first.getD x.1.toNat 0 = ((itsOf d ((seqL l).take k)).length : Int)) ∧
 (∀ (k : Nat) (p : PartD), l[k]? = some p → (mkL d l).begin_.getD p.fn.toNat 0 = ((itsOf d (seqL (l.take k))).length : Int)) := by
 have hnf : (l.map PartD.fn).Nodup := by
  rw [h.fns.nodup_iff]; exact List.Pairwise.map _ (fun a b h e => h (Int.ofNat.inj e)) List.nodup_range
 have hmem : ∀ p ∈ l, ∀ b ∈ p.bs, 0 ≤ b ∧ b < d.blocks.length ∧ (d.blocks.getD b.toNat blkZ).fn = p.fn := fun p hp b hb => mem_fnBs.1 ((h.bs p hp).1.mem_iff.1 hb)
 have hnb : ((seqL l).map Prod.fst).Nodup := by
  rw [seqL_fst]
  have gen : ∀ q : List PartD, (q.map PartD.fn).Nodup → (∀ p ∈ q, p.bs.Nodup ∧ ∀ b ∈ p.bs, (d.blocks.getD b.toNat blkZ).fn = p.fn) → (q.flatMap PartD.bs).Nodup := by
   intro q
   induction q with
   | nil => exact fun _ _ => List.nodup_nil
   | cons p r ih =>
    intro h1 h2; rw [List.map_cons, List.nodup_cons] at h1; rw [List.flatMap_cons, List.nodup_append]; refine ⟨(h2 p (by simp)).1, ih h1.2 (fun q hq => h2 q (by simp [hq])), fun a ha b hb e => ?_⟩; subst e; obtain ⟨q, hq, hbq⟩ := List.mem_flatMap.1 hb; have e1 := (h2 p (by simp)).2 a ha; have e2 := (h2 q (by simp [hq])).2 a hbq; exact h1.1 (List.mem_map.2 ⟨q, hq, by rw [← e2, e1]⟩)
  exact gen l hnf fun p hp => ⟨(h.bs p hp).1.nodup_iff.2 (fnBs_nodup d p.fn), fun b hb => (hmem p hp b hb).2.2⟩
 have hin : ∀ x ∈ seqL l, 0 ≤ x.1 ∧ x.1 < d.blocks.length := fun x hx => by
  obtain ⟨p, hp, hxp⟩ := List.mem_flatMap.1 hx
  have : x.1 ∈ p.bs := by
   have := List.mem_map_of_mem (f := Prod.fst) hxp; rwa [withNext_fst] at this
  obtain ⟨i1, i2, -⟩ := hmem p hp _ this; exact ⟨i1, i2⟩
 obtain ⟨a1, a2, a3⟩ := mkL_items d l ⟨[], List.replicate d.blocks.length 0, List.replicate d.firsts.length 0⟩; obtain ⟨b1, b2⟩ := mkB_first d (seqL l) ⟨[], List.replicate d.blocks.length 0, List.replicate d.firsts.length 0⟩ (fun x hx => by simpa using hin x hx) hnb; obtain ⟨c1, c2⟩ := mkL_begin d l ⟨[], List.replicate d.blocks.length 0, List.replicate d.firsts.length 0⟩ (fun p hp => by simpa using h.fn hp) hnf; refine ⟨?_, ?_, ?_, fun k x hx => ?_, fun k p hp => ?_⟩
 · show (l.foldl (mkP d) _).items = _; rw [a1]
   rfl
 · show (l.foldl (mkP d) _).first.length = _
   rw [a2, (mkB_items d (seqL l) _).2.2]; simp
 · show (l.foldl (mkP d) _).begin_.length = _; rw [a3]; simp
 · show (l.foldl (mkP d) _).first.getD _ _ = _
   rw [a2, b2 k x hx]
   rfl
 · show (l.foldl (mkP d) _).begin_.getD _ _ = _; rw [c2 k p hp]
   rfl
theorem OrdG.all {d : FlowD} {l : List PartD} (h : OrdG d l) (hd : ∀ b ∈ d.blocks, 0 ≤ b.fn ∧ b.fn < d.firsts.length) {n : Nat} (hn : n < d.blocks.length) : ∃ (k : Nat) (nx : Int), (seqL l)[k]? = some ((n : Int), nx) := by
 have hb : d.blocks.getD n blkZ ∈ d.blocks := by
  rw [List.getD_eq_getElem?_getD, List.getElem?_eq_getElem hn]; exact List.getElem_mem hn
 obtain ⟨i1, i2⟩ := hd _ hb
 have hf : (d.blocks.getD n blkZ).fn ∈ l.map PartD.fn := by
  rw [h.fns.mem_iff]; exact List.mem_map.2 ⟨(d.blocks.getD n blkZ).fn.toNat, List.mem_range.2 (by omega), by show ((d.blocks.getD n blkZ).fn.toNat : Int) = _; omega⟩
 obtain ⟨p, hp, hpf⟩ := List.mem_map.1 hf
 have hm : (n : Int) ∈ p.bs := by
  rw [(h.bs p hp).1.mem_iff, mem_fnBs]; exact ⟨by omega, by omega, by rw [hpf, Int.toNat_natCast]⟩
 have hm2 : (n : Int) ∈ (seqL l).map Prod.fst := by
  rw [seqL_fst]; exact List.mem_flatMap.2 ⟨p, hp, hm⟩
 obtain ⟨x, hx, hxe⟩ := List.mem_map.1 hm2; obtain ⟨k, hk⟩ := List.getElem?_of_mem hx; exact ⟨k, x.2, by rw [hk, ← hxe]⟩
end Go.Proofs.YtokbgdlenbhklaaDoor
