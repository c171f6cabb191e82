/- Emit, as plain words: items of the new code, what they lead to, where they stand. Orders of blocks: shuffled, natural; check lets them pass. A flow's functions begin with their first blocks; a flow's blocks are as Emit wants them. -/
import Derived.Test.YtcdlgjhdbmmomaaGreatDoorFlowT
import Derived.Test.YtcdlgjhdbmmomaaGreatDoorRcvZ
namespace Go.Proofs.YtcdlgjhdbmmomaaGreatDoor
open Go.RowKit
structure ItD where
 i : Ins
 blk : Int
 fn : Int
 old : Int
 line : Int
 pos : Int
def itC (t : ItD) : List Value := [.int .i64 t.i.k, .int .i64 t.i.d, .int .i64 t.i.a, .int .i64 t.i.b, .int .i64 t.i.n, .bool t.i.l, .int .i64 t.blk, .int .i64 t.fn, .int .i64 t.old, .int .i64 t.line, .int .i64 t.pos]
def itsV (l : List ItD) : List Value := l.flatMap itC
theorem itsV_len (l : List ItD) : (itsV l).length = l.length * 11 := flat_len itC 11 (fun _ => rfl) l
theorem itsV_at {l : List ItD} {j : Nat} {t : ItD} (h : l[j]? = some t) (q : Nat) (v : Value) (hv : (itC t)[q]? = some v) : (itsV l)[j * 11 + q]? = some v :=
 flat_at itC 11 (fun _ => rfl) l j t h q v (by have h1 := (List.getElem?_eq_some_iff.1 hv).1; simpa [itC] using h1) hv
theorem itsV_snoc (l : List ItD) (t : ItD) : itsV (l ++ [t]) = itsV l ++ itC t := by simp [itsV]
structure PartD where
 fn : Int
 bs : List Int
def oppK (k : Int) : Int := if k = 18 then 19 else if k = 19 then 18 else if k = 20 then 21 else if k = 21 then 20 else 0
def jmpI : Ins := ⟨22, 0, 0, 0, 0, false⟩
def codeIt (b : BlkD) (k : Nat) (c : Ins) : ItD := if c.k = 23 then ⟨{ c with n := 0 }, -1, c.n, b.ats.getD k 0, b.lines.getD k 0, 0⟩ else ⟨c, -1, -1, b.ats.getD k 0, b.lines.getD k 0, 0⟩
def codeIts (b : BlkD) : List ItD := b.code.mapIdx (codeIt b)
def tailIts (b : BlkD) (next : Int) : List ItD :=
 if b.ends = 2 then (if b.dst = next then [] else [⟨jmpI, b.dst, -1, -1, b.lines.getD b.code.length 0, 0⟩])
 else if b.ends = 3 then (if b.dst = next then [] else [⟨jmpI, b.dst, -1, b.ats.getD b.code.length 0, b.lines.getD b.code.length 0, 0⟩])
 else if b.ends = 4 then
  (if b.dst = next ∧ b.els ≠ next then [⟨{ b.last with k := oppK b.last.k }, b.els, -1, b.ats.getD b.code.length 0, b.lines.getD b.code.length 0, 0⟩]
   else ⟨b.last, b.dst, -1, b.ats.getD b.code.length 0, b.lines.getD b.code.length 0, 0⟩ :: (if b.els = next then [] else [⟨jmpI, b.els, -1, -1, b.lines.getD b.code.length 0, 0⟩]))
 else []
def blkIts (b : BlkD) (next : Int) : List ItD := codeIts b ++ tailIts b next
def withNext : List Int → List (Int × Int)
 | [] => []
 | [b] => [(b, -1)]
 | b :: c :: r => (b, c) :: withNext (c :: r)
structure MkD where
 items : List ItD
 first : List Int
 begin_ : List Int
def blkZ : BlkD := newB 0 0
def mkB (d : FlowD) (s : MkD) (x : Int × Int) : MkD := ⟨s.items ++ blkIts (d.blocks.getD x.1.toNat blkZ) x.2, s.first.set x.1.toNat s.items.length, s.begin_⟩
def mkP (d : FlowD) (s : MkD) (p : PartD) : MkD := (withNext p.bs).foldl (mkB d) ⟨s.items, s.first, s.begin_.set p.fn.toNat s.items.length⟩
def mkL (d : FlowD) (l : List PartD) : MkD := l.foldl (mkP d) ⟨[], List.replicate d.blocks.length 0, List.replicate d.firsts.length 0⟩
def ordB (d : FlowD) (fn : Int) : List Int → List Int → Option (List Int)
 | [], bs => some bs
 | b :: r, bs => if b < 0 ∨ (d.blocks.length : Int) ≤ b ∨ bs.contains b = true ∨ (d.blocks.getD b.toNat blkZ).fn ≠ fn then none else ordB d fn r (b :: bs)
def ordP (d : FlowD) : List PartD → List Int → List Int → Bool
 | [], _, bs => bs.length == d.blocks.length
 | p :: r, fs, bs =>
  if p.fn < 0 ∨ (d.firsts.length : Int) ≤ p.fn ∨ fs.contains p.fn = true ∨ p.bs.head? ≠ some (d.firsts.getD p.fn.toNat 0) then false
  else match ordB d p.fn p.bs bs with
   | none => false
   | some bs' => ordP d r (p.fn :: fs) bs'
def ordOk (d : FlowD) (l : List PartD) : Bool := l.length == d.firsts.length && ordP d l [] []
def setPos : Int → List ItD → List ItD
 | _, [] => []
 | p, t :: r => { t with pos := p } :: setPos (p + sizeK t.i.k t.i.l) r
def endPos : Int → List ItD → Int
 | p, [] => p
 | p, t :: r => endPos (p + sizeK t.i.k t.i.l) r
theorem setPos_len : ∀ (l : List ItD) (p : Int), (setPos p l).length = l.length
 | [], _ => rfl
 | t :: r, p => by simp [setPos, setPos_len r]
def posAt (l : List ItD) (k : Int) : Int := ((l[k.toNat]?).map ItD.pos).getD 0
def farI (l : List ItD) (first : List Int) (t : ItD) : Bool := decide (0 ≤ t.blk) && !t.i.l && (decide (posAt l (first.getD t.blk.toNat 0) - t.pos < -128) || decide (127 < posAt l (first.getD t.blk.toNat 0) - t.pos))
def longer (l : List ItD) (first : List Int) (t : ItD) : ItD := if farI l first t = true then { t with i := { t.i with l := true } } else t
def settleGo (first : List Int) : Nat → List ItD → List ItD
 | 0, l => setPos 0 l
 | n + 1, l => if (setPos 0 l).any (farI (setPos 0 l) first) = true then settleGo first n ((setPos 0 l).map (longer (setPos 0 l) first)) else setPos 0 l
def settleL (first : List Int) (l : List ItD) : List ItD := settleGo first (l.length + 1) l
def resIt (l : List ItD) (s : MkD) (t : ItD) : Ins :=
 if 0 ≤ t.blk then { t.i with n := posAt l (s.first.getD t.blk.toNat 0) - t.pos }
 else if 0 ≤ t.fn then { t.i with n := posAt l (s.begin_.getD t.fn.toNat 0) - t.pos }
 else t.i
def addrK (l : List ItD) (size k : Int) : Int := if k < l.length then posAt l k else size
def itLines : Int → List ItD → List (Int × Int)
 | _, [] => []
 | q, t :: r => if t.line ≠ q then (t.pos, t.line) :: itLines t.line r else itLines q r
def outFuncs (m : Img) (s : MkD) (its : List ItD) (size : Int) : List PartD → List FnD
 | [] => []
 | p :: r => ⟨(m.funcs.getD p.fn.toNat ⟨⟨#[]⟩, 0, 0⟩).name, addrK its size (s.begin_.getD p.fn.toNat 0), (match r with | [] => size | q :: _ => addrK its size (s.begin_.getD q.fn.toNat 0)) - addrK its size (s.begin_.getD p.fn.toNat 0)⟩ :: outFuncs m s its size r
def outEntry (e : Int) : Int → Int → List PartD → Int
 | x, _, [] => x
 | x, k, p :: r => outEntry e (if p.fn = e then k else x) (k + 1) r
def emImg (m : Img) (d : FlowD) (l : List PartD) (s : MkD) (its : List ItD) : Img :=
 ⟨(its.map (resIt its s)).flatMap Ins.enc, outFuncs m s its (endPos 0 its) l, d.tables.map fun t => t.map fun b => posAt its (s.first.getD b.toNat 0), m.data, itLines 0 its, outEntry m.entry 0 0 l⟩
def emIts (d : FlowD) (l : List PartD) : List ItD := settleL (mkL d l).first (mkL d l).items
def emL (m : Img) (d : FlowD) (l : List PartD) : Img := emImg m d l (mkL d l) (emIts d l)
def emE (d : FlowD) (l : List PartD) : Int := if ordOk d l = false then 8 else if 8000 < endPos 0 (emIts d l) then 1 else 0
def swapL {α : Type} (z : α) (l : List α) (i j : Nat) : List α := (l.set i (l.getD j z)).set j (l.getD i z)
theorem swapL_len {α : Type} (z : α) (l : List α) (i j : Nat) : (swapL z l i j).length = l.length := by simp [swapL]
theorem swapL_perm {α : Type} (z : α) (l : List α) {i j : Nat} (hi : i < l.length) (hj : j < l.length) : (swapL z l i j).Perm l := by
 have h := Array.swap_perm (xs := l.toArray) (i := i) (j := j) (by simpa using hi) (by simpa using hj); rw [Array.perm_iff_toList_perm] at h
 have e : (l.toArray.swap i j (by simpa using hi) (by simpa using hj)).toList = swapL z l i j := by
  unfold swapL; rw [List.getD_eq_getElem?_getD, List.getD_eq_getElem?_getD, gE' hi, gE' hj]; simp [Array.swap]
 rw [e] at h; exact h
def fnTo (d : FlowD) (i : Int) (n : Nat) : List Int := ((List.range n).filter fun k => (d.blocks.getD k blkZ).fn == i).map Int.ofNat
def fnBs (d : FlowD) (i : Int) : List Int := fnTo d i d.blocks.length
theorem fnTo_succ (d : FlowD) (i : Int) (n : Nat) : fnTo d i (n + 1) = fnTo d i n ++ (if (d.blocks.getD n blkZ).fn = i then [(n : Int)] else []) := by
 unfold fnTo; rw [List.range_succ, List.filter_append, List.map_append]
 congr 1
 by_cases h : (d.blocks.getD n blkZ).fn = i
 · rw [if_pos h, List.filter_cons_of_pos (by simpa using h)]
   rfl
 · rw [if_neg h, List.filter_cons_of_neg (by simpa using h)]
   rfl
def nxL (L : List Int) (k : Nat) : Int := if L.length = 0 then 0 else L.getD (k % L.length) 0
def shB (L : List Int) (s : List Int × Nat) (n : Int) : List Int × Nat :=
 if 1 < s.1.length then (swapL 0 (s.1 ++ [n]) (1 + pickL (nxL L (s.2 + 1)) s.1.length).toNat s.1.length, s.2 + 1) else (s.1 ++ [n], s.2)
def partZ : PartD := ⟨0, []⟩
def shP (d : FlowD) (L : List Int) (s : List PartD × Nat) (i : Nat) : List PartD × Nat :=
 (swapL partZ (s.1 ++ [⟨i, ((fnBs d i).foldl (shB L) ([], s.2)).1⟩]) (pickL (nxL L (((fnBs d i).foldl (shB L) ([], s.2)).2 + 1)) (s.1.length + 1)).toNat s.1.length, ((fnBs d i).foldl (shB L) ([], s.2)).2 + 1)
def shL (d : FlowD) (L : List Int) : List PartD := ((List.range d.firsts.length).foldl (shP d L) ([], 0)).1
def natL (d : FlowD) : List PartD := (List.range d.firsts.length).map fun i : Nat => ⟨(i : Int), fnBs d i⟩
structure OrdG (d : FlowD) (l : List PartD) : Prop where
 fns : (l.map PartD.fn).Perm ((List.range d.firsts.length).map Int.ofNat)
 bs : ∀ p ∈ l, p.bs.Perm (fnBs d p.fn) ∧ p.bs.head? = some (d.firsts.getD p.fn.toNat 0)
theorem shB_perm (L : List Int) (s : List Int × Nat) (n : Int) : (shB L s n).1.Perm (s.1 ++ [n]) ∧ (s.1 ≠ [] → (shB L s n).1.head? = s.1.head?) := by
 unfold shB
 split
 · rename_i h
   have hp := pickL_bd (nxL L (s.2 + 1)) s.1.length (by omega); refine ⟨swapL_perm _ _ (by simp; omega) (by simp), fun hne => ?_⟩; show (swapL 0 (s.1 ++ [n]) (1 + pickL (nxL L (s.2 + 1)) s.1.length).toNat s.1.length).head? = _; obtain ⟨q, hq⟩ : ∃ q, (1 + pickL (nxL L (s.2 + 1)) s.1.length).toNat = q + 1 := ⟨(pickL (nxL L (s.2 + 1)) s.1.length).toNat, by omega⟩
   rw [hq]; obtain ⟨a, r, e⟩ := List.exists_cons_of_ne_nil hne; rw [e]; simp [swapL]
 · refine ⟨List.Perm.refl _, fun hne => ?_⟩; obtain ⟨a, r, e⟩ := List.exists_cons_of_ne_nil hne; rw [e]
   rfl
theorem shB_fold (L : List Int) : ∀ (l : List Int) (s : List Int × Nat), (l.foldl (shB L) s).1.Perm (s.1 ++ l) ∧ (l.foldl (shB L) s).1.head? = (s.1 ++ l).head?
 | [], s => by simp
 | n :: r, s => by
  obtain ⟨h1, h2⟩ := shB_fold L r (shB L s n); obtain ⟨k1, k2⟩ := shB_perm L s n; refine ⟨h1.trans ?_, h2.trans ?_⟩
  · have := k1.append_right r; rwa [List.append_assoc] at this
  · rcases Classical.em (s.1 = []) with e | e
    · have e2 : shB L s n = ([n], s.2) := by
       unfold shB; rw [if_neg (by rw [e]; simp), e]
       rfl
      rw [e2, e]
      rfl
    · have hne : (shB L s n).1 ≠ [] := by
       intro e3; rw [e3] at k1; have := k1.length_eq; simp at this
      obtain ⟨a1, r1, e1⟩ := List.exists_cons_of_ne_nil hne; obtain ⟨a2, r2, e2⟩ := List.exists_cons_of_ne_nil e; have k3 := k2 e; rw [e1, e2] at k3; rw [e1, e2]; exact k3
theorem mem_fnBs {d : FlowD} {i n : Int} : n ∈ fnBs d i ↔ 0 ≤ n ∧ n < d.blocks.length ∧ (d.blocks.getD n.toNat blkZ).fn = i := by
 unfold fnBs fnTo; rw [List.mem_map]
 constructor
 · rintro ⟨k, hk, rfl⟩; rw [List.mem_filter, List.mem_range] at hk; refine ⟨by simp, by simpa using hk.1, ?_⟩; simpa using hk.2
 · rintro ⟨h1, h2, h3⟩; refine ⟨n.toNat, ?_, by simp; omega⟩; rw [List.mem_filter, List.mem_range]; exact ⟨by omega, by simpa using h3⟩
theorem fnBs_nodup (d : FlowD) (i : Int) : (fnBs d i).Nodup := by
 unfold fnBs fnTo; refine List.Pairwise.map _ (fun a b h => ?_) ((List.nodup_range).filter _); intro e; exact h (Int.ofNat.inj e)
def cntF (d : FlowD) (fs : List Int) (n : Nat) : Nat := ((List.range n).filter fun k => fs.contains (d.blocks.getD k blkZ).fn).length
theorem cntF_cons (d : FlowD) (i : Int) (fs : List Int) (hi : fs.contains i = false) : ∀ n, cntF d (i :: fs) n = (fnTo d i n).length + cntF d fs n
 | 0 => rfl
 | n + 1 => by
  have ih := cntF_cons d i fs hi n; rw [fnTo_succ, List.length_append]; unfold cntF at ih ⊢; rw [List.range_succ, List.filter_append, List.filter_append, List.length_append, List.length_append, ih]
  by_cases h : (d.blocks.getD n blkZ).fn = i
  · rw [List.filter_cons_of_pos (by rw [h]; simp), List.filter_cons_of_neg (by rw [h, hi]; simp), if_pos h]; simp; omega
  · rw [if_neg h]; rcases hc : fs.contains (d.blocks.getD n blkZ).fn with _ | _
    · rw [List.filter_cons_of_neg (by rw [List.contains_cons, hc]; simpa using h), List.filter_cons_of_neg (by rw [hc]; simp)]; simp
    · rw [List.filter_cons_of_pos (by rw [List.contains_cons, hc]; simp), List.filter_cons_of_pos (by rw [hc])]; simp; omega
theorem ordB_perm (d : FlowD) (fn : Int) : ∀ (l bs : List Int), (∀ b ∈ l, 0 ≤ b ∧ b < d.blocks.length ∧ (d.blocks.getD b.toNat blkZ).fn = fn) → l.Nodup → (∀ b ∈ l, b ∉ bs) → ∃ bs', ordB d fn l bs = some bs' ∧ bs'.length = l.length + bs.length ∧ ∀ b, b ∈ bs' ↔ b ∈ l ∨ b ∈ bs
 | [], bs, _, _, _ => ⟨bs, rfl, by simp, fun b => by simp⟩
 | b :: r, bs, h1, h2, h3 => by
  obtain ⟨k1, k2, k3⟩ := h1 b (by simp); rw [List.nodup_cons] at h2
  obtain ⟨bs', e1, e2, e3⟩ := ordB_perm d fn r (b :: bs) (fun x hx => h1 x (by simp [hx])) h2.2 (fun x hx hm => by
   rcases List.mem_cons.1 hm with rfl | hm
   · exact h2.1 hx
   · exact h3 x (by simp [hx]) hm)
  refine ⟨bs', ?_, by simp at e2 ⊢; omega, fun x => ?_⟩
  · unfold ordB; rw [if_neg]
    · exact e1
    · rintro (h | h | h | h)
      · omega
      · omega
      · exact h3 b (by simp) (by simpa using h)
      · exact h k3
  · rw [e3 x]; simp only [List.mem_cons]
    constructor
    · rintro (h | h | h)
      · exact .inl (.inr h)
      · exact .inl (.inl h)
      · exact .inr h
    · rintro ((h | h) | h)
      · exact .inr (.inl h)
      · exact .inl h
      · exact .inr (.inr h)
theorem ordP_good (d : FlowD) : ∀ (l : List PartD) (fs bs : List Int), (l.map PartD.fn ++ fs).Nodup → (∀ p ∈ l, (0 ≤ p.fn ∧ p.fn < d.firsts.length) ∧ p.bs.Perm (fnBs d p.fn) ∧ p.bs.head? = some (d.firsts.getD p.fn.toNat 0)) →
 (∀ b ∈ bs, (d.blocks.getD b.toNat blkZ).fn ∈ fs) → bs.length = cntF d fs d.blocks.length → (∀ n, n < d.blocks.length → (d.blocks.getD n blkZ).fn ∈ l.map PartD.fn ∨ (d.blocks.getD n blkZ).fn ∈ fs) → ordP d l fs bs = true
 | [], fs, bs, _, _, _, h4, h5 => by
  unfold ordP; rw [beq_iff_eq, h4]; unfold cntF
  rw [List.filter_eq_self.2 (fun k hk => by
   rw [List.mem_range] at hk; rcases h5 k hk with h | h
   · cases h
   · simpa using h), List.length_range]
 | p :: r, fs, bs, h1, h2, h3, h4, h5 => by
  obtain ⟨⟨k1, k2⟩, k3, k4⟩ := h2 p (by simp); have h1' : (p.fn :: (r.map PartD.fn ++ fs)).Nodup := h1; rw [List.nodup_cons] at h1'; have hnf : p.fn ∉ fs := fun h => h1'.1 (by simp [h])
  have hmem : ∀ b ∈ p.bs, 0 ≤ b ∧ b < d.blocks.length ∧ (d.blocks.getD b.toNat blkZ).fn = p.fn := fun b hb => mem_fnBs.1 (k3.mem_iff.1 hb)
  obtain ⟨bs', e1, e2, e3⟩ := ordB_perm d p.fn p.bs bs hmem (k3.nodup_iff.2 (fnBs_nodup d p.fn)) (fun b hb hm => by
   have := h3 b hm; rw [(hmem b hb).2.2] at this
   exact hnf this)
  unfold ordP; rw [if_neg, e1]
  · refine ordP_good d r (p.fn :: fs) bs' ?_ (fun q hq => h2 q (by simp [hq])) (fun b hb => ?_) ?_ (fun n hn => ?_)
    · have : (r.map PartD.fn ++ p.fn :: fs).Perm (p.fn :: (r.map PartD.fn ++ fs)) := List.perm_middle; exact this.nodup_iff.2 (List.nodup_cons.2 h1')
    · rcases (e3 b).1 hb with h | h
      · rw [(hmem b h).2.2]; simp
      · exact List.mem_cons_of_mem _ (h3 b h)
    · rw [e2, k3.length_eq, h4, cntF_cons d p.fn fs (by simpa using hnf)]
      rfl
    · rcases h5 n hn with h | h
      · rcases List.mem_cons.1 h with h | h
        · exact .inr (by rw [h]; simp)
        · exact .inl h
      · exact .inr (List.mem_cons_of_mem _ h)
  · rintro (h | h | h | h)
    · omega
    · omega
    · exact hnf (by simpa using h)
    · exact h k4
theorem OrdG.fn {d : FlowD} {l : List PartD} (h : OrdG d l) {p : PartD} (hp : p ∈ l) : 0 ≤ p.fn ∧ p.fn < d.firsts.length := by
 have h1 := h.fns.mem_iff.1 (List.mem_map_of_mem hp); obtain ⟨k, hk, e⟩ := List.mem_map.1 h1; rw [List.mem_range] at hk; have : (k : Int) = p.fn := e; omega
theorem OrdG.ok {d : FlowD} {l : List PartD} (h : OrdG d l) (hd : ∀ b ∈ d.blocks, 0 ≤ b.fn ∧ b.fn < d.firsts.length) : ordOk d l = true := by
 have hlen := h.fns.length_eq; simp only [List.length_map, List.length_range] at hlen; unfold ordOk; rw [Bool.and_eq_true, beq_iff_eq]; refine ⟨hlen, ordP_good d l [] [] ?_ (fun p hp => ⟨h.fn hp, h.bs p hp⟩) (fun b hb => by cases hb) ?_ (fun n hn => .inl ?_)⟩
 · rw [List.append_nil, h.fns.nodup_iff]; exact List.Pairwise.map _ (fun a b h e => h (Int.ofNat.inj e)) List.nodup_range
 · unfold cntF; rw [List.filter_eq_nil_iff.2 (fun k _ => by simp)]
   rfl
 · have hb : d.blocks.getD n blkZ ∈ d.blocks := by
    rw [List.getD_eq_getElem?_getD, gE' hn]; exact List.getElem_mem hn
   obtain ⟨i1, i2⟩ := hd _ hb; rw [h.fns.mem_iff]; exact List.mem_map.2 ⟨(d.blocks.getD n blkZ).fn.toNat, List.mem_range.2 (by omega), by show ((d.blocks.getD n blkZ).fn.toNat : Int) = _; omega⟩
def HeadF (d : FlowD) : Prop := ∀ i : Nat, i < d.firsts.length → (fnBs d i).head? = some (d.firsts.getD i 0)
theorem natL_good {d : FlowD} (h : HeadF d) : OrdG d (natL d) := by
 refine ⟨?_, fun p hp => ?_⟩
 · unfold natL; rw [List.map_map]; exact List.Perm.refl _
 · obtain ⟨i, hi, rfl⟩ := List.mem_map.1 hp; exact ⟨List.Perm.refl _, h i (List.mem_range.1 hi)⟩
theorem shP_fold {d : FlowD} (h : HeadF d) (L : List Int) : ∀ k, k ≤ d.firsts.length → (((List.range k).foldl (shP d L) ([], 0)).1.map PartD.fn).Perm ((List.range k).map Int.ofNat) ∧ (∀ p ∈ ((List.range k).foldl (shP d L) ([], 0)).1, p.bs.Perm (fnBs d p.fn) ∧ p.bs.head? = some (d.firsts.getD p.fn.toNat 0)) ∧ ((List.range k).foldl (shP d L) ([], 0)).1.length = k
 | 0, _ => ⟨List.Perm.refl _, (fun p hp => by cases hp), rfl⟩
 | k + 1, hk => by
  obtain ⟨h1, h2, h3⟩ := shP_fold h L k (by omega); rw [List.range_succ, List.foldl_append]; obtain ⟨s, hs⟩ := ex' ((List.range k).foldl (shP d L) ([], 0))
  rw [hs] at h1 h2 h3 ⊢; show ((shP d L s k).1.map PartD.fn).Perm _ ∧ (∀ p ∈ (shP d L s k).1, _) ∧ (shP d L s k).1.length = k + 1; have hp := pickL_bd (nxL L (((fnBs d k).foldl (shB L) ([], s.2)).2 + 1)) (s.1.length + 1) (by omega); have hperm : (shP d L s k).1.Perm (s.1 ++ [⟨(k : Int), ((fnBs d k).foldl (shB L) ([], s.2)).1⟩]) := swapL_perm _ _ (by simp; omega) (by simp); obtain ⟨f1, f2⟩ := shB_fold L (fnBs d k) ([], s.2); rw [List.nil_append] at f1 f2; refine ⟨?_, fun p hpm => ?_, ?_⟩
  · refine (hperm.map _).trans ?_; rw [List.map_append, List.map_append]; exact h1.append_right _
  · rcases List.mem_append.1 (hperm.mem_iff.1 hpm) with hm | hm
    · exact h2 p hm
    · rw [List.mem_singleton] at hm; subst hm; exact ⟨f1, f2.trans (h k (by omega))⟩
  · rw [hperm.length_eq]; simp [h3]
theorem shL_good {d : FlowD} (h : HeadF d) (L : List Int) : OrdG d (shL d L) := by
 obtain ⟨h1, h2, -⟩ := shP_fold h L _ lr'; exact ⟨h1, h2⟩
section
variable {m : Img} {ld : Int → Bool} {bm : Int → Option Int} {S : List FSp} {gs : List (List FSp)} {d : FlowD}
theorem PgmF.before (h : PgmF m ld bm S gs d) {n : Nat} {x : FSp} {r : List FSp} (hg : gs[n]? = some (x :: r)) {k : Nat} (hk : k < n) {g : List FSp} (hgk : gs[k]? = some g) {y : FSp} (hy : y ∈ g) : y.2.p + y.2.z ≤ x.2.p ∧ 1 ≤ y.2.z := by
 have e := groups_at hg; rw [h.flat] at e; have hc := h.chain; rw [e, List.map_append] at hc
 have hm : y ∈ (gs.take n).flatten := by
  refine List.mem_flatten.2 ⟨g, ?_, hy⟩; refine mG' (i := k) ?_; rw [List.getElem?_take, if_pos hk]; exact hgk
 have hc2 : ChainS 0 ((gs.take n).flatten.map Prod.snd ++ x.2 :: (r ++ (gs.drop (n + 1)).flatten).map Prod.snd) := by
  have : (x :: r ++ (gs.drop (n + 1)).flatten).map Prod.snd = x.2 :: (r ++ (gs.drop (n + 1)).flatten).map Prod.snd := rfl; rw [this] at hc; exact hc
 exact (ChainS.at hc2).2.1 y.2 (List.mem_map_of_mem hm)
theorem fnTo_nil {d : FlowD} {i : Int} : ∀ n : Nat, (∀ k, k < n → (d.blocks.getD k blkZ).fn ≠ i) → fnTo d i n = []
 | 0, _ => rfl
 | n + 1, h => by
  rw [fnTo_succ, fnTo_nil n fun k hk => h k (by omega), if_neg (h n (by omega))]
  rfl
theorem fnTo_head {d : FlowD} {i : Int} {n : Nat} (h : ∀ k, k < n → (d.blocks.getD k blkZ).fn ≠ i) (hn : (d.blocks.getD n blkZ).fn = i) : ∀ j : Nat, (fnTo d i (n + 1 + j)).head? = some (n : Int)
 | 0 => by
  rw [Nat.add_zero, fnTo_succ, fnTo_nil n h, if_pos hn]
  rfl
 | j + 1 => by
  have ih := fnTo_head h hn j; rw [← Nat.add_assoc, fnTo_succ]; rcases hf : fnTo d i (n + 1 + j) with _ | ⟨a, r⟩
  · rw [hf] at ih
    cases ih
  · rw [hf] at ih; exact ih
theorem PgmF.head (h : PgmF m ld bm S gs d) (hf : FnF m S) : HeadF d := by
 intro i hi; have hn : d.firsts[i]? = some (d.firsts[i]'hi) := gE' hi; obtain ⟨n, hne⟩ := ex' (d.firsts[i]'hi)
 rw [hne] at hn; obtain ⟨f, x, r, k1, k2, k3, k4, k5⟩ := h.firsts.2 i n hn; have hlen := h.few.1; have hnl : n.toNat < gs.length := (List.getElem?_eq_some_iff.1 k3).1
 have hblk : ∀ (k : Nat) (y : FSp) (s : List FSp), gs[k]? = some (y :: s) → (d.blocks.getD k blkZ).fn = y.1 := fun k y s hk => by
  have hb : d.blocks[k]? = some (joinB bm (blkOf m (y :: s))) := by rw [h.blocks, List.getElem?_map, hk]; rfl
  rw [List.getD_eq_getElem?_getD, hb]; exact (blk_f m bm y s).1
 have hgd : d.firsts.getD i 0 = n := by rw [List.getD_eq_getElem?_getD, hn]; rfl
 rw [hgd]
 have hh := fnTo_head (d := d) (i := (i : Int)) (n := n.toNat) (fun k hk e => by
  have hg : gs[k]? = some (gs[k]'(by omega)) := gE' _; obtain ⟨y, s, hys, -⟩ := h.ok _ (mG' hg); rw [hys] at hg; rw [hblk k y s hg] at e; have h1 := (h.before k3 hk hg (y := y) (by simp)).1; have h0 := (h.before k3 hk hg (y := y) (by simp)).2; obtain ⟨f', a1, a2, a3, a4⟩ := hf y (h.spot hg (j := 0) rfl).2.2.1; rw [e, Int.toNat_natCast, k1] at a2; injection a2 with a2; subst a2
  omega) (by rw [hblk n.toNat x r k3, k5]) (d.blocks.length - (n.toNat + 1))
 rw [show n.toNat + 1 + (d.blocks.length - (n.toNat + 1)) = d.blocks.length by omega] at hh; unfold fnBs; rw [hh, Int.toNat_of_nonneg k2]
theorem PgmF.blkFn (h : PgmF m ld bm S gs d) (hf : FnF m S) : ∀ b ∈ d.blocks, 0 ≤ b.fn ∧ b.fn < d.firsts.length := by
 intro b hb; obtain ⟨i, hi⟩ := List.getElem?_of_mem hb; obtain ⟨x, r, hg, -, e, -⟩ := h.blk hi; obtain ⟨f, a1, a2, -⟩ := hf x (h.spot hg (j := 0) rfl).2.2.1; have := (List.getElem?_eq_some_iff.1 a2).1; rw [e, h.firsts.1]; omega
end
structure BlkFit (d : FlowD) (b : BlkD) : Prop where
 ends : b.ends = 1 ∨ b.ends = 2 ∨ b.ends = 3 ∨ b.ends = 4
 code : b.ends = 1 → b.code ≠ []
 ats : b.code.length ≤ b.ats.length ∧ (3 ≤ b.ends → b.ats.length = b.code.length + 1)
 lines : b.lines.length = b.code.length + 1
 dst : b.ends ≠ 1 → 0 ≤ b.dst ∧ b.dst < d.blocks.length ∧ (d.blocks.getD b.dst.toNat blkZ).fn = b.fn
 els : b.ends = 4 → 0 ≤ b.els ∧ b.els < d.blocks.length ∧ (d.blocks.getD b.els.toNat blkZ).fn = b.fn
 last : b.ends = 4 → 18 ≤ b.last.k ∧ b.last.k ≤ 21
theorem PgmF.fit {m : Img} {ld : Int → Bool} {bm : Int → Option Int} {S : List FSp} {gs : List (List FSp)} {d : FlowD} (h : PgmF m ld bm S gs d) {i : Nat} {b : BlkD} (hb : d.blocks[i]? = some b) : BlkFit d b := by
 obtain ⟨l1, -⟩ := h.lines hb; obtain ⟨a, y, g, ha, -, -, hg, -, he⟩ := h.ends hb; have hal : b.ats.length = a.length + 1 := by rw [ha]; simp
 have hlen := h.few.1
 have hto : ∀ (j : Nat) (z : FSp) (r : List FSp), gs[j]? = some (z :: r) → z.1 = b.fn → (j : Int) < d.blocks.length ∧ (d.blocks.getD (j : Int).toNat blkZ).fn = b.fn := fun j z r hj hz => by
  have hjl := (List.getElem?_eq_some_iff.1 hj).1; have hb : d.blocks[j]? = some (joinB bm (blkOf m (z :: r))) := by rw [h.blocks, List.getElem?_map, hj]; rfl
  refine ⟨by omega, ?_⟩; rw [Int.toNat_natCast, List.getD_eq_getElem?_getD, hb, ← hz]; exact (blk_f m bm z r).1
 cases he with
 | branch j z r z' r' h1 h2 h3 h4 h5 h6 h7 h8 h9 h10 h11 h12 =>
  obtain ⟨t1, t2⟩ := hto j z r h6 h8; obtain ⟨u1, u2⟩ := hto _ z' r' h10 h12; refine ⟨by omega, fun e => by omega, ⟨by omega, fun _ => by omega⟩, l1, fun _ => ⟨by omega, by omega, by rw [h5]; exact t2⟩, fun _ => ⟨by omega, by omega, by rw [h9]; exact u2⟩, fun _ => ?_⟩; rw [h3]; unfold branchI at h2; simpa using h2
 | jump j z r h1 h2 h4 h5 h6 h7 h8 =>
  obtain ⟨t1, t2⟩ := hto j z r h6 h8; exact ⟨by omega, fun e => by omega, ⟨by omega, fun _ => by omega⟩, l1, fun _ => ⟨by omega, by omega, by rw [h5]; exact t2⟩, fun e => by omega, fun e => by omega⟩
 | stop h1 h2 h4 h5 =>
  refine ⟨by omega, fun _ e => ?_, ⟨by omega, fun e => by omega⟩, l1, fun e => absurd h1 e, fun e => by omega, fun e => by omega⟩; rw [e] at h4; simp at h4; omega
 | fall z' r' h1 h2 h4 h5 h6 h7 h8 =>
  obtain ⟨t1, t2⟩ := hto _ z' r' h6 h8; exact ⟨by omega, fun e => by omega, ⟨by omega, fun e => by omega⟩, l1, fun _ => ⟨by omega, by omega, by rw [h5]; exact t2⟩, fun e => by omega, fun e => by omega⟩
end Go.Proofs.YtcdlgjhdbmmomaaGreatDoor
