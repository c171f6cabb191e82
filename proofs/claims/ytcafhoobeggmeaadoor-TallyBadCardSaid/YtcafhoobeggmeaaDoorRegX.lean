/- A region that draws its order: loads may be taken first although the region's last operations write the cells that they read, if those wait for them. Drawn regions: several operations that may come up. -/
import Derived.Test.YtcafhoobeggmeaaDoorFlowC
import Derived.Test.YtcafhoobeggmeaaDoorImgE
import Derived.OrdersHeld
import Derived.Deep.RegionHeld
import Derived.StillTail
namespace Go.Proofs.YtcafhoobeggmeaaDoor
open Go.RowKit
def finPl (fs : List FnD) (s : Sp) : Ins := if s.i.k = 23 then { s.i with n := idxP (fun f => f.start == s.p + s.i.n) fs } else s.i
set_option maxHeartbeats 2000000 in
set_option maxRecDepth 100000 in
theorem fin_plain (X : Nat) (fA : Option Addr) (fc : Nat) (fs : List FnD) (p z k d a b n : Int) (l : Bool) (w : World) (hX : X < w.heap.size) (hc : w.cell? ⟨X, 1, none⟩ = some (.slice fA fs.length fc)) (hR : RdG w w.heap.size fA (funcsV fs)) (hl : fs.length ≤ 140737488355328)
 (hb : IntKind.i64.wrap (p + n) = p + n) :
 Calls Tryd.prog 84 #[.pointer (some ⟨X, 0, none⟩), .agg #[.int .i64 p, .int .i64 z, .int .i64 k, .int .i64 d, .int .i64 a, .int .i64 b, .int .i64 n, .bool l]] w fun e w' => e = .returned (.agg #[.int .i64 k, .int .i64 d, .int .i64 a, .int .i64 b, .int .i64 (finPl fs ⟨p, z, ⟨k, d, a, b, n, l⟩⟩).n, .bool l]) ∧ Below w.heap.size w w' := by
 have HR := hd' hR; have HB := hd' hb; obtain ⟨nf, hnf⟩ := ex' fs.length
 rw [hnf] at hc hl; have HNF := hd' hnf; obtain ⟨N, hN⟩ := ex' ((finPl fs ⟨p, z, ⟨k, d, a, b, n, l⟩⟩).n)
 rw [hN]; clear hR hb hnf
 go_enter Tryd.func84, Tryd.ntmps84
 by_cases hk : k = 23
 · subst hk; have HN : Hid (idxP (fun f => f.start == p + n) fs = N) := hd' (by rw [← hN]; rfl); clear hN
   go_wp2_with fail
   obtain ⟨W, hW⟩ := ex' (((w.alloc (.cells #[.int .i64 p, .int .i64 z, .int .i64 23, .int .i64 d, .int .i64 a, .int .i64 b, .int .i64 n, .bool l] 128)).alloc (.cells #[.int .i64 0, .int .i64 0, .int .i64 0, .int .i64 0, .int .i64 0, .bool false] 55)))
   rw [hW]; have hbW : Below w.heap.size w W := by rw [← hW]; exact ((Below.refl _ _).alloc lr' _).alloc (by simp) _
   have hs : Blk W w.heap.size 128 [.int .i64 p, .int .i64 z, .int .i64 23, .int .i64 d, .int .i64 a, .int .i64 b, .int .i64 n, .bool l] := by rw [← hW]; exact (Blk.new w _ _).alloc _
   have hr : Blk W (w.heap.size + 1) 55 [.int .i64 0, .int .i64 0, .int .i64 0, .int .i64 0, .int .i64 0, .bool false] := by rw [← hW]; exact Blk.new2 w _ _ _
   clear hW; have hix := idx_pl1 fs (fun f => f.start == p + n) fA nf fc w.heap.size W ((HR.out.below hbW).more hbW.size) HNF.out.symm hl (fun V hV f _ => fin_plain1 w.heap.size f.name f.start f.size p n V ((hs.keep hV).cell 0 rfl) ((hs.keep hV).cell 6 rfl) (hs.keep hV).lt HB.out); refine hix.mono ?_; rintro e W2 ⟨rfl, hb2⟩; rw [HN.out]; have hs2 := hs.keep hb2; have hr2 := hr.keep hb2; have HB2 := hd' (hbW.trans (hb2.mono hbW.size)); have HR2 := hd' hr2; have hz2 : w.heap.size ≤ W2.heap.size := HB2.out.size; clear hix hb2 hbW hs hr; have s2 := hs2.cell 2 rfl; have s3 := hs2.cell 3 rfl
   have s4 := hs2.cell 4 rfl; have s5 := hs2.cell 5 rfl; have s6 := hs2.cell 6 rfl; have s7 := hs2.cell 7 rfl; have f6 := hs2.free 6; have r0 := hr2.cell 0 rfl; have r1 := hr2.cell 1 rfl; have r2 := hr2.cell 2 rfl; have r3 := hr2.cell 3 rfl; have r4 := hr2.cell 4 rfl; have r5 := hr2.cell 5 rfl; have g0 := hr2.free 0; have g1 := hr2.free 1; have g2 := hr2.free 2; have g3 := hr2.free 3; have g4 := hr2.free 4; have g5 := hr2.free 5; have l0 := hs2.lt; have l1 := hr2.lt; clear hs2 hr2
   go_wp2
   have h0 : Blk (W2.setCell ⟨w.heap.size, 6, none⟩ (.int .i64 N)) (w.heap.size + 1) 55 [.int .i64 0, .int .i64 0, .int .i64 0, .int .i64 0, .int .i64 0, .bool false] := HR2.out.set_ne (by omega) _ _; have h1 := (((((h0.set 0 (.int .i64 23)).set 1 (.int .i64 d)).set 2 (.int .i64 a)).set 3 (.int .i64 b)).set 4 (.int .i64 N)).set 5 (.bool l); have b1 := gb_to_below (B := w.heap.size) (gb_setCell (gb_refl W2 (some w.heap.size)) 6 (.int .i64 N)) lr' hz2
   have b2 := gb_to_below (B := w.heap.size) (gb_setCell (gb_setCell (gb_setCell (gb_setCell (gb_setCell (gb_setCell (gb_refl (W2.setCell ⟨w.heap.size, 6, none⟩ (.int .i64 N)) (some (w.heap.size + 1))) 0 (.int .i64 23)) 1 (.int .i64 d)) 2 (.int .i64 a)) 3 (.int .i64 b)) 4 (.int .i64 N)) 5 (.bool l)) (by omega) (by have := b1.size; omega); exact bodyPost_ret (results_cell_row rfl _ _ (w.heap.size + 1) 55 #[.int .i64 23, .int .i64 d, .int .i64 a, .int .i64 b, .int .i64 N, .bool l] (0, 0) _ rfl h1 Tryd.underlying55 rfl (by kernel_rfl)) rfl ⟨rfl, (HB2.out.trans b1).trans b2⟩
 · have hN2 : n = N := by rw [← hN]; unfold finPl; rw [if_neg hk]
   subst hN2; have hkb : (k == 23) = false := by simpa using hk
   clear hN
   go_wp2
   exact bodyPost_ret (results_cell_row rfl _ _ (w.heap.size + 1) 55 #[.int .i64 k, .int .i64 d, .int .i64 a, .int .i64 b, .int .i64 n, .bool l] (0, 0) _ rfl (heap_alloc2_new w _ _) Tryd.underlying55 rfl (by kernel_rfl)) rfl ⟨rfl, ((Below.refl _ _).alloc lr' _).alloc (by simp) _⟩
def markS (m : Img) (own : Int → Option Int) (f : Int) (s : Sp) (ld : Int → Bool) : Option (Int → Bool) :=
 if (branchI s.i || s.i.k == 22) = true then (if (own (s.p + s.i.n) == some f) = true then some (upF (upF ld (s.p + s.i.n) true) (s.p + s.z) true) else none)
 else if stopsI s.i = true then (if (s.i.k == 24 && decide (s.i.n < m.tables.length) && (m.tables.getD s.i.n.toNat []).any (fun a => !(own a == some f))) = true then none else some (upF ld (s.p + s.z) true))
 else if s.i.k = 23 then (if m.funcs.any (fun g => g.start == s.p + s.i.n) = true then some ld else none)
 else some ld
def markGo (m : Img) (own : Int → Option Int) (f : Int) : List Sp → (Int → Bool) → Option (Int → Bool)
 | [], ld => some ld
 | s :: r, ld => (markS m own f s ld).bind (markGo m own f r)
theorem markGo_snoc (m : Img) (own : Int → Option Int) (f : Int) : ∀ (l : List Sp) (s : Sp) (ld : Int → Bool), markGo m own f (l ++ [s]) ld = (markGo m own f l ld).bind (markS m own f s)
 | [], s, ld => by
  show (markS m own f s ld).bind (markGo m own f []) = markS m own f s ld
  cases markS m own f s ld <;> rfl
 | a :: r, s, ld => by
  show (markS m own f a ld).bind (markGo m own f (r ++ [s])) = ((markS m own f a ld).bind (markGo m own f r)).bind (markS m own f s)
  cases markS m own f a ld with
  | none => rfl
  | some x => exact markGo_snoc m own f r s x
theorem markGo_none (m : Img) (own : Int → Option Int) (f : Int) (l r : List Sp) (ld : Int → Bool) (h : markGo m own f l ld = none) : markGo m own f (l ++ r) ld = none := by
 induction l generalizing ld with
 | nil => cases h
 | cons a t ih =>
  have h' : (markS m own f a ld).bind (markGo m own f t) = none := h; show (markS m own f a ld).bind (markGo m own f (t ++ r)) = none
  cases e : markS m own f a ld with
  | none => rfl
  | some x =>
   rw [e] at h'; exact ih x h'
theorem mapB_is {w : World} {L n : Nat} {f : Int → Bool} (h : MapB w L n f) : ∃ es ck, w.heap[L]? = some (.map es ck) := by
 obtain ⟨D, ⟨es, ck, hb, _⟩, _⟩ := h; exact ⟨es, ck, hb⟩
theorem RdG.keepM {w w' : World} {H L n : Nat} {A : Option Addr} {xs : List Value} {f : Int → Bool} (h : RdG w H A xs) (hg : w.grownBy w' (some L)) (hm : MapB w L n f) : RdG w' H A xs := by
 obtain ⟨es, ck, hL⟩ := mapB_is hm; intro hne; obtain ⟨g, o, rfl, hgH, hc⟩ := h hne; refine ⟨g, o, rfl, hgH, fun j u hu => ?_⟩; have hcell := hc j u hu; have hlt := lt_of_cell hcell
 have hgL : g ≠ L := by
  rintro rfl; simp [World.cell?, hL] at hcell
 rw [← hcell]; have e := hg.block g hlt (fun e => hgL (by injection e)); simp [World.cell?, e]
theorem Blk.neM {w : World} {X L n : Nat} {t : TypeId} {cs : List Value} {f : Int → Bool} (h : Blk w X t cs) (hm : MapB w L n f) : L ≠ X := by
 obtain ⟨es, ck, hL⟩ := mapB_is hm; rintro rfl; unfold Blk at h; rw [hL] at h
 cases h
theorem Blk.keepM {w w' : World} {X L n : Nat} {t : TypeId} {cs : List Value} {f : Int → Bool} (h : Blk w X t cs) (hg : w.grownBy w' (some L)) (hm : MapB w L n f) : Blk w' X t cs :=
 h.gb hg (fun e => h.neM hm (by injection e))
def finC (m : Img) (v : ImgV) (aA : Option Addr) (an ac o L k : Nat) (R3 : List Value) : List Value :=
 [.slice v.tA m.text.length v.tc, .slice v.fA m.funcs.length v.fc, .slice v.bA m.tables.length v.bc, .slice v.dA m.data.length v.dc, .slice v.lA m.lines.length v.lc, .int .i64 m.entry, .slice aA an ac, .map (some o), .map (some L), .map (some k)] ++ R3
structure FinRd (w : World) (B H X : Nat) (m : Img) (v : ImgV) (aA : Option Addr) (ac : Nat) (all : List (List Sp)) (o no : Nat) (own : Int → Option Int) (L k : Nat) (R3 : List Value) : Prop where
 blk : Blk w X 123 (finC m v aA all.length ac o L k R3)
 img : ImgRd w B m v
 rows : ∃ vs : List Value, vs.length = all.length ∧ RdG w H aA vs ∧ ∀ (j : Nat) (l : List Sp), all[j]? = some l → ∃ A c, vs[j]? = some (.slice A l.length c) ∧ l.length ≤ c ∧ RdG w H A (spsV l)
 own : MapI w o no own
 hB : B ≤ L ∧ B ≤ H
 hH : H ≤ w.heap.size
 ne : L ≠ o
section
variable {w w' : World} {B H X : Nat} {m : Img} {v : ImgV} {aA : Option Addr} {ac : Nat} {all : List (List Sp)} {o no : Nat} {own : Int → Option Int} {L k : Nat} {R3 : List Value}
theorem FinRd.keepL {n : Nat} {f : Int → Bool} (h : FinRd w B H X m v aA ac all o no own L k R3) (hg : w.grownBy w' (some L)) (hm : MapB w L n f) : FinRd w' B H X m v aA ac all o no own L k R3 := by
 obtain ⟨vs, h1, h2, h3⟩ := h.rows; refine ⟨h.blk.keepM hg hm, h.img.below (gb_to_below hg h.hB.1 (by have := h.hB.2; have := h.hH; omega)), ⟨vs, h1, h2.keepM hg hm, fun j l hj => ?_⟩, h.own.gb hg (fun e => h.ne (by injection e)), h.hB, Nat.le_trans h.hH hg.size, h.ne⟩; obtain ⟨A, c, k1, k2, k3⟩ := h3 j l hj; exact ⟨A, c, k1, k2, k3.keepM hg hm⟩
theorem FinRd.below (h : FinRd w B H X m v aA ac all o no own L k R3) (hb : Below w.heap.size w w') : FinRd w' B H X m v aA ac all o no own L k R3 := by
 obtain ⟨vs, h1, h2, h3⟩ := h.rows; have hH := h.hH; have hB := h.hB.2; refine ⟨h.blk.keep hb, h.img.below (hb.mono (by omega)), ⟨vs, h1, h2.below (hb.mono hH), fun j l hj => ?_⟩, h.own.keep hb, h.hB, Nat.le_trans h.hH hb.size, h.ne⟩; obtain ⟨A, c, k1, k2, k3⟩ := h3 j l hj; exact ⟨A, c, k1, k2, k3.below (hb.mono hH)⟩
end
end Go.Proofs.YtcafhoobeggmeaaDoor
namespace Go.Proofs.YtcafhoobeggmeaaDoor
open Go
section
variable {P : Program} {ops : Array Oper} {Q : Exit → Act → World → Prop} {md : Region.Mode} {S : World → Prop} {n : Nat}
def wpW (P : Program) (md : Region.Mode) (ops : Array Oper) (Q : Exit → Act → World → Prop) (S : World → Prop) (n : Nat) : Nat → Array Bool → Act → World → Prop
 | 0, listed, a, w => Region.ready md ops listed = [] ∧ Q .normal a w
 | fuel + 1, listed, a, w =>
  (Region.ready md ops listed = [] → Q .normal a w) ∧
  ∀ i ∈ Region.ready md ops listed, wpOp P ops Q i (fun a' w' => (i < n → S w') ∧ wpW P md ops Q S n fuel (listed.setIfInBounds i true) a' w') a w
theorem wpAny_of_W : ∀ (fuel : Nat) (listed : Array Bool) (a : Act) (w : World), wpW P md ops Q S n fuel listed a w → wpAny P md ops Q fuel listed a w
 | 0, _, _, _, h => h
 | fuel + 1, _, _, _, h => ⟨h.1, fun i hi => wpOp_mono (fun a' w' h' => wpAny_of_W fuel _ a' w' h'.2) (h.2 i hi)⟩
def waitB (md : Region.Mode) (ops : Array Oper) (n i : Nat) : Bool := (List.range ops.size).all fun j => decide (j < n) || decide (j = i) || Region.waitsFor md ops j i
theorem wpW_first {i : Nat} {oi : Oper} {v : Value} (hi : ops[i]? = some oi) (hsel : ∀ (j : Nat) (o : Oper) cs b, ops[j]? = some o → o.op ≠ .select cs b)
 (hQ : ∀ c a w, Q (.panic c) (a.put oi.dst v) w → Q (.panic c) a w) (hwait : waitB md ops n i = true) :
 ∀ (fuel : Nat) (listed : Array Bool) (a : Act) (w : World),
  (∀ j oj, ops[j]? = some oj → j ≠ i → listed.getD j true = false → (∀ e ∈ oj.after, Region.binds md e = true → e.on ≠ i) → oi.apart ops oj = true) →
  i ∈ Region.ready md ops listed → YieldsIf P ops S oi v a → S w →
  wpW P md ops Q S n fuel (listed.setIfInBounds i true) (a.put oi.dst v) w → wpW P md ops Q S n (fuel + 1) listed a w := by
 intro fuel
 induction fuel with
 | zero =>
  intro listed a w _ hr hy hS H; refine ⟨fun h => (by rw [h] at hr; cases hr), fun j hj => ?_⟩
  by_cases hji : j = i
  · subst hji; exact hy.wpOp hi hS ⟨fun _ => hS, H⟩
  · have := ready_mono hj hji; rw [H.1] at this
    cases this
 | succ fuel ih =>
  intro listed a w hfree hr hy hS H; refine ⟨fun h => (by rw [h] at hr; cases hr), fun j hj => ?_⟩
  by_cases hji : j = i
  · subst hji; exact hy.wpOp hi hS ⟨fun _ => hS, H⟩
  · have h1 := H.2 j (ready_mono hj hji); obtain ⟨hjun, oj, hoj, hall⟩ := mem_ready.1 hj
    have hnot : ∀ e ∈ oj.after, Region.binds md e = true → e.on ≠ i := fun e he hb heq => by
     have h1 := hall e he hb; have h0 := (mem_ready.1 hr).1; rw [heq] at h1; rcases Nat.lt_or_ge i listed.size with h' | h'
     · simp [h'] at h0 h1; rw [h0] at h1
       cases h1
     · simp [Array.getElem?_eq_none h'] at h1
    have hjn : j < n := by
     rcases Nat.lt_or_ge j n with h | h
     · exact h
     · have hw := List.all_eq_true.1 hwait j (List.mem_range.2 (Array.getElem?_eq_some_iff.1 hoj).1); simp only [Bool.or_eq_true, decide_eq_true_eq] at hw; rcases hw with (hw | hw) | hw
       · exact hw
       · exact absurd hw hji
       · obtain ⟨o', ho', e, he, hb, hon⟩ := Region.waitsFor_spec hw; have : o' = oj := Option.some.inj (ho'.symm.trans hoj); subst this; exact absurd hon (hnot e he hb)
    have h2 := wpOp_putIf hoj (hfree j oj hoj hji hjun hnot) (fun cs b => hsel i oi cs b hi) (fun cs b => hsel j oj cs b hoj) hQ hy h1
    have hfree' : ∀ k ok, ops[k]? = some ok → k ≠ i → (listed.setIfInBounds j true).getD k true = false →
     (∀ e ∈ ok.after, Region.binds md e = true → e.on ≠ i) → oi.apart ops ok = true := fun k ok hk hki hun hno => by
     refine hfree k ok hk hki ?_ hno
     by_cases hjk : j = k
     · subst hjk; exact hjun
     · rw [getD_set_ne true hjk] at hun; exact hun
    refine wpOp_mono (fun a' w' h3 => ⟨fun _ => h3.2.1 hjn, ih (listed.setIfInBounds j true) a' w' hfree' (ready_mono hr (Ne.symm hji)) h3.1 (h3.2.1 hjn) ?_⟩) h2; rw [Array.setIfInBounds_comm _ _ hji]; exact h3.2.2
end
section
variable {P : Program} {l : List Oper} {Q : Exit → Act → World → Prop} {md : Region.Mode} {S : World → Prop} {n : Nat}
theorem wpW_take (i : Nat) {oi : Oper} {v : Value} {fuel : Nat} {listed : Array Bool} {a : Act} {w : World} (hi : l[i]? = some oi)
 (hs : Region.noSelect l.toArray = true) (hf : Region.free md l.toArray listed i = true) (hr : (Region.ready md l.toArray listed).contains i = true) (hwait : waitB md l.toArray n i = true)
 (hQ : ∀ c a w, Q (.panic c) (a.put oi.dst v) w → Q (.panic c) a w) (hy : YieldsIf P l.toArray S oi v a) (hS : S w)
 (h : wpW P md l.toArray Q S n fuel (listed.setIfInBounds i true) (a.put oi.dst v) w) : wpW P md l.toArray Q S n (fuel + 1) listed a w :=
 have hi' : l.toArray[i]? = some oi := by simpa using hi
 wpW_first hi' (Region.noSelect_spec hs) hQ hwait fuel listed a w (Region.free_spec hi' hf) (by simpa using hr) hy hS h
theorem putE : (∀ (a : Act) (i : Nat) (v : Value), a.put (some i) v = { a with tmps := a.tmps.setIfInBounds i v }) ∧ (∀ (a : Act) (v : Value), a.put none v = a) ∧ (∀ (l : List Value) (i : Nat) (v : Value), l.toArray.setIfInBounds i v = (l.set i v).toArray) ∧ (∀ (x y : Value) (r : List Value), (x :: r).set 0 y = y :: r) ∧ (∀ (x y : Value) (r : List Value) (i : Nat), (x :: r).set (i + 1) y = x :: r.set i y) :=
 ⟨fun _ _ _ => rfl, fun _ _ => rfl, fun _ _ _ => by simp, fun _ _ _ => rfl, fun _ _ _ _ => rfl⟩
theorem wpW_t (i : Nat) {oi : Oper} {v : Value} {fuel : Nat} {listed : Array Bool} {a : Act} {w : World} (hi : l[i]? = some oi) (hy : YieldsIf P l.toArray S oi v a) (hS : S w)
 (h : wpW P md l.toArray Q S n fuel (listed.setIfInBounds i true) (a.put oi.dst v) w) (hs : Region.noSelect l.toArray = true := by kernel_rfl) (hf : Region.free md l.toArray listed i = true := by kernel_rfl) (hr : (Region.ready md l.toArray listed).contains i = true := by kernel_rfl) (hwait : waitB md l.toArray n i = true := by kernel_rfl)
 (hQ : ∀ c a w, Q (.panic c) (a.put oi.dst v) w → Q (.panic c) a w := by exact fun _ _ _ h => h) : wpW P md l.toArray Q S n (fuel + 1) listed a w := wpW_take i hi hs hf hr hwait hQ hy hS h
theorem wq (i : Nat) {oi : Oper} {v : Value} {fuel : Nat} {listed : Array Bool} {a a' : Act} {w : World} (hS : S w)
 (h : wpW P md l.toArray Q S n fuel (listed.setIfInBounds i true) a' w) (hi : l[i]? = some oi := by rfl) (hy : YieldsIf P l.toArray S oi v a := by refine Or.inl ⟨by rfl, ?_⟩; intro w hSw; (try dsimp only at hSw); go_simp; try with_reducible rfl) (hp : a.put oi.dst v = a' := by (try simp only [putE]); rfl) (hs : Region.noSelect l.toArray = true := by kernel_rfl) (hf : Region.free md l.toArray listed i = true := by kernel_rfl) (hr : (Region.ready md l.toArray listed).contains i = true := by kernel_rfl) (hwait : waitB md l.toArray n i = true := by kernel_rfl)
 (hQ : ∀ c a w, Q (.panic c) (a.put oi.dst v) w → Q (.panic c) a w := by exact fun _ _ _ h => h) : wpW P md l.toArray Q S n (fuel + 1) listed a w := by subst hp; exact wpW_take i hi hs hf hr hwait hQ hy hS h
theorem wpW_one (i : Nat) {o : Oper} {fuel : Nat} {listed : Array Bool} {a : Act} {w : World} (ho : l[i]? = some o) (hr : Region.ready md l.toArray listed = [i])
 (h : ∀ K' : Act → World → Prop, Shut (∀ a w, S w → (S w → wpW P md l.toArray Q S n fuel (listed.setIfInBounds i true) a w) → K' a w) → if Region.wanted o (yielded l.toArray a.tmps) = true then Oper.wp P o a w K' Q else K' (a.put o.dst undef) w) :
 wpW P md l.toArray Q S n (fuel + 1) listed a w := by
 have ho' : l.toArray[i]? = some o := by simpa using ho
 refine ⟨fun h0 => (by rw [h0] at hr; cases hr), fun j hj => ?_⟩; rw [hr] at hj; have hji : j = i := by simpa using hj
 subst hji; exact wpOp_step ho' (fun K' hK => h K' (fun a w hS hW => hK a w ⟨fun _ => hS, hW hS⟩))
theorem wpW_last (i : Nat) {o : Oper} {fuel : Nat} {listed : Array Bool} {a : Act} {w : World} (ho : l[i]? = some o) (hr : Region.ready md l.toArray listed = [i]) (hn : n ≤ i)
 (h : ∀ K' : Act → World → Prop, Shut (∀ a w, wpW P md l.toArray Q S n fuel (listed.setIfInBounds i true) a w → K' a w) → if Region.wanted o (yielded l.toArray a.tmps) = true then Oper.wp P o a w K' Q else K' (a.put o.dst undef) w) :
 wpW P md l.toArray Q S n (fuel + 1) listed a w := by
 have ho' : l.toArray[i]? = some o := by simpa using ho
 refine ⟨fun h0 => (by rw [h0] at hr; cases hr), fun j hj => ?_⟩; rw [hr] at hj; have hji : j = i := by simpa using hj
 subst hji; exact wpOp_step ho' (fun K' hK => h K' (fun a w hW => hK a w ⟨fun hlt => absurd hlt (Nat.not_lt.2 hn), hW⟩))
theorem wpW_done {listed : Array Bool} {a : Act} {w : World} (hr : Region.ready md l.toArray listed = []) (h : Q .normal a w) : ∀ fuel, wpW P md l.toArray Q S n fuel listed a w
 | 0 => ⟨hr, h⟩
 | _ + 1 => ⟨fun _ => h, by rw [hr]; simp⟩
theorem wp_region_W (S : World → Prop) (n : Nat) {id : Nat} {a : Act} {w : World} (hm : P.follows .mixedOrders = true) (hS : S w.drew)
 (h : S w.drew → wpW P .any l.toArray Q S n l.toArray.size (Array.replicate l.toArray.size false) a w.drew) : (Code.region id l.toArray true).wp P Q a w :=
 wp_region_any hm (wpAny_of_W _ _ _ _ (h hS))
end
section
variable {P : Program} {l : List Oper} {Q : Exit → Act → World → Prop} {md : Region.Mode} {S : World → Prop} {n : Nat}
def AllW (P : Program) (md : Region.Mode) (l : List Oper) (Q : Exit → Act → World → Prop) (S : World → Prop) (n fuel : Nat) (listed : Array Bool) (a : Act) (w : World) (rs : List Nat) : Prop :=
 ∀ i ∈ rs, wpOp P l.toArray Q i (fun a' w' => (i < n → S w') ∧ wpW P md l.toArray Q S n fuel (listed.setIfInBounds i true) a' w') a w
theorem AllW.nil {fuel : Nat} {listed : Array Bool} {a : Act} {w : World} : AllW P md l Q S n fuel listed a w [] := fun _ h => by cases h
theorem AllW.cons {i : Nat} {o : Oper} {rs : List Nat} {fuel : Nat} {listed : Array Bool} {a : Act} {w : World} (ho : l[i]? = some o)
 (h : ∀ K' : Act → World → Prop, Shut (∀ a w, S w → (S w → wpW P md l.toArray Q S n fuel (listed.setIfInBounds i true) a w) → K' a w) → if Region.wanted o (yielded l.toArray a.tmps) = true then Oper.wp P o a w K' Q else K' (a.put o.dst undef) w)
 (hs : AllW P md l Q S n fuel listed a w rs) : AllW P md l Q S n fuel listed a w (i :: rs) := fun j hj => by
 have ho' : l.toArray[i]? = some o := by simpa using ho
 rcases List.mem_cons.1 hj with rfl | hj
 · exact wpOp_step ho' (fun K' hK => h K' (fun a w hS hW => hK a w ⟨fun _ => hS, hW hS⟩))
 · exact hs j hj
theorem wpW_all (rs : List Nat) {fuel : Nat} {listed : Array Bool} {a : Act} {w : World} (hr : Region.ready md l.toArray listed = rs) (hne : rs ≠ []) (h : AllW P md l Q S n fuel listed a w rs) : wpW P md l.toArray Q S n (fuel + 1) listed a w :=
 ⟨fun h0 => absurd (hr ▸ h0) hne, fun i hi => h i (hr ▸ hi)⟩
end
end Go.Proofs.YtcafhoobeggmeaaDoor
