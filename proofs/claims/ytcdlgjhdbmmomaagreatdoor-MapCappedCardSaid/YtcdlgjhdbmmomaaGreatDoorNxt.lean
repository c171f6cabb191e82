/- flow.Nexts, walked: the places of the blocks to which a block may go on; slices.IsSorted. -/
import Derived.Test.YtcdlgjhdbmmomaaGreatDoorFlwR
import Derived.Test.YtcdlgjhdbmmomaaGreatDoorEmtH
import Derived.Test.YtcdlgjhdbmmomaaGreatDoorShS
import Derived.Lib.OwnBridge
import Derived.Lib.SlicesCompact
import Derived.Deep.DeepCutAuto
import Derived.Deep.CutBlock
import Derived.Deep.LoopGhost
import Derived.Deep.QuietTactic
import Derived.BigQuiet
import Derived.IntWalk
import Derived.WalkLawsBesides
namespace Go.Proofs.YtcdlgjhdbmmomaaGreatDoor
open Go.RowKit Go.Deep
def nextsRaw (d : FlowD) (b : BlkD) : List Int :=
 if b.ends = 2 ∨ b.ends = 3 then [b.dst]
 else if b.ends = 4 then [b.dst, b.els]
 else match b.code.getLast? with
  | none => []
  | some c => if c.k = 24 ∧ 0 ≤ c.n ∧ c.n < d.tables.length then d.tables.getD c.n.toNat [] else []
def sortL (l : List Int) : List Int := l.mergeSort fun x y => decide (x ≤ y)
def nextsL (d : FlowD) (b : BlkD) : List Int := Lib.compact (sortL (nextsRaw d b))
theorem sortL_perm (l : List Int) : (sortL l).Perm l := List.mergeSort_perm l _
theorem sortL_sorted (l : List Int) : (sortL l).Pairwise (· ≤ ·) := by
 have h := List.pairwise_mergeSort (le := fun x y : Int => decide (x ≤ y)) (fun a b c h1 h2 => by simp at *; omega) (fun a b => by simp; omega) l; exact h.imp fun h => by simpa using h
theorem compact_sub (l : List Int) : (Lib.compact l).Sublist l := by
 have h := Lib.range_map_get l.toArray; have h2 : ((List.range l.length).map (l.toArray[·]!)) = l := by simpa using h
 have h3 : (Lib.compact l).Sublist ((List.range l.length).map (l.toArray[·]!)) := (List.filter_sublist).map _; rw [h2] at h3; exact h3
theorem compact_has (l : List Int) : ∀ j, j < l.length → l.toArray[j]! ∈ Lib.compact l := by
 intro j
 induction j using Nat.strongRecOn with
 | ind j ih =>
  intro hj; rcases hk : Lib.keeps l.toArray j with _ | _
  · have h0 : j ≠ 0 := by
     intro e; rw [e] at hk; simp [Lib.keeps] at hk
    have he : l.toArray[j]! = l.toArray[j - 1]! := by
     unfold Lib.keeps at hk; rw [decide_eq_false_iff_not] at hk; rcases Classical.em (l.toArray[j]! = l.toArray[j - 1]!) with e | e
     · exact e
     · exact absurd (.inr e) hk
    rw [he]; exact ih (j - 1) (by omega) (by omega)
  · unfold Lib.compact Lib.compactUpTo; exact List.mem_map.2 ⟨j, List.mem_filter.2 ⟨List.mem_range.2 hj, hk⟩, rfl⟩
theorem compact_mem {l : List Int} {x : Int} : x ∈ Lib.compact l ↔ x ∈ l := by
 refine ⟨fun h => (compact_sub l).subset h, fun h => ?_⟩; obtain ⟨j, hj⟩ := List.getElem?_of_mem h; obtain ⟨hl, he⟩ := List.getElem?_eq_some_iff.1 hj; have := compact_has l j hl; rw [getElem!_pos l.toArray j (by simpa using hl)] at this; simpa [he] using this
theorem nextsL_mem {d : FlowD} {b : BlkD} {x : Int} : x ∈ nextsL d b ↔ x ∈ nextsRaw d b := by
 unfold nextsL; rw [compact_mem, (sortL_perm _).mem_iff]
theorem nextsL_len (d : FlowD) (b : BlkD) : (nextsL d b).length ≤ (nextsRaw d b).length := by
 unfold nextsL; rw [← (sortL_perm (nextsRaw d b)).length_eq]; exact (compact_sub _).length_le
theorem nextsL_sorted (d : FlowD) (b : BlkD) : (nextsL d b).Pairwise (· ≤ ·) := (sortL_sorted _).sublist (compact_sub _)
theorem below_grw {B : Nat} {w0 w : World} (h : Below B w0 w) (hB : B ≤ w.heap.size) (os : Array Obj) : Below B w0 (Sort.grow w os) :=
 ⟨h.os, h.tape, h.output, Nat.le_trans h.size (by rw [Sort.size_grow]; omega), fun k hk => (Sort.heap_grow_old w os (Nat.lt_of_lt_of_le hk hB)).trans (h.block k hk)⟩
theorem sort_row {W : World} {B n c : Nat} {A : Option Addr} {L : List Int} (ho : W.ownsRow B 3 1 (.slice A n c) n (intsV .i64 L)) (hn : n ≤ 1000000) :
 Calls Tryz.prog 44 #[.slice A n c] W fun e W' => e = .returned (.tuple #[]) ∧ W'.ownsRow B 3 1 (.slice A n c) n (intsV .i64 (sortL L)) ∧ ∀ B0 w0, Below B0 w0 W → B0 ≤ B → Below B0 w0 W' := by
 have hlen : L.length = n := by have := ho.1; simpa [intsV] using this
 by_cases h0 : n = 0
 · subst h0; have e : L = [] := List.length_eq_zero_iff.1 hlen; refine (Sh.slices_Sort_int_none A c W).mono fun e1 w1 ⟨h1, h2⟩ => ⟨h1, ?_, fun B0 w0 hb _ => by rw [h2]; exact hb⟩
   have e3 : sortL [] = [] := by simp [sortL]
   rw [h2, e, e3]; rw [e] at ho; exact ho
 · obtain ⟨g, cap, e, hB, hg, hc, hm, hl, hH⟩ := Go.Lib.holds_of_ownsRow (enc := Value.int .i64) ho (by intro e; injection e with _ e; exact h0 e); injection e with e1 _ e3; subst e1 e3; have hcon := Sh.slices_Sort_int g 0 c L W hH hg (by omega); rw [hlen] at hcon; refine hcon.mono fun e1 w1 ⟨h1, q, os, h2⟩ => ⟨h1, ?_, fun B0 w0 hb hBB => ?_⟩
   · have h3 := Go.Lib.ownsRow_putRow (q := q) (k := n) ho (ys := sortL L) (by rw [(sortL_perm L).length_eq, hlen]) lr'; rw [List.take_of_length_le (by rw [(sortL_perm L).length_eq, hlen]; exact Nat.le_refl _)] at h3; rw [h2]; exact own_keep h3 (below_grw (Below.refl _ _) lr' os)
   · rw [h2]; have h4 : Below B0 w0 (Sort.putRow (Value.int .i64) (Sort.ahead W q) g 0 (sortL L).toArray) := Go.Lib.below_putRow hb (by omega); have h5 : (Sort.putRow (Value.int .i64) (Sort.ahead W q) g 0 (sortL L).toArray).heap.size = W.heap.size := by simp [Sort.putRow, Sort.mapBlock, Sort.ahead]
     exact below_grw h4 (by rw [h5]; omega) os
theorem compact_row {W : World} {B n c : Nat} {A : Option Addr} {L : List Int} (ho : W.ownsRow B 3 1 (.slice A n c) n (intsV .i64 L)) (hn : n ≤ 1000000) :
 Calls Tryz.prog 45 #[.slice A n c] W fun e W' => e = .returned (.slice A (Lib.compact L).length c) ∧ W'.ownsRow B 3 1 (.slice A (Lib.compact L).length c) (Lib.compact L).length (intsV .i64 (Lib.compact L)) ∧ ∀ B0 w0, Below B0 w0 W → B0 ≤ B → Below B0 w0 W' := by
 have hlen : L.length = n := by have := ho.1; simpa [intsV] using this
 have hcl := (compact_sub L).length_le
 by_cases h0 : n = 0
 · subst h0; have e : L = [] := List.length_eq_zero_iff.1 hlen; have e2 : Lib.compact L = [] := by rw [e]; rfl
   rw [e2]; refine (Sh.slices_Compact_int_empty A c W).mono fun e1 w1 ⟨h1, h2⟩ => ⟨h1, ?_, fun B0 w0 hb _ => by rw [h2]; exact hb⟩
   rw [h2]; rw [e] at ho; exact ho
 · obtain ⟨g, cap, e, hB, hg, hc, hm, hl, hH⟩ := Go.Lib.holds_of_ownsRow (enc := Value.int .i64) ho (by intro e; injection e with _ e; exact h0 e); injection e with e1 _ e3; subst e1 e3; have hcon := Sh.slices_Compact_int g 0 c L W hH (by omega) (by omega); rw [hlen] at hcon; refine hcon.mono fun e1 w1 ⟨h1, q, h2⟩ => ⟨h1, ?_, fun B0 w0 hb hBB => ?_⟩
   · have h3 := Go.Lib.ownsRow_putRow (q := q) (k := (Lib.compact L).length) ho (ys := Lib.compact L ++ List.replicate (n - (Lib.compact L).length) 0) (by rw [List.length_append, List.length_replicate]; omega) (by omega); rw [List.take_left] at h3; rw [h2]; exact h3
   · rw [h2]; exact Go.Lib.below_putRow hb (by omega)
set_option maxRecDepth 100000 in
theorem less_any (x y : Int) (w : World) : Calls Tryz.prog 115 #[.int .i64 x, .int .i64 y] w fun e w' => e = .returned (.bool (decide (x < y))) ∧ w' = w := by
 have qx : (x != x) = false := by simp
 have qy : (y != y) = false := by simp
 go_enter Tryz.func115, Tryz.ntmps115
 go_wp2
 go_ret
 exact ⟨rfl, rfl⟩
theorem infoIntN : (Tryz.prog.info? 3).map (fun i => (i.zero, i.size, i.bytes)) = some (some (.int .i64 0), 1, 8) := by kernel_rfl
theorem own_nil0 (w : World) (B : Nat) (e : TypeId) (sz : Nat) : w.ownsRow B e sz (.slice none 0 0) 0 [] := ⟨by simp, .inl ⟨rfl, rfl⟩⟩
theorem app_empty {w : World} {ops : Array Oper} {rest : List Oper} {o : Oper} {a : Act} {Q : Exit → Act → World → Prop} (hgd : o.guard = none) (s x : Operand) (ST ET sz by_ : Nat) (z : Value)
 (hu : Tryz.prog.underlying ST = some (.slice ET)) (hinfo : (Tryz.prog.info? ET).map (fun i => (i.zero, i.size, i.bytes)) = some (some z, sz, by_))
 (ho : o.op = .call { callee := .builtin .append, args := #[s, x], argTypes := #[ST, ST] }) (A : Option Addr) (c : Nat) (hs : a.eval s = .slice none 0 0) (hx : a.eval x = .slice A 0 c)
 (h : wpList Tryz.prog ops Q rest (a.put o.dst (.slice none 0 0)) w) : wpList Tryz.prog ops Q (o :: rest) a w := by
 obtain ⟨i0, hi, hz0, hz1, hz2⟩ := info_parts hinfo; refine wpList_plain hgd fun K hK => ?_
 have hrun : (Builtin.append_ #[ST, ST] o.type #[.slice none 0 0, .slice A 0 c]).run Tryz.prog w = .ok (.slice none 0 0) w := by
  cases A <;> simp [Builtin.append_, run_underlying hu, sizeOf, typeInfo, hi, Builtin.lenOf, Builtin.firstCells, loadCells, loadCellsFrom]
 unfold Oper.wp; simp [execOp, ho, resolve, invoke, builtin, hs, hx, hrun, Result.andThen]; exact hK _ _ h
theorem ints_one (l : List Int) : ∀ u ∈ intsV .i64 l, u.oneCell' = true := by
 intro u hu; unfold intsV at hu; obtain ⟨x, -, rfl⟩ := List.mem_map.1 hu
 rfl
theorem app_lies {w : World} {ops : Array Oper} {rest : List Oper} {o : Oper} {a : Act} {Q : Exit → Act → World → Prop} (hgd : o.guard = none) (s x : Operand) (ST ET sz by_ : Nat) (z : Value)
 (hu : Tryz.prog.underlying ST = some (.slice ET)) (hinfo : (Tryz.prog.info? ET).map (fun i => (i.zero, i.size, i.bytes)) = some (some z, sz, by_)) (hzs : z.cells.size = sz) (hsz : 0 < sz)
 (ho : o.op = .call { callee := .builtin .append, args := #[s, x], argTypes := #[ST, ST] }) (base : Nat) (v : Value) (n : Nat) (xs : List Value) (hs : a.eval s = v) (hown : w.ownsRow base ET sz v n xs)
 (ad : Addr) (m c : Nat) (cs : List Value) (hx : a.eval x = .slice (some ad) m c) (hcl : cs.length = m * sz) (hb : ∀ j u, cs[j]? = some u → w.cell? (ad.add j) = some u) (h1 : ∀ u ∈ cs, u.oneCell' = true) (hm : 0 < m)
 (hn : n + m ≤ maxLen) (hn2 : (n + m) * by_ ≤ 140737488355328) (hbase : base ≤ w.heap.size) (H : Nat) (hH : w.heap.size = H)
 (h : ∀ g' cap' w', w'.ownsRow base ET sz (.slice (some ⟨g', 0, none⟩) (n + m) cap') (n + m) (xs ++ cs) → w.grownBy w' v.ownBlock → (v.ownBlock = some g' ∨ g' = H) → g' < w'.heap.size → wpList Tryz.prog ops Q rest (a.put o.dst (.slice (some ⟨g', 0, none⟩) (n + m) cap')) w') : wpList Tryz.prog ops Q (o :: rest) a w := by
 obtain ⟨i0, hi, hz0, hz1, hz2⟩ := info_parts hinfo; exact wpList_append_lies w hgd s x ST ho base ET i0 z sz by_ hu hi hz0 hz1 hz2 hzs hsz v n xs hs hown ad m c cs hx hcl hb h1 hm hn hn2 hbase H hH h
def NxtPost (w : World) (L : List Int) (e : Ending) (w' : World) : Prop :=
 ∃ (A : Option Addr) (c : Nat), e = .returned (.tuple #[.slice A L.length c, .int .i64 0]) ∧ Below w.heap.size w w' ∧ w'.ownsRow w.heap.size 3 1 (.slice A L.length c) L.length (intsV .i64 L)
theorem nxt_tail {w W : World} {R : List Int} {A : Option Addr} {n c : Nat} (ho : W.ownsRow w.heap.size 3 1 (.slice A n c) n (intsV .i64 R)) (hb : Below w.heap.size w W) (hn : n ≤ 1000000) :
 Calls Tryz.prog 44 #[.slice A n c] W fun e W' => e = .returned (.tuple #[]) ∧ Below w.heap.size w W' ∧ Calls Tryz.prog 45 #[.slice A n c] W' fun e W2 => e = .returned (.slice A (Lib.compact (sortL R)).length c) ∧ Below w.heap.size w W2 ∧ W2.ownsRow w.heap.size 3 1 (.slice A (Lib.compact (sortL R)).length c) (Lib.compact (sortL R)).length (intsV .i64 (Lib.compact (sortL R))) := by
 refine (sort_row ho hn).mono fun e W' ⟨h1, h2, h3⟩ => ⟨h1, h3 _ _ hb lr', ?_⟩
 exact (compact_row h2 hn).mono fun e W2 ⟨k1, k2, k3⟩ => ⟨k1, k3 _ _ (h3 _ _ hb lr') lr', k2⟩
set_option maxHeartbeats 4000000 in
set_option maxRecDepth 100000 in
theorem nexts_any (d : FlowD) (xA yA zA : Option Addr) (xc yc zc : Nat) (w : World) (hF : FlowRd w xA xc yA yc zA zc d) (i : Nat) (b : BlkD) (hb : d.blocks[i]? = some b) (hfit : BlkFit d b) (hcl : b.code.length ≤ 100000) (ht : ∀ t ∈ d.tables, t.length ≤ 1000) :
 Calls Tryz.prog 17 #[.agg (flowV d xA yA zA xc yc zc), .int .i64 i] w (NxtPost w (nextsL d b)) := by
 have HPO : Hid (∀ e w' A c, e = .returned (.tuple #[.slice A (nextsL d b).length c, .int .i64 0]) → Below w.heap.size w w' → w'.ownsRow w.heap.size 3 1 (.slice A (nextsL d b).length c) (nextsL d b).length (intsV .i64 (nextsL d b)) → NxtPost w (nextsL d b) e w') := hd' fun e w' A c h1 h2 h3 => ⟨A, c, h1, h2, h3⟩
 unfold flowV; obtain ⟨nB, hB⟩ := ex' d.blocks.length
 obtain ⟨nT, hTt⟩ := ex' d.tables.length
 obtain ⟨nF, hFf⟩ := ex' d.firsts.length
 have hil : i < nB := by have := (List.getElem?_eq_some_iff.1 hb).1; omega
 obtain ⟨vb, g, o, hxA, hgl, hbr, hcs⟩ := hF.at hb
 have hxcap : nB ≤ xc := by
  obtain ⟨l0, e1, e2, -⟩ := hF; rw [← hB]; exact e2.2.1
 have HF := hd' hF; have HN := hd' (And.intro hB (And.intro hTt hFf)); have HFIT := hd' hfit; have HTB := hd' ht; rw [hB, hTt, hFf]; obtain ⟨bf, bst, bco, bat, ⟨lk, lld, la, lb, lnn, llb⟩, ben, bds, bel, bli⟩ := b; obtain ⟨cA, cc, aA, ac, liA, lic⟩ := vb; have HBR := hd' hbr; obtain ⟨NC, hNC⟩ := ex' bco.length
 simp only [hNC] at hcl; have c0 := hcs 0 _ rfl; have c1 := hcs 1 _ rfl; have c2 := hcs 2 _ rfl; have c3 := hcs 3 _ rfl; have c4 := hcs 4 _ rfl; have c5 := hcs 5 _ rfl; have c6 := hcs 6 _ rfl; have c7 := hcs 7 _ rfl; have c8 := hcs 8 _ rfl; have c9 := hcs 9 _ rfl; have c10 := hcs 10 _ rfl; have c11 := hcs 11 _ rfl; have c12 := hcs 12 _ rfl; have c13 := hcs 13 _ rfl; simp only [Nat.add_zero] at c0 c1 c2 c3 c4 c5 c6 c7 c8 c9 c10 c11 c12 c13; rw [hNC] at c2; have HNC := hd' hNC; have q0 : decide ((i : Int) < 0) = false := decide_eq_false (by omega)
 have q1 : decide ((nB : Int) ≤ (i : Int)) = false := decide_eq_false (by omega); have q1n : decide (nB ≤ i) = false := decide_eq_false (by omega); have hiI : (i : Int) < (nB : Int) := by omega
 have hi0 : (0 : Int) ≤ (i : Int) := by omega
 subst hxA; clear hB hTt hFf hb hcs hbr hF hfit ht hNC
 go_enter Tryz.func17, Tryz.ntmps17
 go_upto_region 1 with fail
 obtain ⟨Y, hY⟩ := ex' (w.alloc (.cells #[.slice (some ⟨g, o, none⟩) nB xc, .slice yA nT yc, .slice zA nF zc] 33))
 rw [hY]; have hfY : Blk Y w.heap.size 33 [.slice (some ⟨g, o, none⟩) nB xc, .slice yA nT yc, .slice zA nF zc] := by rw [← hY]; exact Blk.new w _ _
 have hbY : Below w.heap.size w Y := by rw [← hY]; exact (Below.refl _ _).alloc lr' _
 have HBY := hd' hbY; obtain ⟨BY, hBY⟩ := ex' w.heap.size
 have hgY : g < BY := by omega
 rw [hBY] at hfY ⊢; have HFY := hd' hfY; have f0 := hfY.cell 0 rfl; have fl := hfY.lt; have c0 := (hbY.cell (p := ⟨g, o + i * 14, none⟩) hgl).trans c0; have c1 := (hbY.cell (p := ⟨g, o + i * 14 + 1, none⟩) hgl).trans c1; have c2 := (hbY.cell (p := ⟨g, o + i * 14 + 2, none⟩) hgl).trans c2; have c3 := (hbY.cell (p := ⟨g, o + i * 14 + 3, none⟩) hgl).trans c3; have c4 := (hbY.cell (p := ⟨g, o + i * 14 + 4, none⟩) hgl).trans c4; have c5 := (hbY.cell (p := ⟨g, o + i * 14 + 5, none⟩) hgl).trans c5; have c6 := (hbY.cell (p := ⟨g, o + i * 14 + 6, none⟩) hgl).trans c6
 have c7 := (hbY.cell (p := ⟨g, o + i * 14 + 7, none⟩) hgl).trans c7; have c8 := (hbY.cell (p := ⟨g, o + i * 14 + 8, none⟩) hgl).trans c8; have c9 := (hbY.cell (p := ⟨g, o + i * 14 + 9, none⟩) hgl).trans c9; have c10 := (hbY.cell (p := ⟨g, o + i * 14 + 10, none⟩) hgl).trans c10; have c11 := (hbY.cell (p := ⟨g, o + i * 14 + 11, none⟩) hgl).trans c11; have c12 := (hbY.cell (p := ⟨g, o + i * 14 + 12, none⟩) hgl).trans c12; have c13 := (hbY.cell (p := ⟨g, o + i * 14 + 13, none⟩) hgl).trans c13; have hglY := Nat.lt_of_lt_of_le hgl hbY.size; clear hY hfY hbY hgl hgY
 go_upto_block 0 with fail
 obtain ⟨Z, hZ⟩ := ex' (Y.alloc (.cells #[.int .i64 bf, .int .i64 bst, .slice cA NC cc, .slice aA bat.length ac, .int .i64 lk, .int .i64 lld, .int .i64 la, .int .i64 lb, .int .i64 lnn, .bool llb, .int .i64 ben, .int .i64 bds, .int .i64 bel, .slice liA bli.length lic] 54))
 rw [hZ]; have htZ : Blk Z Y.heap.size 54 [.int .i64 bf, .int .i64 bst, .slice cA NC cc, .slice aA bat.length ac, .int .i64 lk, .int .i64 lld, .int .i64 la, .int .i64 lb, .int .i64 lnn, .bool llb, .int .i64 ben, .int .i64 bds, .int .i64 bel, .slice liA bli.length lic] := by rw [← hZ]; exact Blk.new Y _ _
 have hbZ : Below Y.heap.size Y Z := by rw [← hZ]; exact (Below.refl _ _).alloc lr' _
 have HBZ := hd' (HBY.out.trans (hbZ.mono HBY.out.size)); have HFZ := hd' (HFY.out.keep hbZ); have hbs := HBZ.out.size; have t2 := htZ.cell 2 rfl; have t10 := htZ.cell 10 rfl; have t11 := htZ.cell 11 rfl; have t12 := htZ.cell 12 rfl; have tl := htZ.lt; obtain ⟨BZ, hBZ⟩ := ex' Y.heap.size
 rw [hBZ] at htZ t2 t10 t11 t12 tl ⊢; clear hZ htZ hbZ hBZ c0 c1 c2 c3 c4 c5 c6 c7 c8 c9 c10 c11 c12 c13 f0 fl; have hends := HFIT.out.ends; have hcode := HFIT.out.code; simp only at hends hcode; obtain ⟨R, hR⟩ := ex' (nextsRaw d ⟨bf, bst, bco, bat, ⟨lk, lld, la, lb, lnn, llb⟩, ben, bds, bel, bli⟩)
 have HR := hd' hR; unfold nextsRaw at hR; simp only at hR; have HBYE := hd' hBY; clear hBY
 go_cut [7] (fun s7 wx => ∃ (gA : Option Addr) (n cA' : Nat), s7 = .slice gA n cA' ∧ Hid (Below w.heap.size w wx ∧ wx.ownsRow w.heap.size 3 1 (.slice gA n cA') n (intsV .i64 R) ∧ n ≤ 1000000))
 case first =>
  by_cases h23 : ben = 2 ∨ ben = 3
  · rw [if_pos h23] at hR
    have q23 : ((ben == 2) = true) ∨ ((ben == 2) = false ∧ (ben == 3) = true) := by
     rcases h23 with h | h
     · left; simp [h]
     · right; simp [h]
    have HQ := hd' q23; clear h23 hends hcode q23; rcases HQ.out with q | ⟨q, q'⟩
    all_goals
     go_wp2_with (first | (at_builtin; refine app_one rfl _ _ 27 3 1 8 _ Tryz.underlying27 infoIntN rfl (by decide) rfl w.heap.size _ 0 _ rfl (own_nil0 _ _ _ _) Z.heap.size 1 rfl [.int .i64 bds] 3 (0, 0) (heap_alloc_new Z _) rfl (by simp [Value.oneCell']) (by omega) (by omega) (by simp; omega) (Z.heap.size + 1) (by simp) ?a1))
     case a1 =>
      intro g3 c3 w3 ho3 hg3 _ _
      go_wp2_with fail
      go_meet
      exact ⟨_, _, _, rfl, hd' ⟨(HBZ.out.alloc HBZ.out.size _).grown hg3 (by simp; omega) (fun k e => by cases e), by rw [← hR]; exact ho3, by omega⟩⟩
  · rw [if_neg h23] at hR
    by_cases h4 : ben = 4
    · rw [if_pos h4] at hR; have q2 : (ben == 2) = false := by simp [h4]
      have q3 : (ben == 3) = false := by simp [h4]
      have q4 : (ben == 4) = true := by simp [h4]
      clear h23 h4 hends hcode
      go_wp2_with (first | (at_builtin; refine app_lies rfl _ _ 27 3 1 8 _ Tryz.underlying27 infoIntN rfl (by decide) rfl w.heap.size _ 0 _ rfl (own_nil0 _ _ _ _) ⟨Z.heap.size, 0, none⟩ 2 2 [.int .i64 bds, .int .i64 bel] rfl rfl (by simpa using World.news_of_block (heap_alloc_new Z (.cells #[.int .i64 bds, .int .i64 bel] 3))) (by simp [Value.oneCell']) (by decide) (by decide) (by omega) (by simp; omega) (Z.heap.size + 1) (by simp) ?a1))
      case a1 =>
       intro g3 c3 w3 ho3 hg3 _ _
       go_wp2_with fail
       go_meet
       exact ⟨_, _, _, rfl, hd' ⟨(HBZ.out.alloc HBZ.out.size _).grown hg3 (by simp; omega) (fun k e => by cases e), by rw [← hR]; exact ho3, by omega⟩⟩
    · rw [if_neg h4] at hR; have h1 : ben = 1 := by omega
      have q2 : (ben == 2) = false := by simp [h1]
      have q3 : (ben == 3) = false := by simp [h1]
      have q4 : (ben == 4) = false := by simp [h1]
      have hne := hcode h1; obtain ⟨NK, hNK⟩ : ∃ NK, NC = NK + 1 := ⟨NC - 1, by have := List.length_pos_iff.2 hne; have := HNC.out; omega⟩
      obtain ⟨ci, hci⟩ : ∃ ci, bco[NK]? = some ci := ⟨_, gE' (by have := HNC.out; omega)⟩
      have hla : bco.getLast? = some ci := by
       rw [List.getLast?_eq_getElem?]; have := HNC.out; rw [show bco.length - 1 = NK by omega]; exact hci
      rw [hla] at hR; simp only at hR; obtain ⟨cg, co, hcA, hcgl, hcc⟩ := ((HBR.out.1.1.below HBZ.out).more HBZ.out.size) (by intro e; have h1 := insR_at hci 0 _ rfl; simp only at e; rw [e] at h1; simp at h1)
      simp only at hcA hcc; have hcap : NC ≤ cc := by have := HBR.out.1.2.1; have h2 := HNC.out; simp only at this; omega
      subst hcA; obtain ⟨ik, id, ia, ib, inn, il⟩ := ci; have k0 := hcc _ _ (insR_at hci 0 _ rfl); have k4 := hcc _ _ (insR_at hci 4 _ rfl); simp only [Nat.add_zero, ← Nat.add_assoc] at k0 k4; have qk : IntKind.i64.wrap ((NC : Int) - 1) = (NK : Int) := by rw [IntWalk.i64_in _ (by omega)]; omega
      have hNK0 : (0 : Int) ≤ (NK : Int) := by omega
      have hNK1 : (NK : Int) < (NC : Int) := by omega
      have qp : decide (0 < (NC : Int)) = true := decide_eq_true (by omega); have qpn : decide (0 < NC) = true := decide_eq_true (by omega); have HNKE := hd' hNK; simp only at hR; clear h23 h4 h1 hends hcode hne hci hcc hla hNK
      by_cases h24 : ik = 24
      · have q24 : (ik == 24) = true := by simp [h24]
        by_cases hin : 0 ≤ inn ∧ inn < nT
        · obtain ⟨tn, rfl⟩ := Int.eq_ofNat_of_zero_le hin.1; have htn2 : tn < nT := by omega
          rw [if_pos ⟨h24, by omega, by have := HN.out.2.1; omega⟩] at hR; obtain ⟨l0, -, -, -, ⟨tvs, ht1, ht2, ht3⟩, -⟩ := HF.out; obtain ⟨t, ht⟩ : ∃ t, d.tables[tn]? = some t := ⟨_, gE' (by have := HN.out.2.1; omega)⟩
          obtain ⟨tA, tc, hv, hrt⟩ := ht3 tn t ht; have hdt : d.tables.getD ((tn : Int)).toNat [] = t := by rw [Int.toNat_natCast, List.getD_eq_getElem?_getD, ht]; rfl
          rw [hdt] at hR; have htl := HTB.out t (mG' ht); obtain ⟨yg, yo, hyA, hygl, hyc⟩ := (ht2.1.below HBZ.out).more HBZ.out.size |>.at hv; have hycap : nT ≤ yc := by have := ht2.2.1; have := HN.out.2.1; omega
          subst hyA; have f1 := HFZ.out.cell 1 rfl; have fl := HFZ.out.lt; have q0 : decide (0 ≤ (tn : Int)) = true := decide_eq_true (by omega); have q1 : decide ((tn : Int) < (nT : Int)) = true := decide_eq_true (by omega); have q1n : decide (tn < nT) = true := decide_eq_true (by omega); have htnI : (tn : Int) < (nT : Int) := by omega
          have htn0 : (0 : Int) ≤ (tn : Int) := by omega
          have hyglZ := hygl; obtain ⟨tl, htle⟩ := ex' t.length
          rw [htle] at htl hyc; have HRT := hd' (And.intro hrt htle); clear h24 hin hrt ht1 ht2 ht3 ht hv hdt htle; rcases Nat.eq_zero_or_pos tl with h0 | h0
          · subst h0
            go_wp2_with (first | (at_builtin; refine app_empty rfl _ _ 27 3 1 8 _ Tryz.underlying27 infoIntN rfl _ _ rfl rfl ?_))
            go_meet
            have e : R = [] := by rw [← hR]; exact List.length_eq_zero_iff.1 HRT.out.2
            exact ⟨_, _, _, rfl, hd' ⟨HBZ.out, by rw [e]; exact own_nil0 _ _ _ _, by omega⟩⟩
          · obtain ⟨tg, tto, htA, htgl, htc⟩ := (HRT.out.1.1.below HBZ.out).more HBZ.out.size (by intro e; have h3 := HRT.out.2; have h2 := congrArg List.length e; simp [intsV] at h2; rw [h2] at h3; simp at h3; omega); subst htA; have HA1 : Hid ((intsV .i64 t).length = tl * 1) := hd' (by have := HRT.out.2; simp [intsV]; omega); have HA2 : Hid (∀ j u, (intsV .i64 t)[j]? = some u → Z.cell? ((⟨tg, tto, none⟩ : Addr).add j) = some u) := hd' fun j u hu => by have h := htc j u hu; unfold Addr.add; split; (rename_i e; rw [e] at h; exact h); exact h
            have HA3 : Hid (0 < tl ∧ 0 + tl ≤ maxLen ∧ (0 + tl) * 8 ≤ 140737488355328) := hd' ⟨h0, by unfold maxLen; omega, by omega⟩
            go_wp2_with (first | (at_builtin; refine app_lies rfl _ _ 27 3 1 8 _ Tryz.underlying27 infoIntN rfl (by decide) rfl w.heap.size _ 0 _ rfl (own_nil0 _ _ _ _) ⟨tg, tto, none⟩ tl tc (intsV .i64 t) rfl HA1.out HA2.out (ints_one _) HA3.out.1 HA3.out.2.1 HA3.out.2.2 HBZ.out.size Z.heap.size rfl ?a1))
            case a1 =>
             intro g3 c3 w3 ho3 hg3 _ _
             go_wp2_with fail
             go_meet
             exact ⟨_, _, _, rfl, hd' ⟨HBZ.out.grown hg3 HBZ.out.size (fun k e => by cases e), by simpa [hR] using ho3, by omega⟩⟩
        · rw [if_neg (by intro h; exact hin ⟨h.2.1, by have := HN.out.2.1; omega⟩)] at hR; have f1 := HFZ.out.cell 1 rfl; have fl := HFZ.out.lt
          have hqq : (decide (0 ≤ inn) = false) ∨ (decide (0 ≤ inn) = true ∧ decide (inn < (nT : Int)) = false) := by
           rcases Classical.em (0 ≤ inn) with h | h
           · exact .inr ⟨decide_eq_true h, decide_eq_false (by omega)⟩
           · exact .inl (decide_eq_false h)
          have HQ := hd' hqq; clear h24 hin hqq; rcases HQ.out with q | ⟨q, q'⟩
          all_goals
           go_wp2_with fail
           go_meet
           exact ⟨_, _, _, rfl, hd' ⟨HBZ.out, by rw [← hR]; exact own_nil0 _ _ _ _, by omega⟩⟩
      · have q24 : (ik == 24) = false := by simp [h24]
        rw [if_neg (by intro h; exact h24 h.1)] at hR; clear h24
        go_wp2_with fail
        go_meet
        exact ⟨_, _, _, rfl, hd' ⟨HBZ.out, by rw [← hR]; exact own_nil0 _ _ _ _, by omega⟩⟩
 case rest =>
  obtain ⟨gA, n, cA', rfl, HX⟩ := hcut; clear hends hcode hR
  go_wp2_with fail
  refine (nxt_tail (w := w) HX.out.2.1 HX.out.1 HX.out.2.2).mono ?_; rintro e w5 ⟨rfl, hb5, hcp⟩; have HCP := hd' hcp; clear hcp hb5
  go_wp2_with fail
  refine HCP.out.mono ?_; rintro e w6 ⟨rfl, hb6, ho6⟩; have HO6 := hd' (And.intro hb6 ho6); clear hb6 ho6
  go_wp2_with fail
  have hnx : nextsL d ⟨bf, bst, bco, bat, ⟨lk, lld, la, lb, lnn, llb⟩, ben, bds, bel, bli⟩ = Lib.compact (sortL R) := by unfold nextsL; rw [HR.out]
  refine bodyPost_ret (v := .tuple #[.slice gA (Lib.compact (sortL R)).length cA', .int .i64 0]) (by simp [results, Tryz.results17, go_sem]) rfl (HPO.out _ _ gA cA' (by rw [hnx]) HO6.out.1 ?_); rw [hnx]; exact HO6.out.2
theorem tables_len {T : Int} : ∀ {ts : List (List Int)}, tablesGo T ts = 0 → ∀ t ∈ ts, t.length ≤ 20
 | [], _, t, ht => by cases ht
 | x :: r, h, t, ht => by
  unfold tablesGo at h
  split at h
  · omega
  · split at h
    · omega
    · rcases List.mem_cons.1 ht with rfl | ht
      · omega
      · exact tables_len h t ht
theorem check_tabs {m : Img} (h : checkE m = 0) : (∀ t ∈ m.tables, t.length ≤ 20) ∧ m.tables.length ≤ 20 := by
 unfold checkE at h
 split at h
 · omega
 split at h
 · omega
 split at h
 · omega
 split at h
 · omega
 unfold tailE at h
 split at h
 · rename_i h1
   exact ⟨tables_len h1, by omega⟩
 · omega
def mostN (b : BlkD) : Nat := if b.ends = 1 then 20 else if b.ends = 4 then 2 else 1
theorem PgmF.nexts {m : Img} {ld : Int → Bool} {bm : Int → Option Int} {S : List FSp} {gs : List (List FSp)} {d : FlowD} (hc : checkE m = 0) (h : PgmF m ld bm S gs d) {i : Nat} {b : BlkD} (hb : d.blocks[i]? = some b) :
 (nextsRaw d b).length ≤ mostN b ∧ ∀ x ∈ nextsRaw d b, 0 ≤ x ∧ x < d.blocks.length ∧ (d.blocks.getD x.toNat blkZ).fn = b.fn := by
 have hf := h.fit hb; have h4 := hf.ends; have hd := hf.dst; have he := hf.els; unfold nextsRaw mostN
 by_cases h23 : b.ends = 2 ∨ b.ends = 3
 · rw [if_pos h23, if_neg (by omega), if_neg (by omega)]; refine ⟨Nat.le_refl _, fun x hx => ?_⟩; rw [List.mem_singleton] at hx; rw [hx]; exact hd (by omega)
 · rw [if_neg h23]
   by_cases hb4 : b.ends = 4
   · rw [if_pos hb4, if_neg (by omega), if_pos hb4]; refine ⟨Nat.le_refl _, fun x hx => ?_⟩; simp only [List.mem_cons, List.not_mem_nil, or_false] at hx; rcases hx with rfl | rfl
     · exact hd (by omega)
     · exact he hb4
   · rw [if_neg hb4, if_pos (by omega)]; obtain ⟨a, y, g, -, -, hyS, hg, hgl, hen⟩ := h.ends hb
     have hfin : b.code.getLast? = some (finPl m.funcs y.2) := by
      cases hen with
      | branch j z r z' r' h1 => omega
      | jump j z r h1 => omega
      | stop _ _ _ h4 => exact h4
      | fall z' r' h1 => omega
     rw [hfin]; simp only
     split
     · rename_i hk
       obtain ⟨hk, hn0, hn1⟩ := hk
       have hyk : y.2.i.k = 24 ∧ finPl m.funcs y.2 = y.2.i := by
        unfold finPl at hk ⊢
        split at hk
        · rename_i e
          simp only at hk; omega
        · rename_i e
          rw [if_neg e]; exact ⟨hk, rfl⟩
       rw [hyk.2] at hn0 hn1 ⊢
       have hy1 : y.1 = b.fn := by
        obtain ⟨x, r, hg2, -, bf, -, -⟩ := h.blk hb; rw [hg] at hg2; injection hg2 with hg2; subst hg2; rw [bf]; exact h.fnAll hg y (List.mem_of_mem_getLast? hgl)
       obtain ⟨-, htab⟩ := h.tab y hyS hyk.1
       obtain ⟨t, ht⟩ : ∃ t, m.tables[y.2.i.n.toNat]? = some t := by
        rw [h.tables, List.length_map] at hn1; exact ⟨_, gE' (by omega)⟩
       have hdt : d.tables.getD y.2.i.n.toNat [] = t.map fun a => (bm a).getD 0 := by
        rw [List.getD_eq_getElem?_getD, h.tables, List.getElem?_map, ht]
        rfl
       rw [hdt]; refine ⟨by rw [List.length_map]; exact (check_tabs hc).1 t (mG' ht), fun x hx => ?_⟩; obtain ⟨a, ha, rfl⟩ := List.mem_map.1 hx; obtain ⟨j, z, r, hj, hz, hz1⟩ := htab t ht a ha; have hbm := h.bm j z r hj; rw [hz] at hbm; rw [hbm]; have hjl := (List.getElem?_eq_some_iff.1 hj).1; have hbj : d.blocks[j]? = some (joinB bm (blkOf m (z :: r))) := by rw [h.blocks, List.getElem?_map, hj]; rfl
       have hlen := h.few.1; refine ⟨Int.natCast_nonneg j, by simp only [Option.getD_some]; omega, ?_⟩; rw [Option.getD_some, Int.toNat_natCast, List.getD_eq_getElem?_getD, hbj, ← hy1, ← hz1]; exact (blk_f m bm z r).1
     · exact ⟨Nat.zero_le _, fun x hx => by cases hx⟩
theorem own_le {w : World} {base : Nat} {e : TypeId} {size n c : Nat} {A : Option Addr} {xs : List Value} (h : w.ownsRow base e size (.slice A n c) n xs) : n ≤ c := by
 rcases h.2 with ⟨e, -⟩ | ⟨g, cap, cur, e, -, -, hn, -⟩
 · injection e with _ e1 e2; omega
 · injection e with _ _ e2; omega
end Go.Proofs.YtcdlgjhdbmmomaaGreatDoor
