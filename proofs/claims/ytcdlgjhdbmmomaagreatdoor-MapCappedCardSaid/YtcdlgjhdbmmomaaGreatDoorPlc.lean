/- place: edges and flows are looked at, walked. -/
import Derived.Test.YtcdlgjhdbmmomaaGreatDoorRegX
import Derived.Test.YtcdlgjhdbmmomaaGreatDoorFlwR
import Derived.Test.YtcdlgjhdbmmomaaGreatDoorEmtH
import Derived.Deep.DeepCutAuto
import Derived.Deep.CutBlock
import Derived.Deep.LoopGhost
import Derived.Deep.QuietTactic
import Derived.BigQuiet
import Derived.IntWalk
import Derived.WalkLawsBesides
namespace Go.Proofs.YtcdlgjhdbmmomaaGreatDoor
open Go.RowKit Go.Deep
structure EdgD where
 f : Int
 t : Int
 c : Int
def edgC (e : EdgD) : List Value := [.int .i64 e.f, .int .i64 e.t, .int .i64 e.c]
def edgV (l : List EdgD) : List Value := l.flatMap edgC
theorem edgV_at {l : List EdgD} {j : Nat} {x : EdgD} (h : l[j]? = some x) (q : Nat) (u : Value) (hu : (edgC x)[q]? = some u) : (edgV l)[j * 3 + q]? = some u :=
 flat_at edgC 3 (fun _ => rfl) l j x h q u (by have h1 := (List.getElem?_eq_some_iff.1 hu).1; simpa [edgC] using h1) hu
theorem RdG.atE {w : World} {B : Nat} {A : Option Addr} {L : List EdgD} (h : RdG w B A (edgV L)) {j : Nat} {e : EdgD} (hv : L[j]? = some e) :
 ∃ b o, A = some ⟨b, o, none⟩ ∧ b < B ∧ w.cell? ⟨b, o + j * 3, none⟩ = some (.int .i64 e.f) ∧ w.cell? ⟨b, o + j * 3 + 1, none⟩ = some (.int .i64 e.t) ∧ w.cell? ⟨b, o + j * 3 + 2, none⟩ = some (.int .i64 e.c) := by
 have h0 := edgV_at hv 0 _ rfl; have h1 := edgV_at hv 1 _ rfl; have h2 := edgV_at hv 2 _ rfl; rw [Nat.add_zero] at h0; obtain ⟨b, o, e, hb, hc⟩ := h (by intro e; rw [e] at h0; simp at h0); exact ⟨b, o, e, hb, hc _ _ h0, by rw [Nat.add_assoc]; exact hc _ _ h1, by rw [Nat.add_assoc]; exact hc _ _ h2⟩
def EdgBad (n : Int) (e : EdgD) : Prop := e.f < 0 ∨ n ≤ e.f ∨ e.t < 0 ∨ n ≤ e.t ∨ e.c < 1 ∨ 1073741824 < e.c
instance (n : Int) (e : EdgD) : Decidable (EdgBad n e) := by unfold EdgBad; infer_instance
def EdgOld : Option EdgD → EdgD → Prop
 | none, _ => False
 | some q, e => e.f < q.f ∨ q.f = e.f ∧ e.t ≤ q.t
instance (p : Option EdgD) (e : EdgD) : Decidable (EdgOld p e) := by cases p <;> unfold EdgOld <;> infer_instance
def edgGo (n : Int) : Option EdgD → List EdgD → Int
 | _, [] => 0
 | p, e :: r => if EdgBad n e then 2 else if EdgOld p e then 8 else edgGo n (some e) r
def lastE (l : List EdgD) : Nat → Option EdgD
 | 0 => none
 | i + 1 => l[i]?
theorem dropE {l : List EdgD} {k : Nat} {x : EdgD} (h : l[k]? = some x) : l.drop k = x :: l.drop (k + 1) := by
 obtain ⟨hk, he⟩ := List.getElem?_eq_some_iff.1 h; rw [List.drop_eq_getElem_cons hk, he]
set_option maxHeartbeats 4000000 in
set_option maxRecDepth 100000 in
theorem edges_any (l : List EdgD) (A : Option Addr) (c : Nat) (N : Int) (w : World) (hR : RdG w w.heap.size A (edgV l)) (hc : l.length ≤ c) (hl : l.length ≤ 1000000) :
 Calls Tryz.prog 19 #[.slice A l.length c, .int .i64 N] w fun e w' => e = .returned (.int .i64 (edgGo N none l)) ∧ Below w.heap.size w w' := by
 obtain ⟨R, hRe⟩ := ex' (edgGo N none l)
 obtain ⟨n, hn⟩ := ex' l.length
 rw [hRe, hn]; rw [hn] at hc hl; have HR := hd' hR; have HN := hd' hn; have HRE : Hid (edgGo N (lastE l 0) (l.drop 0) = R) := hd' hRe; clear hR hn hRe
 go_enter Tryz.func19, Tryz.ntmps19
 go_wp2_with fail
 go_loopg [9] n (fun gk s wr => ∃ i : Nat, i ≤ n ∧ s = .int .i64 i ∧ Hid (Below w.heap.size w wr) ∧ Hid (edgGo N (lastE l i) (l.drop i) = R) ∧ n - i ≤ gk)
 case atStart => exact ⟨0, Nat.zero_le _, rfl, Below.refl _ _, HRE, Nat.le_refl _⟩
 case round =>
  obtain ⟨i, hi, rfl, HB, HG, hgk⟩ := hrel
  rename World => wr
  by_cases hlt : i < n
  · have hltI : (i : Int) < (n : Int) := by omega
    obtain ⟨x, hx⟩ : ∃ x, l[i]? = some x := ⟨_, gE' (by have := HN.out; omega)⟩
    obtain ⟨g, o, hA, hg, c0, c1, c2⟩ := (HR.out.below HB.out).atE hx; have hgo := HG.out; rw [dropE hx] at hgo; unfold edgGo at hgo; have HX := hd' hx; have HA := hd' hA; have hi0 : (0 : Int) ≤ (i : Int) := by omega
    have hglw := Nat.lt_of_lt_of_le hg HB.out.size; subst hA; obtain ⟨ef, et, ec⟩ := x; simp only at c0 c1 c2
    go_upto_region 4 with fail
    obtain ⟨V, hV⟩ := ex' (wr.alloc (.cells #[.int .i64 ef, .int .i64 et, .int .i64 ec] 43))
    rw [hV]; have hbk : Blk V wr.heap.size 43 [.int .i64 ef, .int .i64 et, .int .i64 ec] := by rw [← hV]; exact Blk.new wr _ _
    have hbV : Below wr.heap.size wr V := by rw [← hV]; exact (Below.refl _ _).alloc lr' _
    have HBV := hd' (HB.out.trans (hbV.mono HB.out.size)); have e0 := hbk.cell 0 rfl; have e1 := hbk.cell 1 rfl; have e2 := hbk.cell 2 rfl; have el := hbk.lt; obtain ⟨BV, hBV⟩ := ex' wr.heap.size
    rw [hBV] at e0 e1 e2 el ⊢; clear hV hbk hbV hBV c0 c1 c2
    by_cases hbad : EdgBad N ⟨ef, et, ec⟩
    · rw [if_pos hbad] at hgo
      have hq : (decide (ef < 0) = true) ∨ (decide (ef < 0) = false ∧ decide (N ≤ ef) = true) ∨ (decide (ef < 0) = false ∧ decide (N ≤ ef) = false ∧ decide (et < 0) = true) ∨
       (decide (ef < 0) = false ∧ decide (N ≤ ef) = false ∧ decide (et < 0) = false ∧ decide (N ≤ et) = true) ∨ (decide (ef < 0) = false ∧ decide (N ≤ ef) = false ∧ decide (et < 0) = false ∧ decide (N ≤ et) = false ∧ decide (ec < 1) = true) ∨
       (decide (ef < 0) = false ∧ decide (N ≤ ef) = false ∧ decide (et < 0) = false ∧ decide (N ≤ et) = false ∧ decide (ec < 1) = false ∧ decide (1073741824 < ec) = true) := by
       unfold EdgBad at hbad; simp only [decide_eq_true_eq, decide_eq_false_iff_not]; simp only at hbad; omega
      have HQ := hd' hq; have HGO := hd' hgo; clear hbad hq hgo; rcases HQ.out with q | ⟨q, q1⟩ | ⟨q, q1, q2⟩ | ⟨q, q1, q2, q3⟩ | ⟨q, q1, q2, q3, q4⟩ | ⟨q, q1, q2, q3, q4, q5⟩
      all_goals
       go_wp2_with fail
       go_ret
       exact ⟨by rw [← HGO.out]; rfl, HBV.out⟩
    · rw [if_neg hbad] at hgo
      have hq : decide (ef < 0) = false ∧ decide (N ≤ ef) = false ∧ decide (et < 0) = false ∧ decide (N ≤ et) = false ∧ decide (ec < 1) = false ∧ decide (1073741824 < ec) = false := by
       unfold EdgBad at hbad; simp only [decide_eq_false_iff_not]; simp only at hbad; omega
      obtain ⟨q, q1, q2, q3, q4, q5⟩ := hq
      go_upto_region 6 with fail
      rcases Nat.eq_zero_or_pos i with h0 | h0
      · subst h0; have hno : ¬ EdgOld (lastE l 0) ⟨ef, et, ec⟩ := fun h => h
        rw [if_neg hno] at hgo; have HGO := hd' hgo; clear hbad hno hgo
        go_quiet (fail)
        go_wp2_with fail
        go_roundg (n - 1)
        case measure => omega
        case rel => exact ⟨1, by omega, (by go_num), hd' (below_drewN HBV.out _), hd' (by rw [show lastE l 1 = l[0]? from rfl, HX.out]; exact HGO.out), Nat.le_refl _⟩
      · obtain ⟨k, rfl⟩ : ∃ k, i = k + 1 := ⟨i - 1, by omega⟩
        obtain ⟨y, hy⟩ : ∃ y, l[k]? = some y := ⟨_, gE' (by have := HN.out; omega)⟩
        have hla : lastE l (k + 1) = some y := hy; rw [hla] at hgo; obtain ⟨pf, pt, pc⟩ := y; obtain ⟨g2, o2, hA2, -, d0, d1, -⟩ := (HR.out.below HBV.out).atE hy; injection hA2 with hA2; injection hA2 with e3 e4; subst e3 e4; simp only at d0 d1; have qi : decide (0 < ((k + 1 : Nat) : Int)) = true := decide_eq_true (by omega); have qin : decide (0 < k + 1) = true := decide_eq_true (by omega); have qk : IntKind.i64.wrap (((k + 1 : Nat) : Int) - 1) = (k : Int) := by rw [IntWalk.i64_in _ (by omega)]; omega
        have hk0 : (0 : Int) ≤ (k : Int) := by omega
        have hk1 : (k : Int) < (n : Int) := by omega
        by_cases hold : EdgOld (some ⟨pf, pt, pc⟩) ⟨ef, et, ec⟩
        · rw [if_pos hold] at hgo
          have hq : (decide (ef < pf) = true) ∨ (decide (ef < pf) = false ∧ (pf == ef) = true ∧ decide (et ≤ pt) = true) := by
           unfold EdgOld at hold; simp only [decide_eq_true_eq, decide_eq_false_iff_not, beq_iff_eq]; simp only at hold; omega
          have HQ := hd' hq; have HGO := hd' hgo; clear hbad hold hq hgo hla hy; rcases HQ.out with r | ⟨r, r1, r2⟩
          all_goals
           go_quiet (fail)
           go_wp2_with fail
           go_ret
           exact ⟨by rw [← HGO.out]; rfl, below_drewN HBV.out _⟩
        · rw [if_neg hold] at hgo
          have hq : (decide (ef < pf) = false ∧ (pf == ef) = false) ∨ (decide (ef < pf) = false ∧ (pf == ef) = true ∧ decide (et ≤ pt) = false) := by
           unfold EdgOld at hold; simp only [decide_eq_false_iff_not, beq_iff_eq, beq_eq_false_iff_ne]; simp only at hold; omega
          have HQ := hd' hq; have HGO := hd' hgo; clear hbad hold hq hgo hla hy; rcases HQ.out with ⟨r, r1⟩ | ⟨r, r1, r2⟩
          all_goals
           go_quiet (fail)
           go_wp2_with fail
           go_roundg (n - (k + 1 + 1))
           case measure => omega
           case rel => exact ⟨k + 1 + 1, by omega, (by go_num), hd' (below_drewN HBV.out _), hd' (by rw [show lastE l (k + 1 + 1) = l[k + 1]? from rfl, HX.out]; exact HGO.out), Nat.le_refl _⟩
  · obtain rfl : i = n := by omega
    have hltI : ¬ (i : Int) < (i : Int) := by omega
    have hgo := HG.out; rw [List.drop_eq_nil_of_le (by rw [HN.out]; exact Nat.le_refl _)] at hgo; have HGO := hd' hgo; clear hgo
    go_wp2
    go_ret
    exact ⟨by rw [← HGO.out]; rfl, HB.out⟩
def BlkOld (d : FlowD) (i : Nat) (b : BlkD) : Prop := b.fn < 0 ∨ (d.firsts.length : Int) ≤ b.fn ∨ 0 < i ∧ b.fn < (d.blocks.getD (i - 1) blkZ).fn
def FstOld (d : FlowD) (i : Nat) (n : Int) : Prop := n < 0 ∨ (d.blocks.length : Int) ≤ n ∨ (d.blocks.getD n.toNat blkZ).fn ≠ (i : Int) ∨ 0 < n ∧ (d.blocks.getD (n.toNat - 1) blkZ).fn = (i : Int)
def FlowFit (d : FlowD) : Prop := (∀ (i : Nat) (b : BlkD), d.blocks[i]? = some b → ¬ BlkOld d i b) ∧ ∀ (i : Nat) (n : Int), d.firsts[i]? = some n → ¬ FstOld d i n
open Classical in
noncomputable def fitE (d : FlowD) : Int := if FlowFit d then 0 else 8
theorem fitE_ok {d : FlowD} (h : FlowFit d) : fitE d = 0 := by unfold fitE; rw [if_pos h]
theorem fitE_bad {d : FlowD} (h : ¬ FlowFit d) : fitE d = 8 := by unfold fitE; rw [if_neg h]
--@FIT
set_option maxHeartbeats 8000000 in
set_option maxRecDepth 100000 in
theorem fit_any (d : FlowD) (xA yA zA : Option Addr) (xc yc zc : Nat) (w : World) (hF : FlowRd w xA xc yA yc zA zc d) (hnB : d.blocks.length ≤ 1000000) (hnF : d.firsts.length ≤ 1000000) :
 Calls Tryz.prog 48 #[.agg (flowV d xA yA zA xc yc zc)] w fun e w' => e = .returned (.int .i64 (fitE d)) ∧ Below w.heap.size w w' := by
 unfold flowV; obtain ⟨R, hR⟩ := ex' (fitE d)
 rw [hR]; obtain ⟨nB, hB⟩ := ex' d.blocks.length
 obtain ⟨nT, hTt⟩ := ex' d.tables.length
 obtain ⟨nF, hFf⟩ := ex' d.firsts.length
 have hzc : nF ≤ zc := by rw [← hFf]; exact hF.fst.2.1
 have hxc : nB ≤ xc := by rw [← hB]; exact hF.fst.2.2
 have HR := hd' hR; have HF := hd' hF; have HN := hd' (And.intro hB hFf); rw [hB] at hnB; rw [hFf] at hnF; rw [hB, hTt, hFf]; clear hR hF hB hTt hFf
 go_enter Tryz.func48, Tryz.ntmps48
 go_upto_region 1 with fail
 obtain ⟨Y, hY⟩ := ex' (w.alloc (.cells #[.slice xA nB xc, .slice yA nT yc, .slice zA nF zc] 33))
 rw [hY]; have hfY : Blk Y w.heap.size 33 [.slice xA nB xc, .slice yA nT yc, .slice zA nF zc] := by rw [← hY]; exact Blk.new w _ _
 have hbY : Below w.heap.size w Y := by rw [← hY]; exact (Below.refl _ _).alloc lr' _
 have HBY := hd' hbY; obtain ⟨BY, hBY⟩ := ex' w.heap.size
 have HBYE := hd' hBY; rw [hBY] at hfY ⊢; have HFY := hd' hfY; have f0 := hfY.cell 0 rfl; have fl := hfY.lt; clear hY hfY hbY hBY
 go_upto_block 0 with fail
 go_cut [1] (fun s1 wx => s1 = .pointer (some ⟨BY, 0, none⟩) ∧ Hid (Below Y.heap.size Y wx ∧ ∀ (i : Nat) (b : BlkD), d.blocks[i]? = some b → ¬ BlkOld d i b))
 case first =>
  go_wp2_with fail
  go_loopg [10] nB (fun gk s wr => ∃ i : Nat, i ≤ nB ∧ s = .int .i64 i ∧ Hid (Below Y.heap.size Y wr) ∧ Hid (∀ (j : Nat) (b : BlkD), j < i → d.blocks[j]? = some b → ¬ BlkOld d j b) ∧ nB - i ≤ gk)
  case atStart => exact ⟨0, Nat.zero_le _, rfl, Below.refl _ _, fun j b hj => by omega, Nat.le_refl _⟩
  case round =>
   obtain ⟨i, hi, rfl, HB, HG, hgk⟩ := hrel
   rename World => wr
   by_cases hlt : i < nB
   · have hltI : (i : Int) < (nB : Int) := by omega
     obtain ⟨b, hb⟩ : ∃ b, d.blocks[i]? = some b := ⟨_, gE' (by have := HN.out.1; omega)⟩
     have HBI := hd' hb; obtain ⟨v, g, o, hxA, hgl, -, hcs⟩ := (HF.out.below (HBY.out.trans (HB.out.mono HBY.out.size))).at hb; obtain ⟨bf, bst, bco, bat, ⟨lk, lld, la, lb, ln, llb⟩, ben, bds, bel, bli⟩ := b; obtain ⟨cA, cc, aA, ac, liA, lic⟩ := v; have c0 := hcs 0 _ rfl; have c1 := hcs 1 _ rfl; have c2 := hcs 2 _ rfl; have c3 := hcs 3 _ rfl; have c4 := hcs 4 _ rfl; have c5 := hcs 5 _ rfl; have c6 := hcs 6 _ rfl; have c7 := hcs 7 _ rfl; have c8 := hcs 8 _ rfl; have c9 := hcs 9 _ rfl; have c10 := hcs 10 _ rfl; have c11 := hcs 11 _ rfl; have c12 := hcs 12 _ rfl; have c13 := hcs 13 _ rfl
     simp only [Nat.add_zero] at c0 c1 c2 c3 c4 c5 c6 c7 c8 c9 c10 c11 c12 c13; have HXA := hd' hxA; subst hxA; clear hb hcs
     go_upto_region 4 with fail
     obtain ⟨Z, hZ⟩ := ex' (wr.alloc (.cells #[.int .i64 bf, .int .i64 bst, .slice cA bco.length cc, .slice aA bat.length ac, .int .i64 lk, .int .i64 lld, .int .i64 la, .int .i64 lb, .int .i64 ln, .bool llb, .int .i64 ben, .int .i64 bds, .int .i64 bel, .slice liA bli.length lic] 54))
     rw [hZ]; have htZ : Blk Z wr.heap.size 54 [.int .i64 bf, .int .i64 bst, .slice cA bco.length cc, .slice aA bat.length ac, .int .i64 lk, .int .i64 lld, .int .i64 la, .int .i64 lb, .int .i64 ln, .bool llb, .int .i64 ben, .int .i64 bds, .int .i64 bel, .slice liA bli.length lic] := by rw [← hZ]; exact Blk.new wr _ _
     have hbZ : Below wr.heap.size wr Z := by rw [← hZ]; exact (Below.refl _ _).alloc lr' _
     have HBZ := hd' (HB.out.trans (hbZ.mono HB.out.size)); have HFZ := hd' (HFY.out.keep HBZ.out); have t0 := htZ.cell 0 rfl; have tl := htZ.lt; have g0 := HFZ.out.cell 0 rfl; have g2 := HFZ.out.cell 2 rfl; have gl := HFZ.out.lt; obtain ⟨BZ, hBZ⟩ := ex' wr.heap.size
     rw [hBZ] at t0 tl ⊢; clear hZ htZ hbZ hBZ c0 c1 c2 c3 c4 c5 c6 c7 c8 c9 c10 c11 c12 c13 f0 fl
     have hpr : 0 < i → ∃ pf : Int, (d.blocks.getD (i - 1) blkZ).fn = pf ∧ Z.cell? ⟨g, o + (i - 1) * 14, none⟩ = some (.int .i64 pf) := fun h0 => by
      obtain ⟨b2, hb2⟩ : ∃ b2, d.blocks[i - 1]? = some b2 := ⟨_, gE' (by have := HN.out.1; omega)⟩
      obtain ⟨v2, g2, o2, hxA2, -, -, hcs2⟩ := (HF.out.below (HBY.out.trans (HBZ.out.mono HBY.out.size))).at hb2; injection hxA2 with hxA2; injection hxA2 with e1 e2; subst e1 e2; exact ⟨b2.fn, by rw [List.getD_eq_getElem?_getD, hb2]; rfl, by have := hcs2 0 _ rfl; simpa using this⟩
     by_cases hbad : BlkOld d i ⟨bf, bst, bco, bat, ⟨lk, lld, la, lb, ln, llb⟩, ben, bds, bel, bli⟩
     · have hR8 : R = 8 := by
        rw [← HR.out]; exact fitE_bad fun h => h.1 _ _ HBI.out hbad
       have HR8 := hd' hR8; unfold BlkOld at hbad; rw [HN.out.2] at hbad; simp only at hbad
       have hq : (decide (bf < 0) = true) ∨ (decide (bf < 0) = false ∧ decide ((nF : Int) ≤ bf) = true) ∨ (decide (bf < 0) = false ∧ decide ((nF : Int) ≤ bf) = false ∧ 0 < i ∧ bf < (d.blocks.getD (i - 1) blkZ).fn) := by
        simp only [decide_eq_true_eq, decide_eq_false_iff_not]; omega
       have HQ := hd' hq; have HPR := hd' hpr; clear hbad hq hR8 hpr; rcases HQ.out with q | ⟨q, q1⟩ | ⟨q, q1, h0, h1⟩
       · go_quiet (fail)
         go_wp2_with fail
         go_ret
         exact ⟨by rw [HR8.out]; rfl, HBY.out.trans ((below_drewN HBZ.out _).mono HBY.out.size)⟩
       · go_quiet (fail)
         go_wp2_with fail
         go_ret
         exact ⟨by rw [HR8.out]; rfl, HBY.out.trans ((below_drewN HBZ.out _).mono HBY.out.size)⟩
       · obtain ⟨pf, hpf, p0⟩ := HPR.out h0; rw [hpf] at h1; obtain ⟨k, rfl⟩ : ∃ k, i = k + 1 := ⟨i - 1, by omega⟩
         rw [Nat.add_sub_cancel] at p0; have qi : decide (0 < ((k + 1 : Nat) : Int)) = true := decide_eq_true (by omega); have qin : decide (0 < k + 1) = true := decide_eq_true (by omega); have qk : IntKind.i64.wrap (((k + 1 : Nat) : Int) - 1) = (k : Int) := by rw [IntWalk.i64_in _ (by omega)]; omega
         have hk0 : (0 : Int) ≤ (k : Int) := by omega
         have hk1 : (k : Int) < (nB : Int) := by omega
         have q2 : decide (bf < pf) = true := decide_eq_true h1; clear hpf h1
         go_quiet (fail)
         go_wp2_with fail
         go_ret
         exact ⟨by rw [HR8.out]; rfl, HBY.out.trans ((below_drewN HBZ.out _).mono HBY.out.size)⟩
     · have HNB := hd' hbad; unfold BlkOld at hbad; rw [HN.out.2] at hbad; simp only at hbad; have q : decide (bf < 0) = false := decide_eq_false (by omega); have q1 : decide ((nF : Int) ≤ bf) = false := decide_eq_false (by omega)
       have HNX : Hid (∀ (j : Nat) (b : BlkD), j < i + 1 → d.blocks[j]? = some b → ¬ BlkOld d j b) := hd' fun j b hj hbj => by
        rcases Nat.lt_succ_iff_lt_or_eq.1 hj with h | rfl
        · exact HG.out j b h hbj
        · rw [HBI.out] at hbj; injection hbj with hbj; rw [← hbj]; exact HNB.out
       rcases Nat.eq_zero_or_pos i with h0 | h0
       · subst h0; clear hbad hpr
         go_quiet (fail)
         go_wp2_with fail
         go_roundg (nB - 1)
         case measure => omega
         case rel => exact ⟨1, by omega, (by go_num), hd' (below_drewN HBZ.out _), HNX, Nat.le_refl _⟩
       · obtain ⟨pf, hpf, p0⟩ := hpr h0; rw [hpf] at hbad; obtain ⟨k, rfl⟩ : ∃ k, i = k + 1 := ⟨i - 1, by omega⟩
         rw [Nat.add_sub_cancel] at p0; have qi : decide (0 < ((k + 1 : Nat) : Int)) = true := decide_eq_true (by omega); have qin : decide (0 < k + 1) = true := decide_eq_true (by omega); have qk : IntKind.i64.wrap (((k + 1 : Nat) : Int) - 1) = (k : Int) := by rw [IntWalk.i64_in _ (by omega)]; omega
         have hk0 : (0 : Int) ≤ (k : Int) := by omega
         have hk1 : (k : Int) < (nB : Int) := by omega
         have q2 : decide (bf < pf) = false := decide_eq_false (by omega); clear hpf hbad hpr
         go_quiet (fail)
         go_wp2_with fail
         go_roundg (nB - (k + 1 + 1))
         case measure => omega
         case rel => exact ⟨k + 1 + 1, by omega, (by go_num), hd' (below_drewN HBZ.out _), HNX, Nat.le_refl _⟩
   · obtain rfl : i = nB := by omega
     have hltI : ¬ (i : Int) < (i : Int) := by omega
     go_wp2
     go_meet
     exact ⟨rfl, hd' (And.intro HB.out fun j b hj => HG.out j b (by have := HN.out.1; have := (List.getElem?_eq_some_iff.1 hj).1; omega) hj)⟩
 case rest =>
  obtain ⟨rfl, HX⟩ := hcut
  rename World => wx
  have HBX := hd' HX.out.1; have HFX := hd' (HFY.out.keep HBX.out); have HWX := hd' (HBY.out.trans (HBX.out.mono HBY.out.size)); have g2 := HFX.out.cell 2 rfl; have gl := HFX.out.lt; clear f0 fl
  go_wp2_with fail
  go_loopg [46] nF (fun gk s wr => ∃ i : Nat, i ≤ nF ∧ s = .int .i64 i ∧ Hid (Below wx.heap.size wx wr) ∧ Hid (∀ (j : Nat) (n : Int), j < i → d.firsts[j]? = some n → ¬ FstOld d j n) ∧ nF - i ≤ gk)
  case atStart => exact ⟨0, Nat.zero_le _, rfl, Below.refl _ _, fun j b hj => by omega, Nat.le_refl _⟩
  case round =>
   obtain ⟨i, hi, rfl, HB, HG, hgk⟩ := hrel
   rename World => wr
   have HBW := hd' (HWX.out.trans (HB.out.mono HWX.out.size))
   by_cases hlt : i < nF
   · have hltI : (i : Int) < (nF : Int) := by omega
     obtain ⟨n, hn⟩ : ∃ n, d.firsts[i]? = some n := ⟨_, gE' (by have := HN.out.2; omega)⟩
     have HNI := hd' hn; obtain ⟨zg, zo, hzA, -, hzc2⟩ := ((HF.out.below HBW.out).fst.1).at (intsV_at .i64 hn); have HZA := hd' hzA; subst hzA; have HFW := hd' (HFX.out.keep HB.out); have g0 := HFW.out.cell 0 rfl; have gl := HFW.out.lt
     have hblk : ∀ k : Nat, k < nB → ∃ (g o : Nat) (pf : Int), xA = some ⟨g, o, none⟩ ∧ (d.blocks.getD k blkZ).fn = pf ∧ wr.cell? ⟨g, o + k * 14, none⟩ = some (.int .i64 pf) := fun k hk => by
      obtain ⟨b2, hb2⟩ : ∃ b2, d.blocks[k]? = some b2 := ⟨_, gE' (by have := HN.out.1; omega)⟩
      obtain ⟨v2, g2, o2, hxA2, -, -, hcs2⟩ := (HF.out.below HBW.out).at hb2; exact ⟨g2, o2, b2.fn, hxA2, by rw [List.getD_eq_getElem?_getD, hb2]; rfl, by have := hcs2 0 _ rfl; simpa using this⟩
     have HBLK := hd' hblk; clear hn hblk g2
     by_cases hn0 : n < 0
     · have hR8 : R = 8 := by
        rw [← HR.out]; exact fitE_bad fun h => h.2 _ _ HNI.out (.inl hn0)
       have HR8 := hd' hR8; have q : decide (n < 0) = true := decide_eq_true hn0; clear hn0 hR8
       go_wp2_with fail
       go_ret
       exact ⟨by rw [HR8.out]; rfl, HBW.out⟩
     · obtain ⟨nn, rfl⟩ := Int.eq_ofNat_of_zero_le (show 0 ≤ n by omega); have q : decide ((nn : Int) < 0) = false := decide_eq_false hn0; clear hn0
       by_cases hn1 : nB ≤ nn
       · have hR8 : R = 8 := by
          rw [← HR.out]; exact fitE_bad fun h => h.2 _ _ HNI.out (.inr (.inl (by have := HN.out.1; omega)))
         have HR8 := hd' hR8; have q1 : decide ((nB : Int) ≤ (nn : Int)) = true := decide_eq_true (by omega); have q1n : decide (nB ≤ nn) = true := decide_eq_true hn1; clear hn1 hR8
         go_wp2_with fail
         go_ret
         exact ⟨by rw [HR8.out]; rfl, HBW.out⟩
       · have q1 : decide ((nB : Int) ≤ (nn : Int)) = false := decide_eq_false (by omega); have q1n : decide (nB ≤ nn) = false := decide_eq_false hn1; obtain ⟨xg, xo, pf, hxA, hpf, b0⟩ := HBLK.out nn (by omega); have HXA := hd' hxA; have HPF := hd' hpf; have hnn0 : (0 : Int) ≤ (nn : Int) := by omega
         have hnnI : (nn : Int) < (nB : Int) := by omega
         subst hxA; clear hpf hn1
         by_cases hpi : pf = (i : Int)
         · have q2 : (pf != (i : Int)) = false := by simp [hpi]
           rcases Nat.eq_zero_or_pos nn with h0 | h0
           · have HPI := hd' hpi
             have HNX : Hid (∀ (j : Nat) (n : Int), j < i + 1 → d.firsts[j]? = some n → ¬ FstOld d j n) := hd' fun j m hj hbj => by
              rcases Nat.lt_succ_iff_lt_or_eq.1 hj with h | rfl
              · exact HG.out j m h hbj
              · rw [HNI.out] at hbj; injection hbj with hbj; subst hbj; unfold FstOld; have e1 := HN.out.1; have e2 := HPF.out; rw [Int.toNat_natCast, e2]; omega
             have qi : decide (0 < (nn : Int)) = false := decide_eq_false (by omega); have qin : decide (0 < nn) = false := decide_eq_false (by omega); have HH0 := hd' h0; clear hpi h0
             go_wp2_with fail
             go_roundg (nF - (i + 1))
             case measure => omega
             case rel => exact ⟨i + 1, by omega, (by go_num), HB, HNX, Nat.le_refl _⟩
           · obtain ⟨k, hk⟩ : ∃ k, nn = k + 1 := ⟨nn - 1, by omega⟩
             have hk' : nn - 1 = k := by omega
             obtain ⟨xg2, xo2, p2, hxA2, hp2, b1⟩ := HBLK.out k (by omega); injection hxA2 with hxA2; injection hxA2 with e1 e2; subst e1 e2; have qi : decide (0 < (nn : Int)) = true := decide_eq_true (by omega); have qin : decide (0 < nn) = true := decide_eq_true (by omega); have qk : IntKind.i64.wrap ((nn : Int) - 1) = (k : Int) := by rw [IntWalk.i64_in _ (by omega)]; omega
             have hk0 : (0 : Int) ≤ (k : Int) := by omega
             have hk1 : (k : Int) < (nB : Int) := by omega
             have HK := hd' (And.intro hk (And.intro hk' h0)); clear hk hk' h0
             by_cases hp2i : p2 = (i : Int)
             · have hR8 : R = 8 := by
                rw [← HR.out]; exact fitE_bad fun h => h.2 _ _ HNI.out (.inr (.inr (.inr ⟨by have := HK.out.2.2; omega, by rw [Int.toNat_natCast, HK.out.2.1, hp2]; exact hp2i⟩)))
               have HR8 := hd' hR8; have q3 : (p2 == (i : Int)) = true := by simp [hp2i]
               clear hp2 hp2i hpi hR8
               go_wp2_with fail
               go_ret
               exact ⟨by rw [HR8.out]; rfl, HBW.out⟩
             · have HNX : Hid (∀ (j : Nat) (n : Int), j < i + 1 → d.firsts[j]? = some n → ¬ FstOld d j n) := hd' fun j m hj hbj => by
                rcases Nat.lt_succ_iff_lt_or_eq.1 hj with h | rfl
                · exact HG.out j m h hbj
                · rw [HNI.out] at hbj; injection hbj with hbj; subst hbj; unfold FstOld; have e1 := HN.out.1; have e2 := HPF.out; rw [Int.toNat_natCast, HK.out.2.1, e2, hp2]; omega
               have q3 : (p2 == (i : Int)) = false := by simp [hp2i]
               clear hp2 hp2i hpi
               go_wp2_with fail
               go_roundg (nF - (i + 1))
               case measure => omega
               case rel => exact ⟨i + 1, by omega, (by go_num), HB, HNX, Nat.le_refl _⟩
         · have hR8 : R = 8 := by
            rw [← HR.out]; exact fitE_bad fun h => h.2 _ _ HNI.out (.inr (.inr (.inl (by rw [Int.toNat_natCast, HPF.out]; exact hpi))))
           have HR8 := hd' hR8; have q2 : (pf != (i : Int)) = true := by simp [hpi]
           clear hpi hR8
           go_wp2_with fail
           go_ret
           exact ⟨by rw [HR8.out]; rfl, HBW.out⟩
   · obtain rfl : i = nF := by omega
     have hltI : ¬ (i : Int) < (i : Int) := by omega
     have hR0 : R = 0 := by
      rw [← HR.out]; exact fitE_ok ⟨HX.out.2, fun j n hj => HG.out j n (by have := HN.out.2; have := (List.getElem?_eq_some_iff.1 hj).1; omega) hj⟩
     have HR0 := hd' hR0; clear hR0
     go_wp2
     go_ret
     exact ⟨by rw [HR0.out]; rfl, HBW.out⟩
--@ORD
theorem PgmF.flowFit {m : Img} {ld : Int → Bool} {bm : Int → Option Int} {S : List FSp} {gs : List (List FSp)} {d : FlowD} (h : PgmF m ld bm S gs d) (hf : FnF m S) : FlowFit d := by
 have hlen := h.few.1
 have hblk : ∀ (k : Nat) (y : FSp) (s : List FSp), gs[k]? = some (y :: s) → (d.blocks.getD k blkZ).fn = y.1 := fun k y s hk => by
  have hb : d.blocks[k]? = some (joinB bm (blkOf m (y :: s))) := by rw [h.blocks, List.getElem?_map, hk]; rfl
  rw [List.getD_eq_getElem?_getD, hb]; exact (blk_f m bm y s).1
 refine ⟨fun i b hb hold => ?_, fun i n hn hold => ?_⟩
 · obtain ⟨k1, k2⟩ := h.blkFn hf b (mG' hb); rcases hold with e | e | ⟨e1, e2⟩
   · omega
   · omega
   · obtain ⟨x, r, hg, -, bf, -, -⟩ := h.blk hb; have hg2 : gs[i - 1]? = some (gs[i - 1]'(by have := (List.getElem?_eq_some_iff.1 hg).1; omega)) := gE' _; obtain ⟨y, s, hys, -⟩ := h.ok _ (mG' hg2); rw [hys] at hg2; have h1 := h.fnle (i := i - 1) hg2 (by rw [show i - 1 + 1 = i by omega]; exact hg); rw [hblk _ y s hg2] at e2; omega
 · obtain ⟨f, x, r, k1, k2, k3, k4, k5⟩ := h.firsts.2 i n hn; have hnl : n.toNat < gs.length := (List.getElem?_eq_some_iff.1 k3).1; have hfn := hblk _ x r k3; rcases hold with e | e | e | ⟨e1, e2⟩
   · omega
   · omega
   · exact e (by rw [hfn]; exact k5)
   · have hk : n.toNat - 1 < n.toNat := by omega
     have hg : gs[n.toNat - 1]? = some (gs[n.toNat - 1]'(by omega)) := gE' _; obtain ⟨y, s, hys, -⟩ := h.ok _ (mG' hg); rw [hys] at hg; rw [hblk _ y s hg] at e2; have h1 := (h.before k3 hk hg (y := y) (by simp)).1; have h0 := (h.before k3 hk hg (y := y) (by simp)).2; obtain ⟨f', a1, a2, a3, a4⟩ := hf y (h.spot hg (j := 0) rfl).2.2.1; rw [e2, Int.toNat_natCast, k1] at a2; injection a2 with a2; subst a2; omega
set_option maxHeartbeats 4000000 in
set_option maxRecDepth 100000 in
theorem order_bad (d : FlowD) (xA yA zA : Option Addr) (xc yc zc : Nat) (l : List EdgD) (A : Option Addr) (c : Nat) (R : Int) (w : World) (hF : FlowRd w xA xc yA yc zA zc d) (hnB : d.blocks.length ≤ 1000000) (hnF : d.firsts.length ≤ 1000000)
 (hL : RdG w w.heap.size A (edgV l)) (hc : l.length ≤ c) (hl : l.length ≤ 1000000) (hR : fitE d ≠ 0 ∧ R = fitE d ∨ fitE d = 0 ∧ edgGo d.blocks.length none l ≠ 0 ∧ R = edgGo d.blocks.length none l) :
 Calls Tryz.prog 31 #[.agg (flowV d xA yA zA xc yc zc), .slice A l.length c] w fun e w' => e = .returned (.tuple #[.slice none 0 0, .int .i64 R]) ∧ Below w.heap.size w w' := by
 have HFI : Hid (∀ W, Below w.heap.size w W → Calls Tryz.prog 48 #[.agg (flowV d xA yA zA xc yc zc)] W fun e w' => e = .returned (.int .i64 (fitE d)) ∧ Below W.heap.size W w') := hd' fun W hW => fit_any d xA yA zA xc yc zc W (hF.below hW) hnB hnF
 have HED : Hid (∀ W, Below w.heap.size w W → Calls Tryz.prog 19 #[.slice A l.length c, .int .i64 d.blocks.length] W fun e w' => e = .returned (.int .i64 (edgGo d.blocks.length none l)) ∧ Below W.heap.size W w') := hd' fun W hW => edges_any l A c d.blocks.length W ((hL.below hW).more hW.size) hc hl
 obtain ⟨E1, hE1⟩ := ex' (fitE d)
 obtain ⟨E2, hE2⟩ := ex' (edgGo d.blocks.length none l)
 rw [hE1] at HFI hR; rw [hE2] at HED hR; unfold flowV at HFI ⊢; obtain ⟨nB, hB⟩ := ex' d.blocks.length
 obtain ⟨nT, hTt⟩ := ex' d.tables.length
 obtain ⟨nF, hFf⟩ := ex' d.firsts.length
 obtain ⟨nl, hnl⟩ := ex' l.length
 rw [hB, hTt, hFf] at HFI; rw [hB, hnl] at HED; rw [hB, hTt, hFf, hnl]; have HRR := hd' hR; clear hE1 hE2 hB hTt hFf hnl hF hL hnB hnF hc hl hR
 go_enter Tryz.func31, Tryz.ntmps31
 go_upto_region 1 with fail
 obtain ⟨Y, hY⟩ := ex' (w.alloc (.cells #[.slice xA nB xc, .slice yA nT yc, .slice zA nF zc] 33))
 rw [hY]; have hfY : Blk Y w.heap.size 33 [.slice xA nB xc, .slice yA nT yc, .slice zA nF zc] := by rw [← hY]; exact Blk.new w _ _
 have hbY : Below w.heap.size w Y := by rw [← hY]; exact (Below.refl _ _).alloc lr' _
 have HBY := hd' hbY; obtain ⟨BY, hBY⟩ := ex' w.heap.size
 have HBYE := hd' hBY; rw [hBY] at hfY ⊢; have HFY := hd' hfY; have f0 := hfY.cell 0 rfl; have f1 := hfY.cell 1 rfl; have f2 := hfY.cell 2 rfl; have fl := hfY.lt; clear hY hfY hbY hBY
 go_wp2_with fail
 refine (HFI.out _ HBY.out).mono ?_; rintro e w1 ⟨rfl, hb1⟩; have HB1 := hd' (HBY.out.trans (hb1.mono HBY.out.size)); have HF1 := hd' (HFY.out.keep hb1); clear hb1 f0 f1 f2 fl; rcases HRR.out with ⟨h1, h2⟩ | ⟨h1, h2, h3⟩
 · have q : (E1 != 0) = true := by simp [h1]
   have HR2 := hd' h2; clear h1 h2
   go_wp2_with fail
   refine bodyPost_ret (v := .tuple #[.slice none 0 0, .int .i64 E1]) (by simp [results, Tryz.results31, go_sem]) rfl ⟨by rw [HR2.out], HB1.out⟩
 · have q : (E1 != 0) = false := by simp [h1]
   have q2 : (E2 != 0) = true := by simp [h2]
   have HR2 := hd' h3; have f0 := HF1.out.cell 0 rfl; have fl := HF1.out.lt; clear h1 h2 h3
   go_wp2_with fail
   refine (HED.out _ HB1.out).mono ?_; rintro e w2 ⟨rfl, hb2⟩; have HB2 := hd' (HB1.out.trans (hb2.mono HB1.out.size)); clear hb2 f0 fl
   go_wp2_with fail
   refine bodyPost_ret (v := .tuple #[.slice none 0 0, .int .i64 E2]) (by simp [results, Tryz.results31, go_sem]) rfl ⟨by rw [HR2.out], HB2.out⟩
end Go.Proofs.YtcdlgjhdbmmomaaGreatDoor
