/- Emit's check of an order, walked. -/
import Derived.Test.YtcafhoobeggmeaaDoorFlowN
import Derived.Test.YtcafhoobeggmeaaDoorRegX
import Derived.Test.YtcafhoobeggmeaaDoorFlwR
import Derived.Deep.DeepCutAuto
import Derived.Deep.CutBlock
import Derived.Deep.LoopGhost
import Derived.Deep.QuietTactic
import Derived.BigQuiet
import Derived.IntWalk
import Derived.WalkLawsBesides
import Derived.Laws.MakeOwn
namespace Go.Proofs.YtcafhoobeggmeaaDoor
open Go.RowKit Go.Deep
def partC (x : PartD × Option Addr × Nat) : List Value := [.int .i64 x.1.fn, .slice x.2.1 x.1.bs.length x.2.2]
def partsV (l : List (PartD × Option Addr × Nat)) : List Value := l.flatMap partC
theorem partsV_at {l : List (PartD × Option Addr × Nat)} {j : Nat} {x : PartD × Option Addr × Nat} (h : l[j]? = some x) (q : Nat) (u : Value) (hu : (partC x)[q]? = some u) : (partsV l)[j * 2 + q]? = some u :=
 flat_at partC 2 (fun _ => rfl) l j x h q u (by have h1 := (List.getElem?_eq_some_iff.1 hu).1; simpa [partC] using h1) hu
def PartsRd (w : World) (A : Option Addr) (c : Nat) (l : List PartD) : Prop :=
 l.length ≤ c ∧ ∃ lv : List (PartD × Option Addr × Nat), lv.map Prod.fst = l ∧ RdG w w.heap.size A (partsV lv) ∧ ∀ x ∈ lv, x.1.bs.length ≤ x.2.2 ∧ RdG w w.heap.size x.2.1 (intsV .i64 x.1.bs)
theorem PartsRd.below {w w' : World} {A : Option Addr} {c : Nat} {l : List PartD} (h : PartsRd w A c l) (hb : Below w.heap.size w w') : PartsRd w' A c l := by
 obtain ⟨h0, lv, h1, h2, h3⟩ := h; exact ⟨h0, lv, h1, (h2.below hb).more hb.size, fun x hx => ⟨(h3 x hx).1, ((h3 x hx).2.below hb).more hb.size⟩⟩
theorem PartsRd.at {w : World} {A : Option Addr} {c : Nat} {l : List PartD} (h : PartsRd w A c l) {i : Nat} {p : PartD} (hp : l[i]? = some p) :
 ∃ (g o : Nat) (bA : Option Addr) (bc : Nat), A = some ⟨g, o, none⟩ ∧ g < w.heap.size ∧ w.cell? ⟨g, o + i * 2, none⟩ = some (.int .i64 p.fn) ∧ w.cell? ⟨g, o + i * 2 + 1, none⟩ = some (.slice bA p.bs.length bc) ∧ p.bs.length ≤ bc ∧ RdG w w.heap.size bA (intsV .i64 p.bs) := by
 obtain ⟨h0, lv, h1, h2, h3⟩ := h; rw [← h1, List.getElem?_map, Option.map_eq_some_iff] at hp; obtain ⟨x, hx, rfl⟩ := hp; have c0 := partsV_at hx 0 _ rfl; have c1 := partsV_at hx 1 _ rfl; rw [Nat.add_zero] at c0; obtain ⟨g, o, e, hg, hc⟩ := h2 (by intro e; rw [e] at c0; simp at c0); obtain ⟨k1, k2⟩ := h3 x (mG' hx); exact ⟨g, o, x.2.1, x.2.2, e, hg, hc _ _ c0, by rw [Nat.add_assoc]; exact hc _ _ c1, k1, k2⟩
def ordE : Bool → Int
 | true => 0
 | false => 8
def marksV (n : Nat) (l : List Int) : List Value := (List.range n).map fun i : Nat => .bool (l.contains (i : Int))
theorem marksV_at {n : Nat} {l : List Int} {k : Nat} (h : k < n) : (marksV n l)[k]? = some (.bool (l.contains (k : Int))) := by
 unfold marksV; rw [List.getElem?_map, gE' (by simpa using h), List.getElem_range]
 rfl
theorem marksV_set {n : Nat} {l : List Int} {k : Nat} : (marksV n l).set k (.bool true) = marksV n ((k : Int) :: l) := by
 apply List.ext_getElem?; intro j
 by_cases hj : j < n
 · rw [marksV_at hj, List.getElem?_set]
   by_cases e : k = j
   · subst e; rw [if_pos rfl, if_pos (by simpa [marksV] using hj)]; simp
   · rw [if_neg e, marksV_at hj, List.contains_cons]; have : ((j : Int) == (k : Int)) = false := by simp; omega
     rw [this, Bool.false_or]
 · rw [List.getElem?_eq_none (by simp [marksV]; omega), List.getElem?_eq_none (by simp [marksV]; omega)]
theorem made_bools (n : Nat) : madeCells (Value.bool false).cells n = (marksV n []).toArray := by
 apply Array.ext
 · simp [madeCells, marksV]
 · intro j h1 h2; simp [madeCells, marksV, Value.cells, Nat.mod_one]
theorem infoBool : (Tryd.prog.info? 4).map (fun i => (i.zero, i.size, i.bytes)) = some (some (.bool false), 1, 1) := by kernel_rfl
theorem run_make_bools (n : Nat) (hn : n ≤ 100000) (W : World) : (Instr.makeSlice 131 (.int .i64 n) (.int .i64 n)).run Tryd.prog W = .ok (.slice (some ⟨W.heap.size, 0, none⟩) n n) (W.alloc (.cells (marksV n []).toArray 4)) := by
 obtain ⟨i0, hi, hz0, hz1, hz2⟩ := info_parts infoBool; have h := run_makeSlice (P := Tryd.prog) (w := W) 131 4 i0 (.bool false) Tryd.underlying131 hi hz0 .i64 .i64 (n : Int) (n : Int) (by omega) (Int.le_refl _) (by rw [hz1]; simp; omega) (by rw [hz2]; omega) (by omega); rw [hz1, Int.toNat_natCast, Nat.mul_one, made_bools] at h; exact h
theorem drop_at {α : Type} {l : List α} {k : Nat} {x : α} (h : l[k]? = some x) : l.drop k = x :: l.drop (k + 1) := by
 obtain ⟨hk, he⟩ := List.getElem?_eq_some_iff.1 h; rw [List.drop_eq_getElem_cons hk, he]
set_option maxHeartbeats 8000000 in
set_option maxRecDepth 100000 in
theorem check_ord (d : FlowD) (xA yA zA : Option Addr) (xc yc zc : Nat) (l : List PartD) (A : Option Addr) (c : Nat) (w : World) (hF : FlowRd w xA xc yA yc zA zc d) (hP : PartsRd w A c l) (hnB : d.blocks.length ≤ 10000) (hnF : d.firsts.length ≤ 10000) (hnL : l.length ≤ 10000) (hpb : ∀ p ∈ l, p.bs.length ≤ 10000) :
 Calls Tryd.prog 29 #[.agg (flowV d xA yA zA xc yc zc), .slice A l.length c] w fun e w' => e = .returned (.int .i64 (ordE (ordOk d l))) ∧ Below w.heap.size w w' := by
 obtain ⟨R, hR⟩ := ex' (ordOk d l)
 rw [hR]; unfold flowV; obtain ⟨nB, hB⟩ := ex' d.blocks.length
 obtain ⟨nT, hTt⟩ := ex' d.tables.length
 obtain ⟨nF, hFf⟩ := ex' d.firsts.length
 obtain ⟨nL, hL⟩ := ex' l.length
 have HFL := hd' hF; have HPR := hd' hP; have HR := hd' hR; have HN := hd' (And.intro hB (And.intro hFf hL)); have HPB := hd' hpb; rw [hB] at hnB ⊢; rw [hFf] at hnF ⊢; rw [hL] at hnL ⊢; rw [hTt]; have hlc : nL ≤ c := by rw [← hL]; exact hP.1
 clear hF hP hR hB hTt hFf hL hpb
 go_enter Tryd.func29, Tryd.ntmps29
 go_upto_region 1 with fail
 obtain ⟨Y, hY⟩ := ex' (w.alloc (.cells #[.slice xA nB xc, .slice yA nT yc, .slice zA nF zc] 45))
 rw [hY]; have hfY : Blk Y w.heap.size 45 [.slice xA nB xc, .slice yA nT yc, .slice zA nF zc] := by rw [← hY]; exact Blk.new w _ _
 have hbY : Below w.heap.size w Y := by rw [← hY]; exact (Below.refl _ _).alloc lr' _
 obtain ⟨BY, hBY⟩ := ex' w.heap.size
 have HBY := hd' hbY; rw [hBY] at hfY ⊢; have HFY := hd' hfY; have HFLY := hd' (HFL.out.below hbY); have HPRY := hd' (HPR.out.below hbY); have f0 := hfY.cell 0 rfl; have f2 := hfY.cell 2 rfl; have fl := hfY.lt; clear hY hfY hbY hBY
 by_cases hLF : nL = nF
 · have qL : ((nL : Int) != (nF : Int)) = false := by simp [hLF]
   have HLF := hd' hLF; clear hLF; have HMF := hd' (run_make_bools nF (by omega)); have HMB := hd' (run_make_bools nB (by omega))
   go_upto_region 3 with fail
   go_cut [5, 6] (fun s5 s6 wx => ∃ gF gB : Nat, s5 = .slice (some ⟨gF, 0, none⟩) nF nF ∧ s6 = .slice (some ⟨gB, 0, none⟩) nB nB ∧ gF ≠ gB ∧ Hid (Below Y.heap.size Y wx) ∧ Hid (Blk wx gF 4 (marksV nF []) ∧ Blk wx gB 4 (marksV nB []) ∧ Y.heap.size ≤ gF ∧ Y.heap.size ≤ gB))
   case first =>
    have hmf := HMF.out; have hmb := HMB.out
    go_region
    · go_wp2
      go_meet
      exact ⟨Y.heap.size, Y.heap.size + 1, rfl, rfl, by omega, hd' (((Below.refl _ _).alloc lr' _).alloc (by simp) _).drew, hd' ⟨(Blk.alloc (Blk.new Y _ _) _).drew, (Blk.new2 Y _ _ _).drew, Nat.le_refl _, Nat.le_succ _⟩⟩
    · go_wp2
      go_meet
      exact ⟨Y.heap.size + 1, Y.heap.size, rfl, rfl, by omega, hd' (((Below.refl _ _).alloc lr' _).alloc (by simp) _).drew, hd' ⟨(Blk.new2 Y _ _ _).drew, (Blk.alloc (Blk.new Y _ _) _).drew, Nat.le_succ _, Nat.le_refl _⟩⟩
   case rest =>
    obtain ⟨gF, gB, rfl, rfl, hne, HBX, HMM⟩ := hcut; have HGE := hd' HMM.out.2.2
    rename World => wx
    go_wp2_with fail
    go_loopg [7, 28] nL (fun gk s7 s28 wr => ∃ (i : Nat) (fs bs : List Int), i ≤ nL ∧ s28 = .int .i64 i ∧ s7 = .int .i64 bs.length ∧ Hid (ordP d l [] [] = ordP d (l.drop i) fs bs) ∧ Hid (Below Y.heap.size Y wr) ∧ Hid (Blk wr gF 4 (marksV nF fs) ∧ Blk wr gB 4 (marksV nB bs)) ∧ bs.length ≤ 10000 * i ∧ nL - i ≤ gk)
    case atStart => exact ⟨0, [], [], Nat.zero_le _, rfl, rfl, hd' rfl, HBX, hd' ⟨HMM.out.1, HMM.out.2.1⟩, Nat.zero_le _, Nat.le_refl _⟩
    case round =>
     obtain ⟨i, fs, bs, hi, rfl, rfl, HO, HB, HM, hbl, hgk⟩ := hrel
     rename World => w1
     obtain ⟨CT, hCT⟩ := ex' bs.length
     have HCT := hd' hCT; rw [hCT] at hbl ⊢; clear hCT
     by_cases hlt : i < nL
     · have hltI : (i : Int) < (nL : Int) := by omega
       have hpi : l[i]? = some (l[i]'(by have := HN.out; omega)) := gE' _; obtain ⟨p, hpe⟩ := ex' (l[i]'(by have := HN.out; omega))
       rw [hpe] at hpi; obtain ⟨g, o, bA, bc, hA, hgl, hcy0, hcy1, hbc, hrw⟩ := HPRY.out.at hpi; have hc0 := (HB.out.cell (p := ⟨g, o + i * 2, none⟩) hgl).trans hcy0; have hc1 := (HB.out.cell (p := ⟨g, o + i * 2 + 1, none⟩) hgl).trans hcy1; have hpl := HPB.out p (mG' hpi); have HD := hd' (drop_at hpi); obtain ⟨fn, pb⟩ := p; simp only at hc0 hc1 hbc hrw hpl; obtain ⟨nP, hnP⟩ := ex' pb.length
       rw [hnP] at hc1 hbc hpl; have HNP := hd' hnP; have HRW := hd' hrw; subst hA; clear hpe hpi hnP hrw hcy0 hcy1
       go_upto_region 8 with fail
       obtain ⟨V, hV⟩ := ex' (w1.alloc (.cells #[.int .i64 fn, .slice bA nP bc] 66))
       rw [hV]; have hpV : Blk V w1.heap.size 66 [.int .i64 fn, .slice bA nP bc] := by rw [← hV]; exact Blk.new w1 _ _
       have hbV : Below w1.heap.size w1 V := by rw [← hV]; exact (Below.refl _ _).alloc lr' _
       obtain ⟨BP, hBP⟩ := ex' w1.heap.size
       have hBYV := HB.out.trans (hbV.mono HB.out.size); have HBV := hd' hBYV; have HWV : Hid (RdG V Y.heap.size bA (intsV .i64 pb)) := hd' (HRW.out.below hBYV); have HMV : Hid (Blk V gF 4 (marksV nF fs) ∧ Blk V gB 4 (marksV nB bs)) := hd' ⟨HM.out.1.keep hbV, HM.out.2.keep hbV⟩; have HSB : Hid (Y.heap.size ≤ BP ∧ gF < BP ∧ gB < BP) := hd' (by have h1 := HB.out.size; have h2 := HM.out.1.lt; have h3 := HM.out.2.lt; omega); rw [hBP] at hpV ⊢; have HPV := hd' hpV; have p0 := hpV.cell 0 rfl; have p1 := hpV.cell 1 rfl; have pl := hpV.lt; have hfV := HFY.out.keep hBYV
       have f0 := hfV.cell 0 rfl; have f2 := hfV.cell 2 rfl; have fl := hfV.lt; have HBE := hd' (HBY.out.trans (hBYV.mono HBY.out.size))
       have HBAD : Hid (∀ W, ordP d (⟨fn, pb⟩ :: l.drop (i + 1)) fs bs = false → Below V.heap.size V W → Ending.returned (Value.int .i64 8) = .returned (.int .i64 (ordE R)) ∧ Below w.heap.size w W) := hd' fun W h1 h2 => by
        have e : R = false := by
         rw [← HR.out, ordOk, HO.out, HD.out, h1]; simp
        rw [e]; exact ⟨rfl, HBE.out.trans (h2.mono HBE.out.size)⟩
       have HGO : Hid (∀ b, ordP d (⟨fn, pb⟩ :: l.drop (i + 1)) fs bs = b → ordP d [] [] [] = ordP d [] [] []) := hd' fun _ _ => rfl
       clear hV hpV hbV hBP hBYV hfV hc0 hc1 hgl HGO
       by_cases h1 : fn < 0
       · have q1 : decide (fn < 0) = true := decide_eq_true h1; have hbad : ordP d (⟨fn, pb⟩ :: l.drop (i + 1)) fs bs = false := by rw [ordP, if_pos (.inl h1)]
         have HBD := hd' hbad; clear h1 hbad
         go_quiet (fail)
         go_wp2_with fail
         go_ret
         exact HBAD.out _ HBD.out (below_drewN (Below.refl _ _) _)
       · by_cases h2 : (nF : Int) ≤ fn
         · have q1 : decide (fn < 0) = false := decide_eq_false h1; have q2 : decide ((nF : Int) ≤ fn) = true := decide_eq_true h2; have hbad : ordP d (⟨fn, pb⟩ :: l.drop (i + 1)) fs bs = false := by rw [ordP, if_pos (.inr (.inl (by rw [HN.out.2.1]; exact h2)))]
           have HBD := hd' hbad; clear h1 h2 hbad
           go_quiet (fail)
           go_wp2_with fail
           go_ret
           exact HBAD.out _ HBD.out (below_drewN (Below.refl _ _) _)
         · obtain ⟨fN, rfl⟩ := Int.eq_ofNat_of_zero_le (show 0 ≤ fn by omega); have hfN : fN < nF := by omega
           have hfI : (fN : Int) < (nF : Int) := by omega
           have hf0 : (0 : Int) ≤ (fN : Int) := by omega
           have q1 : decide ((fN : Int) < 0) = false := decide_eq_false (by omega); have q2 : decide ((nF : Int) ≤ (fN : Int)) = false := decide_eq_false (by omega); have q2n : decide (nF ≤ fN) = false := decide_eq_false (by omega); have b1 := HMV.out.1.cell fN (marksV_at hfN); have bl1 := HMV.out.1.lt; clear h1 h2; rcases h3 : fs.contains (fN : Int) with _ | _
           · rw [h3] at b1; have H3 := hd' h3; clear h3
             by_cases h4 : nP = 0
             · have q4 : ((nP : Int) == 0) = true := by simp [h4]
               have hbad : ordP d (⟨(fN : Int), pb⟩ :: l.drop (i + 1)) fs bs = false := by
                have e : pb = [] := List.length_eq_zero_iff.1 (HNP.out.trans h4); rw [ordP, if_pos (.inr (.inr (.inr (by rw [e]; simp))))]
               have HBD := hd' hbad; clear h4 hbad
               go_quiet (fail)
               go_wp2_with fail
               go_ret
               exact HBAD.out _ HBD.out (below_drewN (Below.refl _ _) _)
             · obtain ⟨b0, pr, hpb⟩ : ∃ b0 pr, pb = b0 :: pr := List.exists_cons_of_ne_nil (by intro e; rw [e] at HNP; exact h4 HNP.out.symm); have q4 : ((nP : Int) == 0) = false := by simp; omega
               have hp0 : pb[0]? = some b0 := by rw [hpb]; rfl
               obtain ⟨bg, bo, hbA, hbgl, hb0⟩ := HWV.out.at (intsV_at .i64 hp0); rw [Nat.add_zero] at hb0; have hfir : d.firsts[fN]? = some (d.firsts[fN]'(by have := HN.out; omega)) := gE' _; obtain ⟨ff, hff⟩ := ex' (d.firsts[fN]'(by have := HN.out; omega))
               rw [hff] at hfir; have hflw := HFLY.out.below HBV.out; obtain ⟨zg, zo, hzA, hzgl, hzc⟩ := hflw.fst.1.at (intsV_at .i64 hfir); have hzcap : nF ≤ zc := by have := hflw.fst.2.1; have := HN.out; omega
               have hgd : d.firsts.getD fN 0 = ff := by rw [List.getD_eq_getElem?_getD, hfir]; rfl
               have hnP0 : (0 : Int) < (nP : Int) := by omega
               subst hbA hzA
               by_cases h5 : b0 = ff
               · have q5 : (b0 != ff) = false := by simp [h5]
                 have hneg : ¬ ((fN : Int) < 0 ∨ (d.firsts.length : Int) ≤ (fN : Int) ∨ fs.contains (fN : Int) = true ∨ pb.head? ≠ some (d.firsts.getD (fN : Int).toNat 0)) := by
                  rintro (h | h | h | h)
                  · omega
                  · rw [HN.out.2.1] at h; omega
                  · rw [H3.out] at h
                    cases h
                  · rw [Int.toNat_natCast, hpb, hgd] at h; exact h (by rw [h5]; rfl)
                 have HSTEP : Hid (ordP d (⟨(fN : Int), pb⟩ :: l.drop (i + 1)) fs bs = match ordB d (fN : Int) pb bs with | none => false | some bs' => ordP d (l.drop (i + 1)) ((fN : Int) :: fs) bs') := hd' (by rw [ordP, if_neg hneg]; cases ordB d (fN : Int) pb bs <;> rfl); clear hneg; have HBAD2 : Hid (∀ W, ordB d (fN : Int) pb bs = none → Below V.heap.size V W → Ending.returned (Value.int .i64 8) = .returned (.int .i64 (ordE R)) ∧ Below w.heap.size w W) := hd' fun W h1 h2 => HBAD.out W (by rw [HSTEP.out, h1]) h2
                 have bf1 := HMV.out.1.free fN; clear h4 h5 hpb hp0 hfir hff hflw hgd HBAD
                 go_upto_region 8 with fail
                 go_quiet (fail)
                 go_upto_region 11 with fail
                 obtain ⟨U, hU⟩ := ex' ((V.drewN nq).setCell ⟨gF, fN, none⟩ (.bool true))
                 have hgU : V.grownBy U (some gF) := by rw [← hU]; exact gb_trans (gb_drewN (gb_refl V (some gF)) nq) (gb_setCell (gb_refl _ (some gF)) fN (.bool true))
                 have hU1 : Blk U gF 4 (marksV nF ((fN : Int) :: fs)) := by rw [← hU, ← marksV_set]; exact (HMV.out.1.drewN nq).set fN (.bool true)
                 have hU2 : Blk U gB 4 (marksV nB bs) := HMV.out.2.gb hgU (fun e => by injection e with e; exact hne e); have hty : ∀ q, some gF = some q → TypB V q 4 := fun q e => by injection e with e; subst e; exact HMV.out.1.typ
                 have hPU := HPV.out.keepT hgU hty (by decide); have hFU := (HFY.out.keep HBV.out).keepT hgU hty (by decide); have HBU : Hid (Below Y.heap.size Y U) := hd' (below_gb HBV.out hgU (fun q e => by injection e with e; subst e; exact HGE.out.1)); rw [hU]; have HUU := hd' (And.intro hU1 hU2); have HPU := hd' hPU; have HFU := hd' hFU; have p1 := hPU.cell 1 rfl; have pl := hPU.lt; clear hU hgU hU1 hU2 hty hPU hFU bf1 f0 f2 fl b1 bl1 p0 hb0 hzc hzgl
                 go_wp2_with fail
                 go_loopg [7, 75] nP (fun gk s7 s75 wr => ∃ (j : Nat) (bs2 : List Int), j ≤ nP ∧ s75 = .int .i64 j ∧ s7 = .int .i64 bs2.length ∧ Hid (ordB d (fN : Int) pb bs = ordB d (fN : Int) (pb.drop j) bs2) ∧ Hid (Below Y.heap.size Y wr) ∧ Hid (Blk wr gF 4 (marksV nF ((fN : Int) :: fs)) ∧ Blk wr gB 4 (marksV nB bs2)) ∧ Hid (Blk wr BP 66 [.int .i64 fN, .slice (some ⟨bg, bo, none⟩) nP bc]) ∧ bs2.length ≤ CT + j ∧ nP - j ≤ gk)
                 case atStart => exact ⟨0, bs, Nat.zero_le _, rfl, by rw [HCT.out], hd' rfl, HBU, HUU, HPU, by rw [HCT.out]; exact Nat.le_refl _, Nat.le_refl _⟩
                 case round =>
                  obtain ⟨j, bs2, hj, rfl, rfl, HO2, HB2, HM2, HP2, hbl2, hgk2⟩ := hrel
                  rename World => w2
                  obtain ⟨C2, hC2⟩ := ex' bs2.length
                  have HC2 := hd' hC2; rw [hC2] at hbl2 ⊢; clear hC2
                  by_cases hlt2 : j < nP
                  · have hltJ : (j : Int) < (nP : Int) := by omega
                    have hbj : pb[j]? = some (pb[j]'(by have := HNP.out; omega)) := gE' _; obtain ⟨b, hbe⟩ := ex' (pb[j]'(by have := HNP.out; omega))
                    rw [hbe] at hbj; have HDJ := hd' (drop_at hbj); obtain ⟨bg2, bo2, e2, hbgl, hbc2⟩ := (HRW.out.below HB2.out).at (intsV_at .i64 hbj); injection e2 with e2; injection e2 with e2 e3; subst e2 e3; have hbgl2 := Nat.lt_of_lt_of_le hbgl HB2.out.size; have hfw := HFY.out.keep HB2.out; have f0 := hfw.cell 0 rfl; have fl := hfw.lt; have p0 := HP2.out.cell 0 rfl; have pl := HP2.out.lt; have HBE2 := hd' (HBY.out.trans (HB2.out.mono HBY.out.size))
                    have HBAD3 : Hid (∀ W, ordB d (fN : Int) (b :: pb.drop (j + 1)) bs2 = none → Below w2.heap.size w2 W → Ending.returned (Value.int .i64 8) = .returned (.int .i64 (ordE R)) ∧ Below w.heap.size w W) := hd' fun W h1 h2 => by
                     have h3 := (HBAD2.out V (by rw [HO2.out, HDJ.out, h1]) (Below.refl _ _)).1; exact ⟨h3, HBE2.out.trans (h2.mono HBE2.out.size)⟩
                    clear hbe hbj hfw
                    by_cases h1 : b < 0
                    · have q1 : decide (b < 0) = true := decide_eq_true h1; have HBD : Hid (ordB d (fN : Int) (b :: pb.drop (j + 1)) bs2 = none) := hd' (by rw [ordB, if_pos (.inl h1)]); clear h1
                      go_upto_region 14 with fail
                      go_quiet (fail)
                      go_wp2_with fail
                      go_ret
                      exact HBAD3.out _ HBD.out (below_drewN (Below.refl _ _) _)
                    · by_cases h2 : (nB : Int) ≤ b
                      · have q1 : decide (b < 0) = false := decide_eq_false h1; have q2 : decide ((nB : Int) ≤ b) = true := decide_eq_true h2; have HBD : Hid (ordB d (fN : Int) (b :: pb.drop (j + 1)) bs2 = none) := hd' (by rw [ordB, if_pos (.inr (.inl (by rw [HN.out.1]; exact h2)))]); clear h1 h2
                        go_upto_region 14 with fail
                        go_quiet (fail)
                        go_wp2_with fail
                        go_ret
                        exact HBAD3.out _ HBD.out (below_drewN (Below.refl _ _) _)
                      · obtain ⟨bN, rfl⟩ := Int.eq_ofNat_of_zero_le (show 0 ≤ b by omega); have hbN : bN < nB := by omega
                        have hbI : (bN : Int) < (nB : Int) := by omega
                        have hb0 : (0 : Int) ≤ (bN : Int) := by omega
                        have q1 : decide ((bN : Int) < 0) = false := decide_eq_false (by omega); have q2 : decide ((nB : Int) ≤ (bN : Int)) = false := decide_eq_false (by omega); have q2n : decide (nB ≤ bN) = false := decide_eq_false (by omega); have m1 := HM2.out.2.cell bN (marksV_at hbN); have ml1 := HM2.out.2.lt; have hn1 : ¬ (bN : Int) < 0 := by omega
                        have hn2 : ¬ (nB : Int) ≤ (bN : Int) := by omega
                        have HN12 := hd' (And.intro hn1 hn2); clear h1 h2 hn1 hn2; rcases h3 : bs2.contains (bN : Int) with _ | _
                        · rw [h3] at m1; have hbk : d.blocks[bN]? = some (d.blocks[bN]'(by have := HN.out; omega)) := gE' _; obtain ⟨B, hBe⟩ := ex' (d.blocks[bN]'(by have := HN.out; omega))
                          rw [hBe] at hbk; obtain ⟨vb, xg, xo, hxA, hxgl, -, hxc⟩ := (HFLY.out.below HB2.out).at hbk; have x0 := hxc 0 _ rfl; simp only [Nat.add_zero] at x0
                          have hxcap : nB ≤ xc := by
                           obtain ⟨l0, e1, e2, -⟩ := HFLY.out; rw [← HN.out.1]; exact e2.2.1
                          have HGB : Hid ((d.blocks.getD bN blkZ).fn = B.fn) := hd' (by rw [List.getD_eq_getElem?_getD, hbk]; rfl); obtain ⟨BF, hBF⟩ := ex' B.fn
                          rw [hBF] at x0 HGB; have H3B := hd' h3; subst hxA; clear hbk hBe hxc hBF h3
                          by_cases h4 : BF = (fN : Int)
                          · have q4 : (BF != (fN : Int)) = false := by simp [h4]
                            have HOK2 : Hid (ordB d (fN : Int) ((bN : Int) :: pb.drop (j + 1)) bs2 = ordB d (fN : Int) (pb.drop (j + 1)) ((bN : Int) :: bs2)) := hd' (by
                             rw [ordB, if_neg]; rintro (h | h | h | h)
                             · exact HN12.out.1 h
                             · rw [HN.out.1] at h; exact HN12.out.2 h
                             · rw [H3B.out] at h
                               cases h
                             · rw [Int.toNat_natCast, HGB.out] at h
                               exact h h4)
                            have mf1 := HM2.out.2.free bN; clear h4
                            go_upto_region 14 with fail
                            go_quiet (fail)
                            go_upto_region 17 with fail
                            obtain ⟨U2, hU2⟩ := ex' ((w2.drewN nq).setCell ⟨gB, bN, none⟩ (.bool true))
                            have hgU : w2.grownBy U2 (some gB) := by rw [← hU2]; exact gb_trans (gb_drewN (gb_refl w2 (some gB)) nq) (gb_setCell (gb_refl _ (some gB)) bN (.bool true))
                            have k2 : Blk U2 gB 4 (marksV nB ((bN : Int) :: bs2)) := by rw [← hU2, ← marksV_set]; exact (HM2.out.2.drewN nq).set bN (.bool true)
                            have k1 : Blk U2 gF 4 (marksV nF ((fN : Int) :: fs)) := HM2.out.1.gb hgU (fun e => by injection e with e; exact hne e.symm); have hty2 : ∀ q, some gB = some q → TypB w2 q 4 := fun q e => by injection e with e; subst e; exact HM2.out.2.typ
                            have k3 := HP2.out.keepT hgU hty2 (by decide); have k4 : Below Y.heap.size Y U2 := below_gb HB2.out hgU (fun q e => by injection e with e; subst e; exact HGE.out.2); rw [hU2]; have HK1 := hd' (And.intro k1 k2); have HK3 := hd' k3; have HK4 := hd' k4; clear hU2 hgU k1 k2 hty2 k3 k4
                            go_wp2
                            go_roundg (nP - (j + 1))
                            case measure => omega
                            case rel => exact ⟨j + 1, (bN : Int) :: bs2, by omega, (by go_num), (by rw [List.length_cons, HC2.out]; go_num), hd' (by rw [HO2.out, HDJ.out, HOK2.out]), HK4, HK1, HK3, by rw [List.length_cons, HC2.out]; omega, Nat.le_refl _⟩
                          · have q4 : (BF != (fN : Int)) = true := by simp [h4]
                            have HBD : Hid (ordB d (fN : Int) ((bN : Int) :: pb.drop (j + 1)) bs2 = none) := hd' (by rw [ordB, if_pos (.inr (.inr (.inr (by rw [Int.toNat_natCast, HGB.out]; exact h4))))]); clear h4
                            go_upto_region 14 with fail
                            go_quiet (fail)
                            go_wp2_with fail
                            go_ret
                            exact HBAD3.out _ HBD.out (below_drewN (Below.refl _ _) _)
                        · rw [h3] at m1; have HBD : Hid (ordB d (fN : Int) ((bN : Int) :: pb.drop (j + 1)) bs2 = none) := hd' (by rw [ordB, if_pos (.inr (.inr (.inl h3)))]); clear h3
                          go_upto_region 14 with fail
                          go_quiet (fail)
                          go_wp2_with fail
                          go_ret
                          exact HBAD3.out _ HBD.out (below_drewN (Below.refl _ _) _)
                  · obtain rfl : j = nP := by omega
                    have hltJ : ¬ (j : Int) < (j : Int) := by omega
                    have HNEW : Hid (ordP d [] [] [] = ordP d [] [] []) := hd' rfl
                    have hob : ordB d (fN : Int) pb bs = some bs2 := by
                     rw [HO2.out, List.drop_of_length_le (by rw [HNP.out]; exact Nat.le_refl _)]
                     rfl
                    have HOB := hd' hob; clear hob HNEW
                    go_wp2
                    go_roundg (nL - (i + 1))
                    case measure => omega
                    case rel => exact ⟨i + 1, (fN : Int) :: fs, bs2, by omega, (by go_num), by rw [HC2.out], hd' (by rw [HO.out, HD.out, HSTEP.out, HOB.out]), HB2, HM2, by rw [HC2.out]; omega, Nat.le_refl _⟩
               · have q5 : (b0 != ff) = true := by simp [h5]
                 have hbad : ordP d (⟨(fN : Int), pb⟩ :: l.drop (i + 1)) fs bs = false := by
                  rw [ordP, if_pos (.inr (.inr (.inr (by rw [hpb, Int.toNat_natCast, hgd]; simpa using h5))))]
                 have HBD := hd' hbad; clear h4 h5 hbad hpb hp0 hfir hff hflw hgd
                 go_quiet (fail)
                 go_wp2_with fail
                 go_ret
                 exact HBAD.out _ HBD.out (below_drewN (Below.refl _ _) _)
           · rw [h3] at b1; have hbad : ordP d (⟨(fN : Int), pb⟩ :: l.drop (i + 1)) fs bs = false := by rw [ordP, if_pos (.inr (.inr (.inl h3)))]
             have HBD := hd' hbad; clear h3 hbad
             go_quiet (fail)
             go_wp2_with fail
             go_ret
             exact HBAD.out _ HBD.out (below_drewN (Below.refl _ _) _)
     · obtain rfl : i = nL := by omega
       have hltI : ¬ (i : Int) < (i : Int) := by omega
       have HRR : Hid (R = (CT == nB)) := hd' (by
        rw [← HR.out, ordOk, HN.out.2.2, HN.out.2.1, HLF.out, HO.out, List.drop_of_length_le (by rw [HN.out.2.2]; exact Nat.le_refl _), ordP, HCT.out, HN.out.1]
        simp)
       have hfw := HFY.out.keep HB.out; have f0 := hfw.cell 0 rfl; have fl := hfw.lt; have HBE := hd' (HBY.out.trans (HB.out.mono HBY.out.size)); clear hfw
       by_cases hc : CT = nB
       · have q : ((CT : Int) != (nB : Int)) = false := by simp [hc]
         have e : R = true := by rw [HRR.out]; simpa using hc
         subst e; clear hc
         go_wp2_with fail
         go_ret
         exact ⟨rfl, HBE.out⟩
       · have q : ((CT : Int) != (nB : Int)) = true := by simp; omega
         have e : R = false := by rw [HRR.out]; simpa using hc
         subst e; clear hc
         go_wp2_with fail
         go_ret
         exact ⟨rfl, HBE.out⟩
 · have qL : ((nL : Int) != (nF : Int)) = true := by simp; omega
   have e : R = false := by
    rw [← HR.out, ordOk, HN.out.2.2, HN.out.2.1]; have : (nL == nF) = false := by simpa using hLF
    rw [this]
    rfl
   subst e; clear hLF
   go_wp2_with fail
   go_ret
   exact ⟨rfl, HBY.out⟩
end Go.Proofs.YtcafhoobeggmeaaDoor
