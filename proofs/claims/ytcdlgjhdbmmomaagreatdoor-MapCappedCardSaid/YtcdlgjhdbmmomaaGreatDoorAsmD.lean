/- boltholekeep's assembled, walked. -/
import Derived.Test.YtcdlgjhdbmmomaaGreatDoorAsmG
import Derived.Test.YtcdlgjhdbmmomaaGreatDoorKeepD
import Derived.Test.YtcdlgjhdbmmomaaGreatDoorRegX
import Derived.Deep.RegionHeld3
import Derived.Deep.RegionLaw
import Derived.Deep.DeepCutAuto
import Derived.Deep.CutBlock
import Derived.Deep.LoopGhost
import Derived.Deep.QuietTactic
import Derived.BigQuiet
import Derived.IntWalk
import Derived.WalkLawsBesides
namespace Go.Proofs.YtcdlgjhdbmmomaaGreatDoor
open Go.RowKit
theorem infoInt2 : (Tryz.prog.info? 3).map (fun i => (i.zero, i.size, i.bytes)) = some (some (.int .i64 0), 1, 8) := by kernel_rfl
theorem PlanAt.rd2 {w : World} {base X : Nat} {bs : List (List Spot)} {fs : List Int} {gb bc gf fc : Nat} {gs : List (Nat × Nat)} (h : PlanAt w base X bs fs (some ⟨gb, 0, none⟩) bc (some ⟨gf, 0, none⟩) fc gs) (h1 : bs.length ≠ 0) (h2 : fs.length ≠ 0) : PlanRd w X bs fs gb bc gf fc gs := by
 obtain ⟨gb', gf', e1, e2, h3⟩ := h.rd h1 h2; injection e1 with e1; injection e1 with e1; injection e2 with e2; injection e2 with e2; subst e1; subst e2; exact h3
def atsL (bs : List (List Spot)) (k : Nat) : List Int := (List.range k).map fun (i : Nat) => atB bs (i : Int)
theorem atsL_succ (bs : List (List Spot)) (k : Nat) : atsL bs (k + 1) = atsL bs k ++ [atB bs (k : Int)] := by simp [atsL, List.range_succ]
theorem atB_done (bs : List (List Spot)) (k : Nat) : atB bs (k : Int) = szL (doneL bs k 0) := by
 rw [doneL_zero]; rfl
theorem own_ats {wr wy : World} {base nb c t : Nat} {A : Option Addr} {cur : List (List Spot)} (hb : Below wr.heap.size wr wy) (h : wr.ownsRow base 3 1 (.slice A nb c) nb (intsV .i64 (atsL cur nb))) (ht : t < nb) :
 ∃ ga, A = some ⟨ga, 0, none⟩ ∧ wy.cell? ⟨ga, t, none⟩ = some (.int .i64 (atB cur (t : Int))) ∧ nb ≤ c := by
 obtain ⟨ga, rfl⟩ := own_some h (by omega); obtain ⟨o1, o2, o3, o4⟩ := own_at (own_keep h hb); refine ⟨ga, rfl, o4 t _ ?_, o1⟩; simp [intsV, atsL, ht]
theorem ats_cell {w : World} {base nb c t ga : Nat} {cur : List (List Spot)} (h : w.ownsRow base 3 1 (.slice (some ⟨ga, 0, none⟩) nb c) nb (intsV .i64 (atsL cur nb))) (ht : t < nb) : w.cell? ⟨ga, t, none⟩ = some (.int .i64 (atB cur (t : Int))) := by
 obtain ⟨g, e, h2, _⟩ := own_ats (Below.refl _ _) h ht; injection e with e; injection e with e; subst e; exact h2
theorem infoLine : (Tryz.prog.info? 144).map (fun i => (i.zero, i.size, i.bytes)) = some (some (.agg #[.int .i64 0, .int .i64 0]), 2, 16) := by kernel_rfl
theorem linL_le : ∀ (l : List Spot) (ln here : Int), (linL ln here l).length ≤ l.length := by
 intro l
 induction l with
 | nil => intro _ _; exact Nat.le_refl _
 | cons x r ih =>
  intro ln here; simp only [linL]
  split
  · have := ih ln (here + szS x); simp only [List.length_cons]; omega
  · have := ih x.line (here + szS x); simp only [List.length_cons]; omega
theorem own_cap {w : World} {base n c : Nat} {A : Option Addr} {L : List Int} (h : OwnB w base (.slice A n c) L) (hl : L.length = n) : n ≤ c := by
 rcases h.2 with ⟨_, e⟩ | ⟨g, cap, cur, hv, _, _, hnc, _⟩
 · omega
 · injection hv with _ h2 h3; omega
theorem blk_cells {w : World} {X gb bc gf fc : Nat} {bs : List (List Spot)} {fs : List Int} {gs : List (Nat × Nat)} (h : PlanRd w X bs fs gb bc gf fc gs) {k j g c : Nat} {b : List Spot} {s : Spot} (hg : gs[k]? = some (g, c)) (hb : bs[k]? = some b) (hs : b[j]? = some s) :
 w.cell? ⟨gb, k, none⟩ = some (.slice (some ⟨g, 0, none⟩) b.length c) ∧ g < w.heap.size ∧ w.cell? ⟨g, j * 9 + 5, none⟩ = some (.bool s.i.l) ∧ b.length ≤ c := by
 obtain ⟨g', c', h1, h2, h3, h4, h5⟩ := h.blk k b hb; rw [hg] at h1; injection h1 with h1; injection h1 with e1 e2; subst e1; subst e2; exact ⟨h2, h4, h5 _ _ (spotsC_at hs 5 _ rfl), h3⟩
theorem size_ok (k d a b n : Int) (l : Bool) (w : World) (hT : Tabs w) (h : chk k d a b n l = 0) : Calls Tryz.prog 75 #[.agg #[.int .i64 k, .int .i64 d, .int .i64 a, .int .i64 b, .int .i64 n, .bool l]] w fun e w' => e = .returned (.tuple #[.int .i64 (sizeK k l), .int .i64 0]) ∧ Below w.heap.size w w' := by
 have := size_any k d a b n l w hT; rw [h, if_pos rfl] at this; exact this
set_option maxHeartbeats 8000000 in
set_option maxRecDepth 100000 in
theorem asm_any (w00 w : World) (base X : Nat) (bs : List (List Spot)) (fs : List Int) (bA : Option Addr) (bc : Nat) (fA : Option Addr) (fc : Nat) (gs : List (Nat × Nat)) (L : List RawI) (A : Option Addr) (c : Nat) (hT : Tabs w00) (h00 : w00.heap.size ≤ base) (hb00 : Below w00.heap.size w00 w) (hR : RdR w base A L) (hP : PlanAt w base X bs fs bA bc fA fc gs) (hO : PlanOk bs fs) (hl : L.length ≤ 150) (hc : L.length ≤ c) :
 Calls Tryz.prog 54 #[.pointer (some ⟨X, 0, none⟩), .slice A L.length c] w (AsmPost w base bs fs L) := by
 have HT := hd' hT; have H00 := hd' hb00; have HR := hd' hR; have HO := hd' hO; obtain ⟨h0b, h0f⟩ := hO.fnz; obtain ⟨gb, gf, rfl, rfl, hrd⟩ := hP.rd h0b h0f; have hXl := hP.blk.lt; have hX00 := h00; obtain ⟨lm, hlm⟩ := ex' L.length
 rw [hlm] at hl hc ⊢; have HLM := hd' hlm; have HP := hd' hP; clear hT hb00 hR hO hP hrd h0b h0f hlm h00
 go_enter Tryz.func54, Tryz.ntmps54
 go_wp2_with fail
 obtain ⟨v0, hv0⟩ := ex' ((((w.alloc (.cells #[.slice none 0 0, .slice none 0 0, .slice none 0 0, .slice none 0 0, .slice none 0 0, .int .i64 0] 30)).alloc (.cells #[.int .i64 5, .int .i64 (-3), .int .i64 0, .int .i64 7, .int .i64 1, .int .i64 2] 3)).alloc (.cells #[.slice none 0 0, .slice none 0 0, .slice none 0 0, .slice (some ⟨w.heap.size + 1, 0, none⟩) 6 6, .slice none 0 0, .int .i64 0] 30)))
 rw [hv0, show w.heap.size + 1 + 1 = w.heap.size + 2 from rfl]; have hb0 : Below w.heap.size w v0 := by rw [← hv0]; exact (((Below.refl _ _).alloc lr' _).alloc (by simp) _).alloc (by simp; omega) _
 have hS0 : AsmS w v0 base X bs fs (some ⟨gb, 0, none⟩) bc (some ⟨gf, 0, none⟩) fc gs [.slice none 0 0, .slice none 0 0, .slice none 0 0, .slice (some ⟨w.heap.size + 1, 0, none⟩) 6 6, .slice none 0 0, .int .i64 0] := by
  have hpb := HP.out.bX; refine ⟨HP.out.below hb0, hXl, fun q hq => (own_blk_lt HP.out.outer hq).2, fun q hq => (own_blk_lt HP.out.fown hq).2, fun j g hg => ?_, hb0.mono (by omega), ?_, ?_, ?_⟩
  · have hl2 := (List.getElem?_eq_some_iff.1 hg).1; have hb2 : bs[j]? = some (bs[j]'(by rw [← HP.out.gl]; exact hl2)) := gE' _; exact (own_lt (HP.out.inner j g _ hg hb2).1).2
  · rw [← hv0]; exact ((Blk.new w _ _).alloc _).alloc _
  · rw [← hv0]; exact (Blk.new2 w _ _ _).alloc _
  · rw [← hv0]; have := Blk.new2 (w.alloc (.cells #[.slice none 0 0, .slice none 0 0, .slice none 0 0, .slice none 0 0, .slice none 0 0, .int .i64 0] 30)) (.cells #[.int .i64 5, .int .i64 (-3), .int .i64 0, .int .i64 7, .int .i64 1, .int .i64 2] 3) [.slice none 0 0, .slice none 0 0, .slice none 0 0, .slice (some ⟨w.heap.size + 1, 0, none⟩) 6 6, .slice none 0 0, .int .i64 0] 30; simpa using this
 have HS0 := hd' hS0; clear hv0 hb0 hS0 hXl
 go_loopg [6] (nlL bs + 1) (fun gk s6 wr => ∃ (cur : List (List Spot)) (tv fv bv lv : Value) (ag : Bool), s6 = .bool ag ∧ Hid (AsmS w wr base X cur fs (some ⟨gb, 0, none⟩) bc (some ⟨gf, 0, none⟩) fc gs [tv, fv, bv, .slice (some ⟨w.heap.size + 1, 0, none⟩) 6 6, lv, .int .i64 0]) ∧ Hid (PlanOk cur fs) ∧ Hid (SameL bs cur) ∧ Hid (ag = true → nlL cur < gk) ∧ Hid (ag = false → AsmFin w wr cur fs L tv fv bv lv))
 case atStart => exact ⟨bs, _, _, _, _, true, rfl, HS0.out, HO.out, SameL.refl bs, fun _ => Nat.lt_succ_self _, fun h => by cases h⟩
 case round =>
  as_aux_lemma =>
   clear HS0
   rename World => wo
   obtain ⟨cur, tv, fv, bv, lv, ag, rfl, HS, HPK, HSM, HN, HFIN⟩ := hrel
   cases ag
   · skip
     obtain ⟨tA1, tl1, tc1, fA1, fl1, fc1, bA1, bl1, bc1, lA1, ll1, lc1, e1, e2, e3, e4⟩ := (HFIN.out rfl).shape; subst e1 e2 e3 e4; have hfin := HFIN.out rfl; obtain ⟨v, hv, how, hok, hpr⟩ := asm_own HS.out hfin HPK.out HSM.out; have hm := HS.out.m; have hr := HS.out.r; have m0 : wo.cell? ⟨w.heap.size + 2, 0, none⟩ = some (.slice tA1 tl1 tc1) := hm.cell 0 rfl; have m1 : wo.cell? ⟨w.heap.size + 2, 1, none⟩ = some (.slice fA1 fl1 fc1) := hm.cell 1 rfl; have m2 : wo.cell? ⟨w.heap.size + 2, 2, none⟩ = some (.slice bA1 bl1 bc1) := hm.cell 2 rfl
     have m3 : wo.cell? ⟨w.heap.size + 2, 3, none⟩ = some (.slice (some ⟨w.heap.size + 1, 0, none⟩) 6 6) := hm.cell 3 rfl; have m4 : wo.cell? ⟨w.heap.size + 2, 4, none⟩ = some (.slice lA1 ll1 lc1) := hm.cell 4 rfl; have m5 : wo.cell? ⟨w.heap.size + 2, 5, none⟩ = some (.int .i64 0) := hm.cell 5 rfl; have rr0 : wo.cell? ⟨w.heap.size, 0, none⟩ = some (.slice none 0 0) := hr.cell 0 rfl; have rr1 : wo.cell? ⟨w.heap.size, 1, none⟩ = some (.slice none 0 0) := hr.cell 1 rfl; have rr2 : wo.cell? ⟨w.heap.size, 2, none⟩ = some (.slice none 0 0) := hr.cell 2 rfl
     have rr3 : wo.cell? ⟨w.heap.size, 3, none⟩ = some (.slice none 0 0) := hr.cell 3 rfl; have rr4 : wo.cell? ⟨w.heap.size, 4, none⟩ = some (.slice none 0 0) := hr.cell 4 rfl; have rr5 : wo.cell? ⟨w.heap.size, 5, none⟩ = some (.int .i64 0) := hr.cell 5 rfl; have rf0 : wo.frozen? ⟨w.heap.size, 0, none⟩ = false := hr.free 0; have rf1 : wo.frozen? ⟨w.heap.size, 1, none⟩ = false := hr.free 1; have rf2 : wo.frozen? ⟨w.heap.size, 2, none⟩ = false := hr.free 2; have rf3 : wo.frozen? ⟨w.heap.size, 3, none⟩ = false := hr.free 3; have rf4 : wo.frozen? ⟨w.heap.size, 4, none⟩ = false := hr.free 4
     have rf5 : wo.frozen? ⟨w.heap.size, 5, none⟩ = false := hr.free 5; have rl := hr.lt; have mlt := hm.lt; have hbw : base ≤ w.heap.size := by have := HS.out.plan.bX; have := HS.out.ltX; omega
     have HV := hd' hv; have HOW := hd' how; have HOK := hd' hok; have HPR := hd' hpr; have HRR := hd' hr; clear hfin hv how hok hpr hm hr HFIN
     go_wp2
     refine bodyPost_ret (results_cell_row rfl _ _ w.heap.size 30 #[.slice tA1 tl1 tc1, .slice fA1 fl1 fc1, .slice bA1 bl1 bc1, .slice (some ⟨w.heap.size + 1, 0, none⟩) 6 6, .slice lA1 ll1 lc1, .int .i64 0] (0, 0) _ rfl (show Blk _ w.heap.size 30 [.slice tA1 tl1 tc1, .slice fA1 fl1 fc1, .slice bA1 bl1 bc1, .slice (some ⟨w.heap.size + 1, 0, none⟩) 6 6, .slice lA1 ll1 lc1, .int .i64 0] from ((((((HRR.out.set 0 _).set 1 _).set 2 _).set 3 _).set 4 _).set 5 _)) Tryz.underlying30 rfl (by kernel_rfl)) rfl ?_
     exact ⟨HS.out.bel.trans (gb_to_below (gb_setCell (gb_setCell (gb_setCell (gb_setCell (gb_setCell (gb_setCell (gb_refl wo (some w.heap.size)) _ _) _ _) _ _) _ _) _ _) _ _) hbw (by have := HS.out.bel.size; omega)), v, imgOf cur fs L, by rw [HV.out], (HOW.out.gb (gb_setCell (gb_setCell (gb_setCell (gb_setCell (gb_setCell (gb_setCell (gb_refl wo (some w.heap.size)) _ _) _ _) _ _) _ _) _ _) _ _) (Nat.lt_succ_self _)).more (by omega), HOK.out, HPR.out⟩
   · clear HFIN; obtain ⟨nb, hnb⟩ := ex' cur.length
     obtain ⟨hcb, hcf⟩ := HPK.out.fnz; have HFZ := hd' hcf; have hnb120 := HPK.out.nb; rw [hnb] at hnb120; have HNB := hd' hnb; have hz3 := HS.out.size; have x0 : wo.cell? ⟨X, 0, none⟩ = some (.slice (some ⟨gb, 0, none⟩) nb bc) := by rw [← hnb]; exact HS.out.plan.blk.cell 0 rfl
     have xl := HS.out.plan.blk.lt; have HT2 : Hid (∀ W, Below wo.heap.size wo W → Tabs W) := hd' fun W hW => HT.out.below (H00.out.trans (((HS.out.keep hW).bel).mono hX00))
     have HT3 : Hid (∀ W, Below base w W → Tabs W) := hd' fun W hW => HT.out.below (H00.out.trans (hW.mono hX00))
     have HPRD : Hid (∀ W, Below wo.heap.size wo W → PlanRd W X cur fs gb bc gf fc gs) := hd' fun W hW => (HS.out.keep hW).plan.rd2 hcb hcf
     clear hnb hcb hcf
     go_upto_block 2 with fail
     go_cut [7, 8] (fun s7 s8 wx => ∃ A c, s7 = .slice A nb c ∧ s8 = .int .i64 (szL cur.flatten) ∧ Hid (wx.ownsRow wo.heap.size 3 1 (.slice A nb c) nb (intsV .i64 (atsL cur nb))) ∧ Hid (Below wo.heap.size wo wx))
     case first =>
      as_aux_lemma =>
       go_wp2_with fail
       go_loopg [7, 8, 42] nb (fun gk2 s7 s8 s42 wr2 => ∃ (k : Nat) (A : Option Addr) (c : Nat), k ≤ nb ∧ s42 = .int .i64 k ∧ s7 = .slice A k c ∧ s8 = .int .i64 (atB cur (k : Int)) ∧ Hid (wr2.ownsRow wo.heap.size 3 1 (.slice A k c) k (intsV .i64 (atsL cur k))) ∧ Hid (Below wo.heap.size wo wr2) ∧ nb - k ≤ gk2)
       case atStart => exact ⟨0, none, 0, Nat.zero_le _, rfl, rfl, rfl, ⟨rfl, .inl ⟨rfl, rfl⟩⟩, Below.refl _ _, Nat.le_refl _⟩
       case round =>
        as_aux_lemma =>
         obtain ⟨k, A1, c1, hk, rfl, rfl, rfl, HOW, HBW, hgk2⟩ := hrel
         by_cases hlt : k < nb
         · have hltI : (k : Int) < (nb : Int) := by omega
           have hrd := HPRD.out _ HBW.out; have hb : cur[k]? = some (cur[k]'(by rw [HNB.out]; exact hlt)) := gE' _; obtain ⟨b, hbe⟩ := ex' (cur[k]'(by rw [HNB.out]; exact hlt))
           rw [hbe] at hb; obtain ⟨g, gc, hgs, hcb, hbc, hgl, hcs⟩ := hrd.blk k b hb; have hbl := HPK.out.blen (mG' hb); obtain ⟨bn, hbn⟩ := ex' b.length
           rw [hbn] at hcb hbc hbl; have HBN := hd' hbn; have hnbc : nb ≤ bc := by rw [← HNB.out]; exact hrd.bcap
           have hblt := hrd.bl; have hab := HPK.out.atB_bd (k : Int); have HB := hd' hb; have HCS := hd' hcs; have HGS := hd' hgs; have hwr2 := HBW.out.size; clear hrd hbe hb hcs hgs hbn
           go_wp2_with (first | (refine app_one rfl _ _ 27 3 1 8 _ Tryz.underlying27 infoInt2 rfl (by decide) rfl wo.heap.size _ k _ rfl (World.ownsRow.alloc HOW.out _) wr.heap.size 1 rfl [.int .i64 (atB cur (k : Int))] 3 (0, 0) (heap_alloc_new wr _) rfl (by simp [Value.oneCell']) (by omega) (by omega) (by simp; omega) (wr.heap.size + 1) (by simp) ?a1))
           case a1 =>
            as_aux_lemma =>
             intro g2 c2 w2 ho2 hgr2 hat2 hlt2; have hbn2 : Below wo.heap.size wo w2 := (HBW.out.alloc hwr2 _).trans (gb_below_of hgr2 (fun q hq => (World.ownsRow.lt HOW.out q hq).1) (HBW.out.alloc hwr2 _).size); have HO2 : Hid (w2.ownsRow wo.heap.size 3 1 (.slice (some ⟨g2, 0, none⟩) (k + 1) c2) (k + 1) (intsV .i64 (atsL cur (k + 1)))) := hd' (by rw [atsL_succ]; simpa [intsV] using ho2); have HB2 := hd' hbn2; have hs2 := hbn2.size; clear ho2 hgr2 hat2 hbn2 hcb hgl HOW HBW
             go_wp2_with fail
             go_loopg [8, 52] bn (fun gk3 s8 s52 wr3 => ∃ j : Nat, j ≤ bn ∧ s52 = .int .i64 j ∧ s8 = .int .i64 (szL (doneL cur k j)) ∧ Hid (Below w2.heap.size w2 wr3) ∧ bn - j ≤ gk3)
             case atStart => exact ⟨0, Nat.zero_le _, rfl, by rw [atB_done], Below.refl _ _, Nat.le_refl _⟩
             case round =>
              as_aux_lemma =>
               obtain ⟨j, hj, rfl, rfl, HB3, hgk3⟩ := hrel
               by_cases hjl : j < bn
               · have hjlI : (j : Int) < (bn : Int) := by omega
                 have hsl : b[j]? = some (b[j]'(by rw [HBN.out]; exact hjl)) := gE' _; obtain ⟨⟨⟨sk, sd, sa, sb, sn, sl⟩, sB, sF, sL⟩, hse⟩ := ex' (b[j]'(by rw [HBN.out]; exact hjl))
                 rw [hse] at hsl; have hbw3 := HB2.out.trans (HB3.out.mono hs2); obtain ⟨g', gc', hgs', -, -, hgl, hcs⟩ := (HPRD.out _ hbw3).blk k b HB.out; rw [HGS.out] at hgs'; injection hgs' with hgs'; injection hgs' with e1 e2; subst e1; subst e2; have d0 := hcs (j * 9 + 0) (.int .i64 sk) (spotsC_at hsl 0 _ rfl); have d1 := hcs (j * 9 + 1) (.int .i64 sd) (spotsC_at hsl 1 _ rfl); have d2 := hcs (j * 9 + 2) (.int .i64 sa) (spotsC_at hsl 2 _ rfl); have d3 := hcs (j * 9 + 3) (.int .i64 sb) (spotsC_at hsl 3 _ rfl); have d4 := hcs (j * 9 + 4) (.int .i64 sn) (spotsC_at hsl 4 _ rfl)
                 have d5 := hcs (j * 9 + 5) (.bool sl) (spotsC_at hsl 5 _ rfl); have d6 := hcs (j * 9 + 6) (.int .i64 sB) (spotsC_at hsl 6 _ rfl); have d7 := hcs (j * 9 + 7) (.int .i64 sF) (spotsC_at hsl 7 _ rfl); have d8 := hcs (j * 9 + 8) (.int .i64 sL) (spotsC_at hsl 8 _ rfl); simp only [Nat.add_zero] at d0; have hok := HPK.out.ok b (mG' HB.out) _ (mG' hsl); have hsz := szS_bd hok; have hdn := doneL_bd HPK.out k j; have hnext := doneL_succ HB.out hsl
                 have hnx : szL (doneL cur k j) + sizeK sk sl = szL (doneL cur k (j + 1)) := by
                  rw [hnext, szL_app]; simp [szL, szS]
                 have HNX := hd' hnx; have HCK : Hid (chk sk sd sa sb sn sl = 0) := hd' hok.1; have hsz' : 1 ≤ sizeK sk sl ∧ sizeK sk sl ≤ 4 := hsz; obtain ⟨q1, q2⟩ := hsz'; obtain ⟨q3, q4⟩ := hdn; have HB3S := HB3.out.size; have HTT := hd' (HT2.out _ hbw3); clear hse hsl hbw3 hcs hok hsz hnext hnx
                 go_wp2_with (first | (go_at_call 75; refine (size_ok _ _ _ _ _ _ _ (HTT.out.alloc _) HCK.out).mono ?_; rintro e w5 ⟨rfl, hb5⟩; have HB5 := hd' (HB3.out.trans (((Below.refl wr.heap.size wr).alloc lr' _).trans (hb5.mono (by simp)) |>.mono HB3S)); clear hb5))
                 rw [HNX.out]
                 go_roundg (bn - (j + 1))
                 case measure => omega
                 case rel => exact ⟨j + 1, by omega, by go_num, rfl, HB5.out, Nat.le_refl _⟩
               · have hjlI : ¬ (j : Int) < (bn : Int) := by omega
                 obtain rfl : j = bn := by omega
                 go_wp2
                 go_roundg (nb - (k + 1))
                 case measure => omega
                 case rel =>
                  refine ⟨k + 1, _, _, by omega, by go_num, rfl, ?_, own_keep HO2.out HB3.out, HB2.out.trans (HB3.out.mono hs2), Nat.le_refl _⟩; rw [atB_done, ← doneL_next HB.out, HBN.out]
         · have hltI : ¬ (k : Int) < (nb : Int) := by omega
           obtain rfl : k = nb := by omega
           go_wp2
           go_meet
           exact ⟨_, _, rfl, by rw [atB_done, ← HNB.out, doneL_all], HOW, HBW⟩
     case rest =>
      as_aux_lemma =>
       obtain ⟨atA, atC, rfl, rfl, HAT, HBA⟩ := hcut; have hSA := HS.out.keep HBA.out; have m0 := hSA.m.cell 0 rfl; have m4 := hSA.m.cell 4 rfl; have mf0 := hSA.m.free 0; have mf4 := hSA.m.free 4; have ml := hSA.m.lt; have hneX : ¬ w.heap.size + 2 = X := by have := HS.out.ltX; omega
       have x0 : wc.cell? ⟨X, 0, none⟩ = some (.slice (some ⟨gb, 0, none⟩) nb bc) := by rw [← HNB.out]; exact hSA.plan.blk.cell 0 rfl
       have HSA := hd' hSA; clear hSA
       go_upto_block 6 with fail
       obtain ⟨wa, hwa⟩ := ex' ((wc.setCell ⟨w.heap.size + 2, 0, none⟩ (.slice none 0 0)).setCell ⟨w.heap.size + 2, 4, none⟩ (.slice none 0 0))
       rw [hwa]; have hSB : AsmS w wa base X cur fs (some ⟨gb, 0, none⟩) bc (some ⟨gf, 0, none⟩) fc gs [.slice none 0 0, fv, bv, .slice (some ⟨w.heap.size + 1, 0, none⟩) 6 6, .slice none 0 0, .int .i64 0] := by rw [← hwa]; exact (HSA.out.setM 0 _).setM 4 _
       have hgw : wc.grownBy wa (some (w.heap.size + 2)) := by rw [← hwa]; exact gb_setCell (gb_setCell (gb_refl _ _) _ _) _ _
       have hatn : ∀ q, (Value.slice atA nb atC).ownBlock = some q → wo.heap.size ≤ q ∧ q < wa.heap.size := fun q hq => by
        have h1 := World.ownsRow.lt HAT.out q hq; have h2 := hgw.size; omega
       have hAT2 : wa.ownsRow wo.heap.size 3 1 (.slice atA nb atC) nb (intsV .i64 (atsL cur nb)) := own_gb HAT.out hgw fun e => by have := hatn _ e; omega
       have hwoa : wo.heap.size ≤ wa.heap.size := by have := hgw.size; have := HBA.out.size; omega
       have HSB := hd' hSB; have HAT2 := hd' hAT2; have HATN := hd' hatn; clear hwa hSB hgw hAT2 hatn m0 m4 mf0 mf4 ml x0 HSA HAT HBA
       go_cut [6, 15] (fun s6 s15 wx => ∃ (cur' : List (List Spot)) (ag : Bool) (tA : Option Addr) (tc : Nat) (lA : Option Addr) (lc : Nat), s6 = .bool ag ∧ Hid (AsmS w wx base X cur' fs (some ⟨gb, 0, none⟩) bc (some ⟨gf, 0, none⟩) fc gs [.slice tA (codeL cur fs 0 cur.flatten).length tc, fv, bv, .slice (some ⟨w.heap.size + 1, 0, none⟩) 6 6, .slice lA (linL 0 0 cur.flatten).length lc, .int .i64 0]) ∧ Hid (TxL wx wa.heap.size (.slice tA (codeL cur fs 0 cur.flatten).length tc) (.slice lA (linL 0 0 cur.flatten).length lc) (codeL cur fs 0 cur.flatten) (linL 0 0 cur.flatten)) ∧ Hid (wx.ownsRow wo.heap.size 3 1 (.slice atA nb atC) nb (intsV .i64 (atsL cur nb))) ∧ Hid (CurR cur cur' fs nb 0 ag) ∧ wa.heap.size ≤ wx.heap.size)
       case first =>
        as_aux_lemma =>
         go_wp2_with fail
         go_loopg [6, 15, 74] nb (fun gk2 s6 s15 s74 wr2 => ∃ (k : Nat) (cur' : List (List Spot)) (ag : Bool) (tA : Option Addr) (tc : Nat) (lA : Option Addr) (lc : Nat), k ≤ nb ∧ s74 = .int .i64 k ∧ s6 = .bool ag ∧ s15 = .int .i64 (lnAfter 0 (doneL cur k 0)) ∧ Hid (AsmS w wr2 base X cur' fs (some ⟨gb, 0, none⟩) bc (some ⟨gf, 0, none⟩) fc gs [.slice tA (codeL cur fs 0 (doneL cur k 0)).length tc, fv, bv, .slice (some ⟨w.heap.size + 1, 0, none⟩) 6 6, .slice lA (linL 0 0 (doneL cur k 0)).length lc, .int .i64 0]) ∧ Hid (TxL wr2 wa.heap.size (.slice tA (codeL cur fs 0 (doneL cur k 0)).length tc) (.slice lA (linL 0 0 (doneL cur k 0)).length lc) (codeL cur fs 0 (doneL cur k 0)) (linL 0 0 (doneL cur k 0))) ∧ Hid (wr2.ownsRow wo.heap.size 3 1 (.slice atA nb atC) nb (intsV .i64 (atsL cur nb))) ∧ Hid (CurR cur cur' fs k 0 ag) ∧ wa.heap.size ≤ wr2.heap.size ∧ nb - k ≤ gk2)
         case atStart => exact ⟨0, cur, false, none, 0, none, 0, Nat.zero_le _, rfl, rfl, rfl, HSB.out, ⟨⟨rfl, .inl ⟨rfl, rfl⟩⟩, ⟨rfl, .inl ⟨rfl, rfl⟩⟩, .inl rfl⟩, HAT2.out, CurR.init HPK.out, Nat.le_refl _, Nat.le_refl _⟩
         case round =>
          as_aux_lemma =>
           obtain ⟨k, cur', ag, tA, tc, lA, lc, hk, rfl, rfl, rfl, HS4, HTX, HAT4, HCR, hz4, hgk2⟩ := hrel
           by_cases hlt : k < nb
           · have hltI : (k : Int) < (nb : Int) := by omega
             have hb : cur[k]? = some (cur[k]'(by rw [HNB.out]; exact hlt)) := gE' _; obtain ⟨b, hbe⟩ := ex' (cur[k]'(by rw [HNB.out]; exact hlt))
             rw [hbe] at hb; have HB := hd' hb; have hbl := HPK.out.blen (mG' hb); obtain ⟨bn, hbn⟩ := ex' b.length
             rw [hbn] at hbl; have HBN := hd' hbn; have hne := HPK.out.ne b (mG' hb); have hbn0 : 0 < bn := by rw [← hbn]; exact List.length_pos_iff.2 hne
             obtain ⟨b', hb', hbl', -⟩ := HCR.out.block hb (gE' (show 0 < b.length by omega)); have hcl : cur'.length = nb := by rw [← HCR.out.same.1, HNB.out]
             have hrd := HS4.out.plan.rd2 (by rw [hcl]; omega) HFZ.out; obtain ⟨g, gc, hgs, hcb, hbc, hgl, -⟩ := hrd.blk k b' hb'; rw [hbl', hbn] at hcb hbc; have hnbc : nb ≤ bc := by rw [← hcl]; exact hrd.bcap
             have hblt := hrd.bl; have HGS := hd' hgs; clear hbe hb hbn hne hb' hbl' hcl hrd hgs
             go_wp2_with fail
             go_loopg [6, 15, 81] bn (fun gk3 s6 s15 s81 wr3 => ∃ (j : Nat) (cur' : List (List Spot)) (ag : Bool) (tA : Option Addr) (tc : Nat) (lA : Option Addr) (lc : Nat), j ≤ bn ∧ s81 = .int .i64 j ∧ s6 = .bool ag ∧ s15 = .int .i64 (lnAfter 0 (doneL cur k j)) ∧ Hid (AsmS w wr3 base X cur' fs (some ⟨gb, 0, none⟩) bc (some ⟨gf, 0, none⟩) fc gs [.slice tA (codeL cur fs 0 (doneL cur k j)).length tc, fv, bv, .slice (some ⟨w.heap.size + 1, 0, none⟩) 6 6, .slice lA (linL 0 0 (doneL cur k j)).length lc, .int .i64 0]) ∧ Hid (TxL wr3 wa.heap.size (.slice tA (codeL cur fs 0 (doneL cur k j)).length tc) (.slice lA (linL 0 0 (doneL cur k j)).length lc) (codeL cur fs 0 (doneL cur k j)) (linL 0 0 (doneL cur k j))) ∧ Hid (wr3.ownsRow wo.heap.size 3 1 (.slice atA nb atC) nb (intsV .i64 (atsL cur nb))) ∧ Hid (CurR cur cur' fs k j ag) ∧ wa.heap.size ≤ wr3.heap.size ∧ bn - j ≤ gk3)
             case atStart => exact ⟨0, cur', ag, tA, tc, lA, lc, Nat.zero_le _, rfl, rfl, rfl, HS4, HTX, HAT4, HCR, hz4, Nat.le_refl _⟩
             case round =>
              as_aux_lemma =>
               clear HS4 HTX HAT4 HCR hz4 hcb hgl; obtain ⟨j, cur', ag, tA, tc, lA, lc, hj, rfl, rfl, rfl, HS5, HTX, HAT5, HCR, hz5, hgk3⟩ := hrel
               by_cases hjl : j < bn
               · have hjlI : (j : Int) < (bn : Int) := by omega
                 have hsl : b[j]? = some (b[j]'(by rw [HBN.out]; exact hjl)) := gE' _; obtain ⟨⟨⟨sk, sd, sa, sb, sn, sl⟩, sB, sF, sL⟩, hse⟩ := ex' (b[j]'(by rw [HBN.out]; exact hjl))
                 rw [hse] at hsl; have HSL := hd' hsl; have hok := HPK.out.ok b (mG' HB.out) _ (mG' hsl); have HOK := hd' hok; obtain ⟨b', hb', hbl', hs'⟩ := HCR.out.block HB.out hsl; have hcl : cur'.length = nb := by rw [← HCR.out.same.1, HNB.out]
                 have hrd := HS5.out.plan.rd2 (by rw [hcl]; omega) HFZ.out; obtain ⟨g', gc', hgs', -, -, hgl, hcs⟩ := hrd.blk k b' hb'; rw [HGS.out] at hgs'; injection hgs' with hgs'; injection hgs' with e1 e2; subst e1; subst e2; have x0 : wr.cell? ⟨X, 0, none⟩ = some (.slice (some ⟨gb, 0, none⟩) nb bc) := by rw [← hcl]; exact hrd.x0
                 have x1 := hrd.x1; have xl := hrd.xl; have hfl := hrd.fl; have d0 := hcs (j * 9 + 0) (.int .i64 sk) (spotsC_at hs' 0 _ rfl); have d1 := hcs (j * 9 + 1) (.int .i64 sd) (spotsC_at hs' 1 _ rfl); have d2 := hcs (j * 9 + 2) (.int .i64 sa) (spotsC_at hs' 2 _ rfl); have d3 := hcs (j * 9 + 3) (.int .i64 sb) (spotsC_at hs' 3 _ rfl); have d4 := hcs (j * 9 + 4) (.int .i64 sn) (spotsC_at hs' 4 _ rfl); have d5 := hcs (j * 9 + 5) (.bool sl) (spotsC_at hs' 5 _ rfl); have d6 := hcs (j * 9 + 6) (.int .i64 sB) (spotsC_at hs' 6 _ rfl)
                 have d7 := hcs (j * 9 + 7) (.int .i64 sF) (spotsC_at hs' 7 _ rfl); have d8 := hcs (j * 9 + 8) (.int .i64 sL) (spotsC_at hs' 8 _ rfl); simp only [Nat.add_zero] at d0; have HB' := hd' hb'; have HS' := hd' hs'; have HRD := hd' hrd; obtain ⟨hr, hhr⟩ := ex' ((codeL cur fs 0 (doneL cur k j)).length)
                 rw [hhr] at HS5 HTX; have hlen := codeL_len (bs := cur) (fs := fs) (doneL cur k j) 0 (doneL_mem HPK.out k j); rw [hhr] at hlen; have hdn := doneL_bd HPK.out k j; rw [← hlen] at hdn; obtain ⟨q3, q4⟩ := hdn; obtain ⟨hk1, hk2, hk3, hk4, hk5, hk6, hk7⟩ := hok; simp only at hk1 hk2 hk3 hk4 hk5 hk6 hk7; have HHR := hd' hhr; have HLEN := hd' hlen; have HK5 := hd' hk5; have HK6 := hd' hk6; have HK7 := hd' hk7; have HCK := hd' hk1; have m0 := HS5.out.m.cell 0 rfl; have ml := HS5.out.m.lt; clear hse hsl hb' hbl' hs' hcl hrd hcs hhr hlen hk1 hk5 hk6 hk7
                 go_upto_if 91 with fail
                 obtain ⟨Y, hY⟩ := ex' wr.heap.size
                 obtain ⟨wy, hwy⟩ := ex' (wr.alloc (.cells #[.int .i64 sk, .int .i64 sd, .int .i64 sa, .int .i64 sb, .int .i64 sn, .bool sl, .int .i64 sB, .int .i64 sF, .int .i64 sL] 140))
                 have hYb : Blk wy wr.heap.size 140 [.int .i64 sk, .int .i64 sd, .int .i64 sa, .int .i64 sb, .int .i64 sn, .bool sl, .int .i64 sB, .int .i64 sF, .int .i64 sL] := by rw [← hwy]; exact Blk.new wr _ _
                 have hbY : Below wr.heap.size wr wy := by rw [← hwy]; exact (Below.refl _ _).alloc lr' _
                 rw [hwy, hY]; rw [hY] at hYb; have y0 : wy.cell? ⟨Y, 0, none⟩ = some (.int .i64 sk) := hYb.cell 0 rfl; have y1 : wy.cell? ⟨Y, 1, none⟩ = some (.int .i64 sd) := hYb.cell 1 rfl; have y2 : wy.cell? ⟨Y, 2, none⟩ = some (.int .i64 sa) := hYb.cell 2 rfl; have y3 : wy.cell? ⟨Y, 3, none⟩ = some (.int .i64 sb) := hYb.cell 3 rfl; have y4 : wy.cell? ⟨Y, 4, none⟩ = some (.int .i64 sn) := hYb.cell 4 rfl; have y5 : wy.cell? ⟨Y, 5, none⟩ = some (.bool sl) := hYb.cell 5 rfl; have y6 : wy.cell? ⟨Y, 6, none⟩ = some (.int .i64 sB) := hYb.cell 6 rfl
                 have y7 : wy.cell? ⟨Y, 7, none⟩ = some (.int .i64 sF) := hYb.cell 7 rfl; have y8 : wy.cell? ⟨Y, 8, none⟩ = some (.int .i64 sL) := hYb.cell 8 rfl; have yf4 := hYb.free 4; have hYl := hYb.lt; have HYB := hd' hYb; have HBY := hd' hbY; have HYE := hd' hY; clear hwy hYb hbY hY d0 d1 d2 d3 d4 d5 d6 d7 d8 m0 ml x0 x1 xl hfl hgl
                 go_cut [] (fun wx => Blk wx Y 140 [.int .i64 sk, .int .i64 sd, .int .i64 sa, .int .i64 sb, .int .i64 (if 0 ≤ sB then atB cur sB - (hr : Int) else sn), .bool sl, .int .i64 sB, .int .i64 sF, .int .i64 sL] ∧ Below wr.heap.size wr wx)
                 case first =>
                  as_aux_lemma =>
                   by_cases hB0 : 0 ≤ sB
                   · obtain ⟨tgt, rfl⟩ := Int.eq_ofNat_of_zero_le hB0; have htl : tgt < nb := by have := HNB.out; omega
                     have htlI : (tgt : Int) < (nb : Int) := by omega
                     have hatc := own_ats (HBY.out) HAT5.out htl; obtain ⟨ga, rfl, hac, hnc⟩ := hatc; have hab := HPK.out.atB_bd (tgt : Int); have HN1 := hd' (if_pos hB0 : (if 0 ≤ (tgt : Int) then atB cur (tgt : Int) - (hr : Int) else sn) = _); have hrI : (hr : Int) ≤ 1600 := q4
                     go_wp2
                     go_meet
                     rw [HN1.out]; exact ⟨HYB.out.set 4 _, HBY.out.trans (gb_to_below (gb_setCell (gb_refl wy (some Y)) _ _) (Nat.le_of_eq HYE.out) HBY.out.size)⟩
                   · have HN1 := hd' (if_neg hB0 : (if 0 ≤ sB then atB cur sB - (hr : Int) else sn) = _); have hB1 : ¬ (0 : Int) ≤ sB := hB0
                     go_wp2
                     go_meet
                     rw [HN1.out]; exact ⟨HYB.out, HBY.out⟩
                 case rest =>
                  as_aux_lemma =>
                   obtain ⟨hY1, hBY1⟩ := hcut; obtain ⟨n1, hn1⟩ := ex' ((if 0 ≤ sB then atB cur sB - (hr : Int) else sn))
                   rw [hn1] at hY1; clear y0 y1 y2 y3 y4 y5 y6 y7 y8 yf4 hYl HYB HBY; have y0 : wc.cell? ⟨Y, 0, none⟩ = some (.int .i64 sk) := hY1.cell 0 rfl; have y1 : wc.cell? ⟨Y, 1, none⟩ = some (.int .i64 sd) := hY1.cell 1 rfl; have y2 : wc.cell? ⟨Y, 2, none⟩ = some (.int .i64 sa) := hY1.cell 2 rfl; have y3 : wc.cell? ⟨Y, 3, none⟩ = some (.int .i64 sb) := hY1.cell 3 rfl; have y4 : wc.cell? ⟨Y, 4, none⟩ = some (.int .i64 n1) := hY1.cell 4 rfl; have y5 : wc.cell? ⟨Y, 5, none⟩ = some (.bool sl) := hY1.cell 5 rfl; have y6 : wc.cell? ⟨Y, 6, none⟩ = some (.int .i64 sB) := hY1.cell 6 rfl
                   have y7 : wc.cell? ⟨Y, 7, none⟩ = some (.int .i64 sF) := hY1.cell 7 rfl; have y8 : wc.cell? ⟨Y, 8, none⟩ = some (.int .i64 sL) := hY1.cell 8 rfl; have yf4 := hY1.free 4; have hYl := hY1.lt; have HN1 := hd' hn1; have HYB := hd' hY1; have HBY := hd' hBY1; have hfx := (HRD.out.keep hBY1).x1; have hxl := (HRD.out.keep hBY1).xl; have hfl := (HRD.out.keep hBY1).fl; clear hn1 hY1 hBY1
                   go_upto_if 103 with fail
                   go_cut [] (fun wx => Blk wx Y 140 [.int .i64 sk, .int .i64 sd, .int .i64 sa, .int .i64 sb, .int .i64 (if 0 ≤ sF then atB cur (fs.getD sF.toNat 0) - (hr : Int) else n1), .bool sl, .int .i64 sB, .int .i64 sF, .int .i64 sL] ∧ Below wr.heap.size wr wx)
                   case first =>
                    as_aux_lemma =>
                     by_cases hF0 : 0 ≤ sF
                     · obtain ⟨tf, rfl⟩ := Int.eq_ofNat_of_zero_le hF0; have hfl3 : tf < fs.length := by omega
                       have hfs : fs[tf]? = some (fs[tf]'hfl3) := gE' hfl3; obtain ⟨fv1, hfv⟩ := ex' (fs[tf]'hfl3)
                       rw [hfv] at hfs; have hfb := HPK.out.fb tf fv1 hfs; obtain ⟨fn1, rfl⟩ := Int.eq_ofNat_of_zero_le hfb.1; have hfcell := (HRD.out.keep HBY.out).fn tf _ hfs; have htl : fn1 < nb := by have := HNB.out; omega
                       have htlI : (fn1 : Int) < (nb : Int) := by omega
                       have hflI : (tf : Int) < (fs.length : Int) := by omega
                       have hatc := own_ats (HBY.out) HAT5.out htl; obtain ⟨ga, rfl, hac, hnc⟩ := hatc; have hab := HPK.out.atB_bd (fn1 : Int); have hgd : fs.getD ((tf : Int)).toNat 0 = (fn1 : Int) := by rw [Int.toNat_natCast, List.getD_eq_getElem?_getD, hfs]; rfl
                       have HN2 : Hid ((if 0 ≤ (tf : Int) then atB cur (fs.getD ((tf : Int)).toNat 0) - (hr : Int) else n1) = atB cur (fn1 : Int) - (hr : Int)) := hd' (by rw [if_pos hF0, hgd]); have hrI : (hr : Int) ≤ 1600 := q4; clear hgd hfs hfv
                       go_wp2_with fail
                       go_region
                       go_wp2
                       go_meet
                       rw [HN2.out]; exact ⟨Blk.drew (HYB.out.set 4 _), HBY.out.trans (gb_to_below (gb_drew (gb_setCell (gb_refl wc (some Y)) _ _)) (Nat.le_of_eq HYE.out) HBY.out.size)⟩
                     · have HN2 := hd' (if_neg hF0 : (if 0 ≤ sF then atB cur (fs.getD sF.toNat 0) - (hr : Int) else n1) = _); have hF1 : ¬ (0 : Int) ≤ sF := hF0
                       go_wp2
                       go_meet
                       rw [HN2.out]; exact ⟨HYB.out, HBY.out⟩
                   case rest =>
                    as_aux_lemma =>
                     obtain ⟨hY1, hBY1⟩ := hcut; obtain ⟨n2, hn2⟩ := ex' ((if 0 ≤ sF then atB cur (fs.getD sF.toNat 0) - (hr : Int) else n1))
                     rw [hn2] at hY1; have HRES : Hid (resI cur fs (szL (doneL cur k j)) ⟨⟨sk, sd, sa, sb, sn, sl⟩, sB, sF, sL⟩ = ⟨sk, sd, sa, sb, n2, sl⟩) := hd' (by rw [← HLEN.out, ← hn2, ← HN1.out]; rfl); clear y0 y1 y2 y3 y4 y5 y6 y7 y8 yf4 hYl HYB HBY hfx hxl hfl HN1; have y0 : wc.cell? ⟨Y, 0, none⟩ = some (.int .i64 sk) := hY1.cell 0 rfl; have y1 : wc.cell? ⟨Y, 1, none⟩ = some (.int .i64 sd) := hY1.cell 1 rfl; have y2 : wc.cell? ⟨Y, 2, none⟩ = some (.int .i64 sa) := hY1.cell 2 rfl; have y3 : wc.cell? ⟨Y, 3, none⟩ = some (.int .i64 sb) := hY1.cell 3 rfl
                     have y4 : wc.cell? ⟨Y, 4, none⟩ = some (.int .i64 n2) := hY1.cell 4 rfl; have y5 : wc.cell? ⟨Y, 5, none⟩ = some (.bool sl) := hY1.cell 5 rfl; have y6 : wc.cell? ⟨Y, 6, none⟩ = some (.int .i64 sB) := hY1.cell 6 rfl; have y7 : wc.cell? ⟨Y, 7, none⟩ = some (.int .i64 sF) := hY1.cell 7 rfl; have y8 : wc.cell? ⟨Y, 8, none⟩ = some (.int .i64 sL) := hY1.cell 8 rfl; have hYl := hY1.lt; have HYB := hd' hY1; have HBY := hd' hBY1; have hSc := HS5.out.keep hBY1; have HSC := hd' hSc; have HTXC := hd' (HTX.out.keep hBY1); have HATC := hd' (own_keep HAT5.out hBY1)
                     have m4 := hSc.m.cell 4 rfl; have mf4 := hSc.m.free 4; have ml := hSc.m.lt; have hMY : ¬ w.heap.size + 2 = Y := by have := HS5.out.size; have := HYE.out; omega
                     clear hn2 hY1 hBY1 hSc
                     go_upto_if 122 with fail
                     go_cut [15] (fun s15 wx => ∃ (lA' : Option Addr) (lc' : Nat), s15 = .int .i64 sL ∧ Hid (AsmS w wx base X cur' fs (some ⟨gb, 0, none⟩) bc (some ⟨gf, 0, none⟩) fc gs [.slice tA hr tc, fv, bv, .slice (some ⟨w.heap.size + 1, 0, none⟩) 6 6, .slice lA' (linL 0 0 (doneL cur k (j + 1))).length lc', .int .i64 0]) ∧ Hid (TxL wx wa.heap.size (.slice tA hr tc) (.slice lA' (linL 0 0 (doneL cur k (j + 1))).length lc') (codeL cur fs 0 (doneL cur k j)) (linL 0 0 (doneL cur k (j + 1)))) ∧ Hid (wx.ownsRow wo.heap.size 3 1 (.slice atA nb atC) nb (intsV .i64 (atsL cur nb))) ∧ Hid (Blk wx Y 140 [.int .i64 sk, .int .i64 sd, .int .i64 sa, .int .i64 sb, .int .i64 n2, .bool sl, .int .i64 sB, .int .i64 sF, .int .i64 sL]) ∧ wc.heap.size ≤ wx.heap.size)
                     case first =>
                      as_aux_lemma =>
                       have hsn := linL_snoc (doneL cur k j) ⟨⟨sk, sd, sa, sb, sn, sl⟩, sB, sF, sL⟩ 0 0; rw [← doneL_succ HB.out HSL.out, Int.zero_add, ← HLEN.out] at hsn; simp only at hsn; obtain ⟨lnP, hlnP⟩ := ex' (lnAfter 0 (doneL cur k j))
                       rw [hlnP] at hsn ⊢
                       by_cases hln : sL = lnP
                       · rw [if_pos hln, List.append_nil] at hsn; have q1 : (sL != lnP) = false := by simp [hln]
                         have HSN := hd' hsn; have HLN := hd' hln; clear hln hsn hlnP
                         go_wp2
                         go_meet
                         rw [HSN.out]; exact ⟨lA, lc, by rw [HLN.out], HSC.out, HTXC.out, HATC.out, HYB.out, Nat.le_refl _⟩
                       · rw [if_neg hln] at hsn; have q1 : (sL != lnP) = true := by simpa using hln
                         obtain ⟨ll, hll⟩ := ex' ((linL 0 0 (doneL cur k j)).length)
                         rw [hll] at m4; have HLL := hd' hll
                         have hll2 : ll ≤ 400 := by
                          rw [← hll]; exact Nat.le_trans (linL_le _ 0 0) (doneL_len HPK.out k j)
                         have HSN := hd' hsn; have HOL : Hid (wc.ownsRow wa.heap.size 144 2 (.slice lA ll lc) ll (linesV (linL 0 0 (doneL cur k j)))) := hd' (by have := HTXC.out.ln; rw [hll] at this; exact this); have hszc : wa.heap.size ≤ wc.heap.size := by have := HBY.out.size; omega
                         have HOLN : Hid (∀ q, (Value.slice lA ll lc).ownBlock = some q → q < wr.heap.size) := hd' fun q hq => by
                          have h1 := HTX.out.ln; rw [hll] at h1; exact (World.ownsRow.lt h1 q hq).2
                         have hlen2 : (linL 0 0 (doneL cur k j) ++ [((hr : Int), sL)]).length = ll + 1 := by rw [List.length_append, hll]; rfl
                         have HLEN2 := hd' hlen2; clear hln hsn hlnP hll hlen2
                         go_wp2_with (first | (refine app_one rfl _ _ 28 144 2 16 _ Tryz.underlying28 infoLine rfl (by decide) rfl wa.heap.size _ ll _ rfl (World.ownsRow.alloc HOL.out _) wc.heap.size 1 rfl [.int .i64 (hr : Int), .int .i64 sL] 144 (0, 0) (heap_alloc_new wc _) rfl (by simp [Value.oneCell']) (by omega) (by omega) (by simp; omega) (wc.heap.size + 1) (by simp) ?a1))
                         case a1 =>
                          as_aux_lemma =>
                           intro g2 c2 w2 ho2 hgr2 hat2 hlt2; have hb2 : Below wa.heap.size wc w2 := (((Below.refl wc.heap.size wc).alloc lr' (.cells #[.int .i64 (hr : Int), .int .i64 sL] 144)).mono hszc).trans (gb_below_of hgr2 (fun q hq => (World.ownsRow.lt HOL.out q hq).1) (by simp; omega)); have hS2 := HSC.out.big (by have := HSB.out.size; omega) hb2; have m42 := hS2.m.cell 4 rfl; have mf42 := hS2.m.free 4; have ml2 := hS2.m.lt; rw [HLL.out] at m42; have HS2 := hd' hS2
                           have HT2' := hd' ((HTXC.out.keep ((Below.refl _ _).alloc lr' (.cells #[.int .i64 (hr : Int), .int .i64 sL] 144))).addL (x := ((hr : Int), sL)) (by rw [HLL.out]; exact ho2) (by rw [HLL.out]; exact hgr2) (by rw [HLL.out]; exact hat2) (by simp)); have HB2' := hd' hb2; have HATN2 : Hid (∀ q, (Value.slice atA nb atC).ownBlock = some q → wo.heap.size ≤ q ∧ q < wa.heap.size) := HATN
                           have HYB2 : Hid (Blk w2 Y 140 [.int .i64 sk, .int .i64 sd, .int .i64 sa, .int .i64 sb, .int .i64 n2, .bool sl, .int .i64 sB, .int .i64 sF, .int .i64 sL]) := hd' (((HYB.out.alloc _).gb hgr2 (fun e => by have h1 := HOLN.out _ e; have := HYE.out; omega))); have hs22 := hb2.size; have y82 := HYB2.out.cell 8 rfl; have y8l := HYB2.out.lt; clear ho2 hgr2 hat2 hb2 hS2
                           go_wp2
                           go_meet
                           rw [HSN.out]; refine ⟨some ⟨g2, 0, none⟩, c2, rfl, ?_, ?_, ?_, ?_, ?_⟩
                           · rw [HLEN2.out]; exact HS2.out.setM 4 _
                           · exact HT2'.out.gb (gb_setCell (gb_refl _ _) _ _) (by have := HSB.out.size; omega)
                           · exact own_gb (own_belowB HATC.out (fun q hq => (HATN.out q hq).2) HB2'.out) (gb_setCell (gb_refl _ _) _ _) (fun e => by have := (HATN.out _ e).1; have := HS.out.size; omega)
                           · exact HYB2.out.set_ne hMY _ _
                           · simpa using hs22
                     case rest =>
                      as_aux_lemma =>
                       obtain ⟨lA', lc', rfl, HSD, HTXD, HATD, HYD, hzd⟩ := hcut; have hszc2 := HBY.out.size; clear y0 y1 y2 y3 y4 y5 y6 y7 y8 hYl HYB HBY HSC HTXC HATC m4 mf4 ml; have hyd := HYD.out; have y0 : wc.cell? ⟨Y, 0, none⟩ = some (.int .i64 sk) := hyd.cell 0 rfl; have y1 : wc.cell? ⟨Y, 1, none⟩ = some (.int .i64 sd) := hyd.cell 1 rfl; have y2 : wc.cell? ⟨Y, 2, none⟩ = some (.int .i64 sa) := hyd.cell 2 rfl; have y3 : wc.cell? ⟨Y, 3, none⟩ = some (.int .i64 sb) := hyd.cell 3 rfl; have y4 : wc.cell? ⟨Y, 4, none⟩ = some (.int .i64 n2) := hyd.cell 4 rfl
                       have y5 : wc.cell? ⟨Y, 5, none⟩ = some (.bool sl) := hyd.cell 5 rfl; have y6 : wc.cell? ⟨Y, 6, none⟩ = some (.int .i64 sB) := hyd.cell 6 rfl; have y7 : wc.cell? ⟨Y, 7, none⟩ = some (.int .i64 sF) := hyd.cell 7 rfl; have y8 : wc.cell? ⟨Y, 8, none⟩ = some (.int .i64 sL) := hyd.cell 8 rfl; have hydl := hyd.lt; have m0 := HSD.out.m.cell 0 rfl; have ml := HSD.out.m.lt; clear hyd
                       by_cases hch : chk sk sd sa sb n2 sl = 0
                       · obtain ⟨ec, hec⟩ := ex' ((⟨sk, sd, sa, sb, n2, sl⟩ : Ins).enc)
                         obtain ⟨el, hel⟩ := ex' ec.length
                         have hcs2 : codeS cur fs (szL (doneL cur k j)) ⟨⟨sk, sd, sa, sb, sn, sl⟩, sB, sF, sL⟩ = ec := by
                          unfold codeS; rw [HRES.out, if_pos (show (⟨sk, sd, sa, sb, n2, sl⟩ : Ins).chk = 0 from hch), hec]
                         have hcode : codeL cur fs 0 (doneL cur k (j + 1)) = codeL cur fs 0 (doneL cur k j) ++ ec := by
                          rw [doneL_succ HB.out HSL.out, codeL_snoc, Int.zero_add, hcs2]
                         have hep := enc_pos (i := ⟨sk, sd, sa, sb, n2, sl⟩) hch; rw [hec, hel] at hep; obtain ⟨hep1, hep2⟩ := hep; have hel0 : ((el : Int) == 0) = false := by simp; omega
                         have hel1 : ¬ (el : Int) = 0 := by omega
                         have HCODE := hd' hcode; have HEL := hd' hel
                         have HENC : Hid (∀ W, Below base w W → Calls Tryz.prog 76 #[.agg #[.int .i64 sk, .int .i64 sd, .int .i64 sa, .int .i64 sb, .int .i64 n2, .bool sl]] W (EncPost W ec)) := hd' fun W hW => by
                          have h := encode_any ⟨sk, sd, sa, sb, n2, sl⟩ W (HT3.out W hW) hch; rw [hec] at h; exact h
                         have HCS := hd' (CurR.step HCR.out HB.out HSL.out (by rw [HRES.out]; exact hch)); clear hch hec hel hcs2 hcode
                         go_wp2_with fail
                         refine (HENC.out _ HSD.out.bel).mono ?_; rintro e w6 ⟨gE, cE, rfl, hE1, hE2, hE3, hE4, hE5, hE6⟩; rw [HEL.out]; have hS6 := HSD.out.keep hE4; have m06 := hS6.m.cell 0 rfl; have mf6 := hS6.m.free 0; have ml6 := hS6.m.lt; have HS6 := hd' hS6; have HTX6 := hd' (HTXD.out.keep hE4); have HAT6 := hd' (own_keep HATD.out hE4); have HE5 := hd' hE5; have hs6 := hE4.size; have hown6 : OwnB w6 wa.heap.size (.slice tA hr tc) (codeL cur fs 0 (doneL cur k j)) := HTX6.out.tx; have HOW6 := hd' hown6; clear hS6 hE1 hE2 hE3 hE4 hE5 hE6 hown6
                         go_wp2_with (first | (refine app_bytes_lies rfl _ _ rfl wa.heap.size (.slice tA hr tc) (codeL cur fs 0 (doneL cur k j)) ec rfl HOW6.out gE el cE rfl HEL.out hep1 HE5.out ?n1 ?b1 ?a1))
                         case n1 => rw [HHR.out]; omega
                         case b1 => omega
                         case a1 =>
                          as_aux_lemma =>
                           intro g2 c2 w2 ho2 hgr2 hat2 hlt2; have hown6 : OwnB w6 wa.heap.size (.slice tA hr tc) (codeL cur fs 0 (doneL cur k j)) := HTX6.out.tx; have hb2 : Below wa.heap.size w6 w2 := gb_below_of hgr2 (fun q hq => (World.ownsRow.lt hown6 q hq).1) (by omega); have hS7 := HS6.out.big (by have := HSB.out.size; omega) hb2; have m07 := hS7.m.cell 0 rfl; have mf7 := hS7.m.free 0; have ml7 := hS7.m.lt; have HS7 := hd' hS7; have HTX7 := hd' (HTX6.out.addT (cs := ec) (by rw [List.length_append]; exact ho2) hgr2 hat2 lr')
                           have HAT7 := hd' (own_belowB HAT6.out (fun q hq => (HATN.out q hq).2) hb2); have hs7 := hb2.size; clear ho2 hgr2 hat2 hlt2 hb2 hS7 hown6
                           go_wp2
                           go_roundg (bn - (j + 1))
                           case measure => omega
                           case rel =>
                            refine ⟨j + 1, cur', ag, some ⟨g2, 0, none⟩, c2, lA', lc', by omega, by go_num, rfl, ?_, ?_, ?_, ?_, HCS.out, ?_, Nat.le_refl _⟩
                            · rw [doneL_succ HB.out HSL.out, lnAfter_snoc]
                            · rw [HCODE.out, List.length_append]; exact HS7.out.setM 0 _
                            · rw [HCODE.out]; exact HTX7.out.gb (gb_setCell (gb_refl _ _) _ _) (by have := HSB.out.size; omega)
                            · exact own_gb HAT7.out (gb_setCell (gb_refl _ _) _ _) (fun e => by have := (HATN.out _ e).1; have := HS.out.size; omega)
                            · simp; omega
                       · obtain ⟨hb0, hl0⟩ := res_chk HPK.out HOK.out (szL (doneL cur k j)) (doneL_bd HPK.out k j) (by rw [HRES.out]; exact hch); simp only at hb0 hl0; subst hl0; obtain ⟨hk18, hk22, -, -⟩ := HK5.out hb0; obtain ⟨ce, hce⟩ := ex' (chk sk sd sa sb n2 false)
                         rw [hce] at hch; have qe : (ce != 0) = true := by simpa using hch
                         have hqe : ¬ ce = 0 := hch; have hsz := szS_bd HOK.out; have hsz' : 1 ≤ sizeK sk false ∧ sizeK sk false ≤ 4 := hsz; obtain ⟨zs, hzs⟩ := Int.eq_ofNat_of_zero_le (show 0 ≤ sizeK sk false by omega); have hzs1 : 0 < zs := by omega
                         have hzs4 : zs ≤ 4 := by omega
                         have hcs2 : codeS cur fs (szL (doneL cur k j)) ⟨⟨sk, sd, sa, sb, sn, false⟩, sB, sF, sL⟩ = List.replicate zs 0 := by
                          unfold codeS; rw [HRES.out, if_neg (by show ¬ chk sk sd sa sb n2 false = 0; rw [hce]; exact hch)]; show List.replicate (sizeK sk false).toNat 0 = _; rw [hzs]
                          rfl
                         have hcode : codeL cur fs 0 (doneL cur k (j + 1)) = codeL cur fs 0 (doneL cur k j) ++ List.replicate zs 0 := by
                          rw [doneL_succ HB.out HSL.out, codeL_snoc, Int.zero_add, hcs2]
                         have HCODE := hd' hcode
                         have HENC : Hid (∀ W, Below base w W → Calls Tryz.prog 76 #[.agg #[.int .i64 sk, .int .i64 sd, .int .i64 sa, .int .i64 sb, .int .i64 n2, .bool false]] W fun e w' => e = .returned (.tuple #[.slice none 0 0, .int .i64 ce]) ∧ Below W.heap.size W w') := hd' fun W hW => by
                          have h := encode_bad sk sd sa sb n2 false W (HT3.out W hW) (by rw [hce]; exact hch); rw [hce] at h; exact h
                         have HSIZ : Hid (∀ W, Below base w W → Calls Tryz.prog 75 #[.agg #[.int .i64 sk, .int .i64 0, .int .i64 0, .int .i64 0, .int .i64 0, .bool false]] W fun e w' => e = .returned (.tuple #[.int .i64 (zs : Int), .int .i64 0]) ∧ Below W.heap.size W w') := hd' fun W hW => by
                          have h := size_ok sk 0 0 0 0 false W (HT3.out W hW) (chk_go sk false ⟨hk18, hk22⟩); rw [hzs] at h; exact h
                         have hcl := CurR.long HCR.out HB'.out HS'.out hb0 rfl; have HCL := hd' hcl; have hgw : g < w.heap.size := HSD.out.ltg k (g, gc) HGS.out; have hgM : ¬ g = w.heap.size + 2 := by omega
                         have hgY : ¬ g = Y := by have := HYE.out; have := HS5.out.size; omega
                         have hgX : ¬ g = X := (HSD.out.plan.inner k (g, gc) b' HGS.out HB'.out).2.1; have hclen : cur'.length = nb := by rw [← HCR.out.same.1, HNB.out]
                         have hcapT : hr ≤ tc := own_cap HTXD.out.tx HHR.out; have hX2 : ¬ w.heap.size + 2 = X := by have := HS.out.ltX; omega
                         clear hch hce hsz hsz' hzs hcs2 hcode hcl
                         go_wp2_with fail
                         refine (HENC.out _ HSD.out.bel).mono ?_; rintro e w6 ⟨rfl, hE4⟩; have hS6 := HSD.out.keep hE4; have m06 := hS6.m.cell 0 rfl; have mf6 := hS6.m.free 0; have ml6 := hS6.m.lt; have hrd6 := hS6.plan.rd2 (by rw [hclen]; omega) HFZ.out; have x06 := hrd6.x0; have xl6 := hrd6.xl; have gbl6 := hrd6.bl; rw [hclen] at x06; have hcb6 := blk_cells hrd6 HGS.out HB'.out HS'.out; obtain ⟨hcb6, hgl6, hd5, hbl6⟩ := hcb6; have hfr6 := own_free (hS6.plan.inner k (g, gc) b' HGS.out HB'.out).1 (j * 9 + 5); have HS6 := hd' hS6; have HTX6 := hd' (HTXD.out.keep hE4)
                         have HAT6 := hd' (own_keep HATD.out hE4); have HYD6 := hd' (HYD.out.keep hE4); have z0 : w6.cell? ⟨Y, 0, none⟩ = some (.int .i64 sk) := HYD6.out.cell 0 rfl; have z5 : w6.cell? ⟨Y, 5, none⟩ = some (.bool false) := HYD6.out.cell 5 rfl; have z6 : w6.cell? ⟨Y, 6, none⟩ = some (.int .i64 sB) := HYD6.out.cell 6 rfl; have zl := HYD6.out.lt; have hs6 := hE4.size; have hjb : j < b'.length := (List.getElem?_eq_some_iff.1 HS'.out).1; have hjbI : (j : Int) < (b'.length : Int) := by omega
                         clear hS6 hE4 hrd6 y0 y1 y2 y3 y4 y5 y6 y7 y8 m0 ml
                         go_upto_region 39 with fail
                         obtain ⟨w7, hw7⟩ := ex' (w6.setCell ⟨g, j * 9 + 5, none⟩ (.bool true))
                         rw [hw7]; have hgb7 : w6.grownBy w7 (some g) := by rw [← hw7]; exact gb_setCell (gb_refl _ _) _ _
                         have hS7 : AsmS w w7 base X (cur'.set k (b'.set j (Spot.long ⟨⟨sk, sd, sa, sb, sn, false⟩, sB, sF, sL⟩))) fs (some ⟨gb, 0, none⟩) bc (some ⟨gf, 0, none⟩) fc gs [.slice tA hr tc, fv, bv, .slice (some ⟨w.heap.size + 1, 0, none⟩) 6 6, .slice lA' (linL 0 0 (doneL cur k (j + 1))).length lc', .int .i64 0] := by rw [← hw7]; exact HS6.out.long HGS.out HB'.out HS'.out
                         have m07 := hS7.m.cell 0 rfl; have mf7 := hS7.m.free 0; have ml7 := hS7.m.lt; have hwa := HSB.out.size; have HYD7 : Hid (Blk w7 Y 140 [.int .i64 sk, .int .i64 sd, .int .i64 sa, .int .i64 sb, .int .i64 n2, .bool false, .int .i64 sB, .int .i64 sF, .int .i64 sL]) := by rw [← hw7]; exact HYD6.out.set_ne hgY _ _
                         have y0 : w7.cell? ⟨Y, 0, none⟩ = some (.int .i64 sk) := HYD7.out.cell 0 rfl; have y5 : w7.cell? ⟨Y, 5, none⟩ = some (.bool false) := HYD7.out.cell 5 rfl; have yl := HYD7.out.lt; have HS7 := hd' hS7; have HTX7 := hd' (HTX6.out.gb hgb7 (by omega)); have HAT7 := hd' (own_gb HAT6.out hgb7 (fun e => by have := (HATN.out _ e).1; have := HS.out.size; omega)); have hb7 : Below base w w7 := hS7.bel; have HB7 := hd' hb7; have hs7 := hgb7.size; clear hw7 hgb7 hS7 m06 mf6 ml6 x06 xl6 gbl6 hcb6 hgl6 hd5 hbl6 hfr6 z0 z5 z6 zl HYD6 HS6 HTX6 HAT6 hjb hjbI
                         go_wp2_with (first | (refine app_nil rfl _ _ rfl tA hr tc rfl rfl hcapT ?a0))
                         obtain ⟨w8, hw8⟩ := ex' (w7.setCell ⟨w.heap.size + 2, 0, none⟩ (.slice tA hr tc))
                         rw [hw8]; have hgb8 : w7.grownBy w8 (some (w.heap.size + 2)) := by rw [← hw8]; exact gb_setCell (gb_refl _ _) _ _
                         have HS8 : Hid (AsmS w w8 base X (cur'.set k (b'.set j (Spot.long ⟨⟨sk, sd, sa, sb, sn, false⟩, sB, sF, sL⟩))) fs (some ⟨gb, 0, none⟩) bc (some ⟨gf, 0, none⟩) fc gs [.slice tA hr tc, fv, bv, .slice (some ⟨w.heap.size + 1, 0, none⟩) 6 6, .slice lA' (linL 0 0 (doneL cur k (j + 1))).length lc', .int .i64 0]) := hd' (by rw [← hw8]; exact HS7.out.setM 0 _); have HTX8 := hd' (HTX7.out.gb hgb8 (by omega)); have HAT8 := hd' (own_gb HAT7.out hgb8 (fun e => by have := (HATN.out _ e).1; have := HS.out.size; omega)); have HB8 := hd' HS8.out.bel; have hs8 := hgb8.size
                         clear hw8 hgb8 y0 y5 yl m07 mf7 ml7 HYD7 HS7 HTX7 HAT7 HB7; refine (HSIZ.out _ HB8.out).mono ?_; rintro e w9 ⟨rfl, hb9⟩; have hs9 := hb9.size; have HS9 := hd' (HS8.out.keep hb9); have HTX9 := hd' (HTX8.out.keep hb9); have HAT9 := hd' (own_keep HAT8.out hb9); have m09 := HS9.out.m.cell 0 rfl; have mf9 := HS9.out.m.free 0; have ml9 := HS9.out.m.lt; have hown9 : OwnB w9 wa.heap.size (.slice tA hr tc) (codeL cur fs 0 (doneL cur k j)) := HTX9.out.tx; have HOW9 := hd' hown9; have hbase9 : wa.heap.size ≤ w9.heap.size := by omega
                         have hfit : (codeL cur fs 0 (doneL cur k j)).length + zs ≤ 140737488355328 := by rw [HHR.out]; omega
                         clear hb9 HS8 HTX8 HAT8 HB8 hown9
                         go_wp2_with (first | (refine app_zeros rfl _ _ rfl wa.heap.size (.slice tA hr tc) (codeL cur fs 0 (doneL cur k j)) rfl HOW9.out zs rfl hzs1 hfit hbase9 ?a2))
                         case a2 =>
                          intro g2 c2 w2 ho2 hgr2 hat2 hlt2; have hb2 : Below wa.heap.size w9 w2 := gb_below_of hgr2 (fun q hq => (World.ownsRow.lt HOW9.out q hq).1) (by omega); have hSA := HS9.out.big (by have := HSB.out.size; omega) hb2; have m0A := hSA.m.cell 0 rfl; have mfA := hSA.m.free 0; have mlA := hSA.m.lt; have HSA := hd' hSA; have HTXA := hd' (HTX9.out.addT (cs := List.replicate zs 0) (by rw [List.length_append, List.length_replicate]; exact ho2) hgr2 hat2 lr'); have HATA := hd' (own_belowB HAT9.out (fun q hq => (HATN.out q hq).2) hb2); have hsA := hb2.size
                          clear ho2 hgr2 hat2 hlt2 hb2 hSA m09 mf9 ml9
                          go_wp2
                          go_roundg (bn - (j + 1))
                          case measure => omega
                          case rel =>
                           refine ⟨j + 1, _, true, some ⟨g2, 0, none⟩, c2, lA', lc', by omega, by go_num, rfl, ?_, ?_, ?_, ?_, HCL.out, ?_, Nat.le_refl _⟩
                           · rw [doneL_succ HB.out HSL.out, lnAfter_snoc]
                           · rw [HCODE.out, List.length_append, List.length_replicate]; exact HSA.out.setM 0 _
                           · rw [HCODE.out]; exact HTXA.out.gb (gb_setCell (gb_refl _ _) _ _) (by have := HSB.out.size; omega)
                           · exact own_gb HATA.out (gb_setCell (gb_refl _ _) _ _) (fun e => by have := (HATN.out _ e).1; have := HS.out.size; omega)
                           · simp; omega
               · have hjlI : ¬ (j : Int) < (bn : Int) := by omega
                 obtain rfl : j = bn := by omega
                 go_wp2
                 go_roundg (nb - (k + 1))
                 case measure => omega
                 case rel =>
                  have e := doneL_next HB.out; rw [HBN.out] at e; rw [e] at HS5 HTX; refine ⟨k + 1, cur', ag, tA, tc, lA, lc, by omega, by go_num, rfl, by rw [e], HS5, HTX, HAT5, CurR.next ?_ HB.out, hz5, Nat.le_refl _⟩; rw [HBN.out]; exact HCR.out
           · have hltI : ¬ (k : Int) < (nb : Int) := by omega
             obtain rfl : k = nb := by omega
             go_wp2
             go_meet
             have e := doneL_all cur; rw [HNB.out] at e; rw [e] at HS4 HTX; exact ⟨cur', ag, tA, tc, lA, lc, rfl, HS4, HTX, HAT4, HCR, hz4⟩
       case rest =>
        as_aux_lemma =>
         obtain ⟨cur', ag, tA, tc, lA, lc, rfl, HS4, HTX, HAT4, HCR, hz4⟩ := hcut; obtain ⟨nf, hnf⟩ := ex' fs.length
         have hnf3 : nf ≤ 3 := by rw [← hnf]; exact HPK.out.nf.2
         obtain ⟨tl, htl⟩ := ex' ((codeL cur fs 0 cur.flatten).length)
         obtain ⟨ll, hll⟩ := ex' ((linL 0 0 cur.flatten).length)
         rw [htl, hll] at HS4 HTX; have hcl : cur'.length = nb := by rw [← HCR.out.same.1, HNB.out]
         have HCL := hd' hcl; have hnb0 : nb ≠ 0 := by have := HPK.out.fnz.1; rw [HNB.out] at this; exact this
         obtain ⟨ga, rfl⟩ := own_some HAT4.out hnb0; have hrd := HS4.out.plan.rd2 (by rw [hcl]; omega) HFZ.out; have x1 := hrd.x1; rw [hnf] at x1; have xl := hrd.xl; have mf1 := HS4.out.m.free 1; have mf2 := HS4.out.m.free 2; have m1 := HS4.out.m.cell 1 rfl; have m2 := HS4.out.m.cell 2 rfl; have ml := HS4.out.m.lt; have hMX : ¬ w.heap.size + 2 = X := by have := HS4.out.ltX; omega
         have hfb := flat_bd HPK.out; have HNF := hd' hnf; have HTL := hd' htl; have HLL := hd' hll; clear hnf htl hll hcl hrd x0
         go_upto_block 10 with fail
         obtain ⟨wf, hwf⟩ := ex' ((wc.setCell ⟨w.heap.size + 2, 1, none⟩ (.slice none 0 0)).setCell ⟨w.heap.size + 2, 2, none⟩ (.slice none 0 0))
         rw [hwf]; have hSF : AsmS w wf base X cur' fs (some ⟨gb, 0, none⟩) bc (some ⟨gf, 0, none⟩) fc gs [.slice tA tl tc, .slice none 0 0, .slice none 0 0, .slice (some ⟨w.heap.size + 1, 0, none⟩) 6 6, .slice lA ll lc, .int .i64 0] := by rw [← hwf]; exact (HS4.out.setM 1 _).setM 2 _
         have hgw : wc.grownBy wf (some (w.heap.size + 2)) := by rw [← hwf]; exact gb_setCell (gb_setCell (gb_refl _ _) _ _) _ _
         have hTXF := HTX.out.gb hgw (by have := HSB.out.size; omega); have hATF := own_gb HAT4.out hgw (fun e => by have := (HATN.out _ e).1; have := HS.out.size; omega); have hszf : wa.heap.size ≤ wf.heap.size := by have := hgw.size; omega
         have HSF := hd' hSF; have HTXF := hd' hTXF; have HATF := hd' hATF; clear hwf hSF hgw hTXF hATF x1 xl mf1 mf2 m1 m2 ml HS4 HTX HAT4 hz4
         go_cut [] (fun wx => ∃ (fA' : Option Addr) (fc' : Nat), Hid (AsmS w wx base X cur' fs (some ⟨gb, 0, none⟩) bc (some ⟨gf, 0, none⟩) fc gs [.slice tA tl tc, .slice fA' nf fc', .slice none 0 0, .slice (some ⟨w.heap.size + 1, 0, none⟩) 6 6, .slice lA ll lc, .int .i64 0]) ∧ Hid (wx.ownsRow wf.heap.size 114 3 (.slice fA' nf fc') nf (funcsV (fnL cur fs))) ∧ Hid (wf.grownBy wx (some (w.heap.size + 2))))
         case first =>
          as_aux_lemma =>
           go_wp2_with fail
           go_loopg [197] nf (fun gk2 s197 wr2 => ∃ (i : Nat) (fA' : Option Addr) (fc' : Nat), i ≤ nf ∧ s197 = .int .i64 i ∧ Hid (AsmS w wr2 base X cur' fs (some ⟨gb, 0, none⟩) bc (some ⟨gf, 0, none⟩) fc gs [.slice tA tl tc, .slice fA' i fc', .slice none 0 0, .slice (some ⟨w.heap.size + 1, 0, none⟩) 6 6, .slice lA ll lc, .int .i64 0]) ∧ Hid (wr2.ownsRow wf.heap.size 114 3 (.slice fA' i fc') i (funcsV ((List.range i).map (fnAt cur fs)))) ∧ Hid (wf.grownBy wr2 (some (w.heap.size + 2))) ∧ nf - i ≤ gk2)
           case atStart => exact ⟨0, none, 0, Nat.zero_le _, rfl, HSF.out, ⟨rfl, .inl ⟨rfl, rfl⟩⟩, gb_refl _ _, Nat.le_refl _⟩
           case round =>
            as_aux_lemma =>
             obtain ⟨i, fA1, fc1, hi, rfl, HS6, HOF, HGF, hgk2⟩ := hrel
             by_cases hlt : i < nf
             · skip
               have hltI : (i : Int) < (nf : Int) := by omega
               obtain ⟨a, z, ha, hz, haz, hzb, hz1, hz2⟩ := HPK.out.fnd i (by rw [HNF.out]; exact hlt); rw [HNB.out] at hzb; have hFA := fnAt_eq (cur := cur) HNF.out ha hz1; obtain ⟨en, hen⟩ := ex' ((if i + 1 < nf then atB cur (z : Int) else szL cur.flatten))
               rw [hen] at hFA; have HAT6 := hd' (own_gb HATF.out HGF.out (fun e => by have := (HATN.out _ e).1; have := HS.out.size; omega)); have hac := ats_cell HAT6.out (show a < nb by omega); have hnc := own_capG HAT6.out; have hgal := (own_lt HAT6.out).2; have hab := HPK.out.atB_bd (a : Int); have hzbd := HPK.out.atB_bd (z : Int); have hrd := HS6.out.plan.rd2 (by rw [HCL.out]; omega) HFZ.out; have x1 := hrd.x1; rw [HNF.out] at x1; have xl := hrd.xl; have hfl := hrd.fl; have fa := hrd.fn i _ ha; have hab2 : a < nb := by omega
               have habI : (a : Int) < (nb : Int) := by omega
               have HZ1 : Hid (i + 1 < nf → wr.cell? ⟨gf, i + 1, none⟩ = some (.int .i64 (z : Int))) := hd' fun h => hrd.fn (i + 1) _ (hz1 (by rw [HNF.out]; exact h))
               have HZ2 : Hid (i + 1 < nf → wr.cell? ⟨ga, z, none⟩ = some (.int .i64 (atB cur (z : Int))) ∧ z < nb) := hd' fun h => by
                have hzn := hz1 (by rw [HNF.out]; exact h); have hzl := (HPK.out.fb _ _ hzn).2; rw [HNB.out] at hzl; exact ⟨ats_cell HAT6.out (by omega), by omega⟩
               have HFA := hd' hFA; have HEN := hd' hen; clear ha hz hz1 hz2 hFA hen hrd
               go_upto_if 210 with fail
               go_cut [27] (fun s27 wx => s27 = .int .i64 en ∧ wr = wx)
               case first =>
                as_aux_lemma =>
                 by_cases h1 : i + 1 < nf
                 · have h1I : (i : Int) + 1 < (nf : Int) := by omega
                   have hzc := HZ1.out h1; obtain ⟨hzc2, hzl⟩ := HZ2.out h1; have hzlI : (z : Int) < (nb : Int) := by omega
                   have HE2 : Hid (atB cur (z : Int) = en) := hd' (by rw [← HEN.out, if_pos h1])
                   go_wp2
                   go_meet
                   exact ⟨by rw [HE2.out], rfl⟩
                 · have h1I : ¬ (i : Int) + 1 < (nf : Int) := by omega
                   have HE2 : Hid (szL cur.flatten = en) := hd' (by rw [← HEN.out, if_neg h1])
                   go_wp2
                   go_meet
                   exact ⟨by rw [HE2.out], rfl⟩
               case rest =>
                as_aux_lemma =>
                 obtain ⟨rfl, rfl⟩ := hcut; have hen2 : 0 ≤ en ∧ en ≤ 1600 := by rw [← HEN.out]; split <;> omega
                 obtain ⟨he1, he2⟩ := hen2; obtain ⟨av, hav⟩ := ex' (atB cur (a : Int))
                 rw [hav] at hac hab HFA; obtain ⟨ha1, ha2⟩ := hab; have m1 := HS6.out.m.cell 1 rfl; have mf1 := HS6.out.m.free 1; have ml := HS6.out.m.lt; have hMG : ¬ w.heap.size + 2 = ga := by have := (HATN.out ga rfl).1; have := HS.out.size; omega
                 have hfz : wf.heap.size ≤ wr.heap.size := HGF.out.size; have hi3 : i < 3 := by omega
                 clear hav x1 xl hfl HZ1 HZ2
                 go_upto_region 53 with fail
                 clear fa; have hwr : IntKind.i64.wrap (en - av) = en - av := IntWalk.i64_in _ (by omega); obtain ⟨c1, hs1⟩ := ex' ((48 + i).toUInt8 : UInt8)
                 have HIT : Hid (∀ W, Calls Tryz.prog 39 #[.int .i64 (i : Int)] W fun e w' => e = .returned (.string ⟨#[c1]⟩) ∧ W = w') := hd' fun W => by rw [← hs1]; exact itoa_small i hi3 W
                 have HS1 : Hid ((⟨#[102]⟩ : ByteArray) ++ ⟨#[c1]⟩ = ⟨#[102, (48 + i).toUInt8]⟩) := hd' (by rw [← hs1]; rfl); have HFAV := HFA; clear hs1 HFA; have hgaf : ga < wf.heap.size := by have := (HATN.out ga rfl).2; omega
                 refine wp_region_W (fun w' => w'.cell? ⟨w.heap.size + 2, 1, none⟩ = some (.slice fA1 i fc1) ∧ w'.cell? ⟨ga, a, none⟩ = some (.int .i64 av)) 19 (by kernel_rfl) (by (try dsimp only); go_keep) (fun zH => ?_); refine wq 0 zH ?_; refine wq 1 zH ?_; refine wq 2 zH ?_; refine wq 5 zH ?_; refine wq 6 zH ?_; refine wq 7 zH ?_; refine wq 8 zH ?_; refine wq 9 zH ?_; refine wq 10 zH ?_; refine wq 11 zH ?_; refine wq 12 zH ?_; refine wq 13 zH ?_; refine wq 14 zH ?_; refine wpW_one 3 rfl (by kernel_rfl) (fun K hK => ?_)
                 go_simp
                 refine (HIT.out _).mono ?_; rintro e w4 ⟨rfl, rfl⟩
                 try go_wp2_with fail
                 refine hK.out _ _ (by (try dsimp only); go_keep) (fun zH => ?_); clear hK K; (try simp only [putE]); refine wq 4 zH ?_; refine wq 15 zH ?_; refine wpW_one 16 rfl (by kernel_rfl) (fun K hK => ?_)
                 go_simp
                 refine hK.out _ _ (by (try dsimp only); go_keep) (fun zH => ?_); clear hK K; (try simp only [putE]); refine wpW_one 17 rfl (by kernel_rfl) (fun K hK => ?_); have hr1 : (wr.alloc (.cells #[.string ((⟨#[102]⟩ : ByteArray) ++ ⟨#[c1]⟩), .int .i64 av, .int .i64 (en - av)] 114)).drew.heap[wr.heap.size]? = some (.cells #[.string ((⟨#[102]⟩ : ByteArray) ++ ⟨#[c1]⟩), .int .i64 av, .int .i64 (en - av)] 114 (0, 0)) := heap_alloc_new wr _
                 have ho1 : (wr.alloc (.cells #[.string ((⟨#[102]⟩ : ByteArray) ++ ⟨#[c1]⟩), .int .i64 av, .int .i64 (en - av)] 114)).drew.ownsRow wf.heap.size 114 3 (.slice fA1 i fc1) i (funcsV ((List.range i).map (fnAt cur fs))) := World.ownsRow.alloc HOF.out _; have hz1 : (wr.alloc (.cells #[.string ((⟨#[102]⟩ : ByteArray) ++ ⟨#[c1]⟩), .int .i64 av, .int .i64 (en - av)] 114)).drew.heap.size = wr.heap.size + 1 := (by simp)
                 have hbb : wf.heap.size ≤ (wr.alloc (.cells #[.string ((⟨#[102]⟩ : ByteArray) ++ ⟨#[c1]⟩), .int .i64 av, .int .i64 (en - av)] 114)).drew.heap.size := (by rw [hz1]; omega)
                 refine step_app_one rfl _ _ 25 114 3 32 _ Tryz.underlying25 infoFunc rfl (by decide) rfl wf.heap.size _ i _ rfl ho1 wr.heap.size 1 rfl [.string ((⟨#[102]⟩ : ByteArray) ++ ⟨#[c1]⟩), .int .i64 av, .int .i64 (en - av)] 114 (0, 0) hr1 rfl (by simp [Value.oneCell']) (by omega) (by omega) hbb (wr.heap.size + 1) hz1 ?_; intro g2 c2 w2 ho2 hgr2 hat2 hlt2
                 have hb2 : Below wf.heap.size wr w2 := (((Below.refl wr.heap.size wr).alloc lr' (.cells #[.string ((⟨#[102]⟩ : ByteArray) ++ ⟨#[c1]⟩), .int .i64 av, .int .i64 (en - av)] 114)).drew.mono hfz).trans (gb_below_of hgr2 (fun q hq => (World.ownsRow.lt HOF.out q hq).1) hbb); have hS2 := HS6.out.big (by have := HSB.out.size; omega) hb2; have m12 := hS2.m.cell 1 rfl; have mf12 := hS2.m.free 1; have ml2 := hS2.m.lt; have hac2 : w2.cell? ⟨ga, a, none⟩ = some (.int .i64 av) := (hb2.cell hgaf).trans hac; have HS2 := hd' hS2; have HO2 := hd' ho2
                 have HB2 := hd' hb2; clear hS2 ho2 hgr2 hat2 hr1 ho1 hz1 hbb hb2; refine hK.out _ _ (by (try dsimp only); go_keep) (fun zH => ?_); clear hK K; (try simp only [putE]); refine wq 18 zH ?_; refine wpW_last 19 rfl (by kernel_rfl) (by decide) (fun K hK => ?_)
                 go_simp
                 refine hK.out _ _ ?_; clear hK K; (try simp only [putE]); refine wpW_done (by kernel_rfl) ?_ _
                 all_goals
                  go_wp2
                  go_roundg (nf - (i + 1))
                  case measure => omega
                  case rel =>
                   refine ⟨i + 1, some ⟨g2, 0, none⟩, c2, by omega, by go_num, HS2.out.setM 1 _, ?_, gb_setCell (gb_then HGF.out HB2.out) _ _, Nat.le_refl _⟩; rw [List.range_succ, List.map_append, List.map_singleton, funcsV_snoc, HFAV.out, ← HS1.out]; exact own_gb HO2.out (gb_setCell (gb_refl _ _) _ _) (fun e => by have := (World.ownsRow.lt HO2.out _ e).1; have := HSB.out.size; omega)
             · have hltI : ¬ (i : Int) < (nf : Int) := by omega
               obtain rfl : i = nf := by omega
               go_wp2
               go_meet
               refine ⟨_, _, HS6.out, ?_, HGF.out⟩; have e : fnL cur fs = (List.range i).map (fnAt cur fs) := by unfold fnL; rw [HNF.out]
               rw [e]; exact HOF.out
         case rest =>
          as_aux_lemma =>
           obtain ⟨fA', fc', HSG, HOF, HGG⟩ := hcut; clear HSF; have hgz := HGG.out.size; have HATG := hd' (own_gb HATF.out HGG.out (fun e => by have := (HATN.out _ e).1; have := HS.out.size; omega)); have HTXG := hd' (HTXF.out.gb HGG.out (by have := HSB.out.size; omega)); clear HATF HTXF
           rename World => wg
           go_wp2_with fail
           go_loopg [242] 3 (fun gk2 s242 wr2 => ∃ (t : Nat) (bA' : Option Addr) (bc' : Nat), t ≤ 3 ∧ s242 = .int .i64 t ∧ Hid (AsmS w wr2 base X cur' fs (some ⟨gb, 0, none⟩) bc (some ⟨gf, 0, none⟩) fc gs [.slice tA tl tc, .slice fA' nf fc', .slice bA' t bc', .slice (some ⟨w.heap.size + 1, 0, none⟩) 6 6, .slice lA ll lc, .int .i64 0]) ∧ Hid (TabsAt wr2 wg.heap.size (.slice bA' t bc') ((List.range t).map (tabQ cur cur' fs L))) ∧ Hid (wg.grownBy wr2 (some (w.heap.size + 2))) ∧ 3 - t ≤ gk2)
           case atStart => exact ⟨0, none, 0, Nat.zero_le _, rfl, HSG.out, TabsAt.init _ _, gb_refl _ _, Nat.le_refl _⟩
           case round =>
            as_aux_lemma =>
             rename World => wt
             obtain ⟨t, bA1, bc1, ht, rfl, HS7, HTB, HG7, hgk2⟩ := hrel; have hg7z := HG7.out.size
             by_cases hlt : t < 3
             · skip
               have hltI : (t : Int) < 3 := by omega
               obtain ⟨ow, how⟩ := ex' (ownerF cur' fs (t : Int))
               have hob := owner_bd cur' fs (t : Int); rw [how, HNF.out] at hob; obtain ⟨hob1, hob2⟩ := hob
               have HOWN : Hid (∀ W, Below wt.heap.size wt W → Calls Tryz.prog 77 #[.pointer (some ⟨X, 0, none⟩), .int .i64 (t : Int)] W fun e w' => e = .returned (.int .i64 ow) ∧ Below W.heap.size W w') := hd' fun W hW => by
                rw [← how]; exact owner_any (t : Int) X cur' fs gb bc gf fc gs W ((HS7.out.keep hW).plan.rd2 (by rw [HCL.out]; omega) HFZ.out) HCR.out.ok
               have HOW := hd' how; clear how
               go_upto_if 249 with (first | (go_at_call 77; refine (HOWN.out _ (Below.refl _ _)).mono ?_; rintro e w5 ⟨rfl, hb5⟩))
               have HB5 := hd' hb5; clear hb5; have hz5 := HB5.out.size
               go_cut [29] (fun s29 wx => ∃ (tA2 : Option Addr) (tq tc2 : Nat), s29 = .slice tA2 tq tc2 ∧ Hid (wx.ownsRow wt.heap.size 3 1 (.slice tA2 tq tc2) tq (intsV .i64 (tabQ cur cur' fs L t))) ∧ Hid ((tabQ cur cur' fs L t).length = tq) ∧ tq ≤ 3 ∧ Hid (Below wt.heap.size wt wx))
               case first =>
                as_aux_lemma =>
                 by_cases h0 : 0 ≤ ow
                 · skip
                   obtain ⟨o, rfl⟩ := Int.eq_ofNat_of_zero_le h0; have hol : o < nf := by omega
                   obtain ⟨a, z, ha, hz, haz, hzb, hz1, hz2⟩ := HCR.out.ok.fnd o (by rw [HNF.out]; exact hol); rw [HCL.out] at hzb hz2; have HTQ := hd' (tabQ_own (cur := cur) (L := L) HOW.out ha hz); have HHA := hd' ha; have HHZ := hd' hz1; have HHZ2 := hd' hz2; clear ha hz hz1 hz2
                   go_wp2_with fail
                   go_loopg [29, 31] 3 (fun gk3 s29 s31 wr3 => ∃ (i : Nat) (A1 : Option Addr) (c1 : Nat), i ≤ 3 ∧ s31 = .int .i64 i ∧ s29 = .slice A1 i c1 ∧ Hid (wr3.ownsRow wt.heap.size 3 1 (.slice A1 i c1) i (intsV .i64 ((List.range i).map (tabE cur L a z t)))) ∧ Hid (Below wt.heap.size wt wr3) ∧ 3 - i ≤ gk3)
                   case atStart => exact ⟨0, none, 0, Nat.zero_le _, rfl, rfl, ⟨rfl, .inl ⟨rfl, rfl⟩⟩, HB5.out, Nat.le_refl _⟩
                   case round =>
                    as_aux_lemma =>
                     obtain ⟨i, A1, c1, hi, rfl, rfl, HOA, HB6, hgk3⟩ := hrel; clear HB5 hz5; have hz6 := HB6.out.size
                     by_cases hi3 : i < 3
                     · have hiI : (i : Int) < 3 := by omega
                       have hS8 := HS7.out.keep HB6.out; have hrd := hS8.plan.rd2 (by rw [HCL.out]; omega) HFZ.out; have x0 := hrd.x0; have x1 := hrd.x1; rw [HCL.out] at x0; rw [HNF.out] at x1; have xl := hrd.xl; have hfl := hrd.fl; have fa := hrd.fn o _ HHA.out; have HZ1 : Hid (o + 1 < nf → wr.cell? ⟨gf, o + 1, none⟩ = some (.int .i64 (z : Int))) := hd' fun h => hrd.fn (o + 1) _ (HHZ.out (by rw [HNF.out]; exact h))
                       have HRD := hd' hrd; clear hS8 hrd
                       go_upto_if 266 with fail
                       go_cut [32] (fun s32 wx => s32 = .int .i64 (z : Int) ∧ wr = wx)
                       case first =>
                        as_aux_lemma =>
                         by_cases h1 : o + 1 < nf
                         · have h1I : (o : Int) + 1 < (nf : Int) := by omega
                           have hzc := HZ1.out h1
                           go_wp2
                           go_meet
                           exact ⟨rfl, rfl⟩
                         · have h1I : ¬ (o : Int) + 1 < (nf : Int) := by omega
                           have hzn := HHZ2.out (by rw [HNF.out]; exact h1); subst hzn
                           go_wp2
                           go_meet
                           exact ⟨rfl, rfl⟩
                       case rest =>
                        as_aux_lemma =>
                         obtain ⟨rfl, rfl⟩ := hcut; clear x0 x1 xl hfl fa HZ1
                         go_upto_if 278 with fail
                         obtain ⟨R, hR⟩ := ex' wr.heap.size
                         obtain ⟨wy, hwy⟩ := ex' (wr.alloc (.cells #[.int .i64 0, .int .i64 0, .int .i64 0, .int .i64 0] 85))
                         have hRb : Blk wy wr.heap.size 85 [.int .i64 0, .int .i64 0, .int .i64 0, .int .i64 0] := by rw [← hwy]; exact Blk.new wr _ _
                         have hbR : Below wr.heap.size wr wy := by rw [← hwy]; exact (Below.refl _ _).alloc lr' _
                         rw [hwy, hR]; rw [hR] at hRb; have hRl := hRb.lt; have rf0 := hRb.free 0; have rf1 := hRb.free 1; have rf2 := hRb.free 2; have rf3 := hRb.free 3; have rc0 := hRb.cell 0 rfl; have rc1 := hRb.cell 1 rfl; have rc2 := hRb.cell 2 rfl; have rc3 := hRb.cell 3 rfl; have HRB := hd' hRb; have HBR := hd' hbR; have HRE := hd' hR; obtain ⟨ra, hra⟩ := ex' ((rawAt L (t + i)).a)
                         have HRA := hd' hra; clear hwy hRb hbR hR hra
                         go_cut [] (fun wx => ∃ (rk rb rc : Int), Blk wx R 85 [.int .i64 rk, .int .i64 ra, .int .i64 rb, .int .i64 rc] ∧ Below wr.heap.size wr wx)
                         case first =>
                          as_aux_lemma =>
                           by_cases hlm : lm = 0
                           · have hL : L = [] := List.eq_nil_of_length_eq_zero (by rw [HLM.out]; exact hlm)
                             have hra0 : ra = 0 := by
                              rw [← HRA.out, hL]
                              rfl
                             have HR0 := hd' hra0; have hlmI : ¬ (0 : Int) < (lm : Int) := by omega
                             clear hL hra0 hlm
                             go_wp2
                             go_meet
                             exact ⟨0, 0, 0, by rw [HR0.out]; exact HRB.out, HBR.out⟩
                           · skip
                             have hL : L ≠ [] := by
                              intro e; have h := HLM.out; rw [e] at h; exact hlm h.symm
                             obtain ⟨rg, ro, rfl, hrg, hrc⟩ := HR.out.2 hL; obtain ⟨q, hq⟩ := ex' ((t + i) % lm)
                             have hql : q < lm := by rw [← hq]; exact Nat.mod_lt _ (by omega)
                             have hqe : L[q]? = some (L[q]'(by rw [HLM.out]; exact hql)) := gE' _; obtain ⟨⟨k1, a1, b1, c1'⟩, hr1⟩ := ex' (L[q]'(by rw [HLM.out]; exact hql))
                             rw [hr1] at hqe
                             have hra1 : ra = a1 := by
                              rw [← HRA.out]; unfold rawAt; rw [HLM.out, hq, List.getD_eq_getElem?_getD, hqe]
                              rfl
                             obtain ⟨c0, c1, c2, c3⟩ := hrc q _ hqe; have hbel : Below base w wy := (HS7.out.keep HB6.out).bel.trans (HBR.out.mono (by have := HS7.out.size; have := HS7.out.plan.bX; have := HS7.out.ltX; omega)); have d0 : wy.cell? ⟨rg, ro + q * 4, none⟩ = some (.int .i64 k1) := (hbel.cell hrg).trans c0; have d1 : wy.cell? ⟨rg, ro + q * 4 + 1, none⟩ = some (.int .i64 a1) := (hbel.cell hrg).trans c1; have d2 : wy.cell? ⟨rg, ro + q * 4 + 2, none⟩ = some (.int .i64 b1) := (hbel.cell hrg).trans c2
                             have d3 : wy.cell? ⟨rg, ro + q * 4 + 3, none⟩ = some (.int .i64 c1') := (hbel.cell hrg).trans c3; have hlmI : (0 : Int) < (lm : Int) := by omega
                             have hlm0 : ¬ (lm : Int) = 0 := by omega
                             have hlmb : lm ≤ 150 := hl; have hlc : lm ≤ c := hc
                             have e1 : IntKind.i64.wrap (((t : Int) + (i : Int)).tmod (lm : Int)) = (q : Int) := by
                              have h1 : ((t : Int) + (i : Int)).tmod (lm : Int) = (q : Int) := by
                               rw [← hq]; exact (Int.ofNat_tmod (t + i) lm).symm
                              rw [h1]; exact IntWalk.i64_in _ (by omega)
                             have e2 : ((t : Int) + (i : Int)).tmod (lm : Int) = (q : Int) := by
                              rw [← hq]; exact (Int.ofNat_tmod (t + i) lm).symm
                             have hqI : (q : Int) < (lm : Int) := by omega
                             have HRA1 := hd' hra1; clear hL hq hqe hr1 hra1 c0 c1 c2 c3 hrc
                             go_wp2
                             go_meet
                             exact ⟨k1, b1, c1', by rw [HRA1.out]; exact (((HRB.out.set 0 _).set 1 _).set 2 _).set 3 _, HBR.out.trans (gb_to_below (gb_setCell (gb_setCell (gb_setCell (gb_setCell (gb_refl wy (some R)) _ _) _ _) _ _) _ _) (Nat.le_of_eq HRE.out) HBR.out.size)⟩
                         case rest =>
                          as_aux_lemma =>
                           obtain ⟨rk, rb, rc, hRB2, hBR2⟩ := hcut; clear rf0 rf1 rf2 rf3 rc0 rc1 rc2 rc3 HRB HBR hRl; have hrd := HRD.out.keep hBR2; have x1 := hrd.x1; rw [HNF.out] at x1; have xl := hrd.xl; have hfl := hrd.fl; have fa := hrd.fn o _ HHA.out; have rc1 := hRB2.cell 1 rfl; have hRl := hRB2.lt; have hpk := pickL_bd ra ((z : Int) - (a : Int)) (by omega); obtain ⟨pv, hpv⟩ := ex' (pickL ra ((z : Int) - (a : Int)))
                           rw [hpv] at hpk; obtain ⟨p, rfl⟩ := Int.eq_ofNat_of_zero_le hpk.1; have hap : a + p < nb := by omega
                           have hapI : (a : Int) + (p : Int) < (nb : Int) := by omega
                           have HAT8 : Hid (wc.ownsRow wo.heap.size 3 1 (.slice (some ⟨ga, 0, none⟩) nb atC) nb (intsV .i64 (atsL cur nb))) := hd' (own_keep (own_keep (own_gb HATG.out HG7.out (fun e => by have := (HATN.out _ e).1; have := HS.out.size; omega)) HB6.out) hBR2); have hac := ats_cell HAT8.out hap; have hnc := own_capG HAT8.out; have hgal := (own_lt HAT8.out).2; obtain ⟨av2, hav2⟩ := ex' (atB cur ((a + p : Nat) : Int))
                           rw [hav2] at hac
                           have hra64 : -9223372036854775808 ≤ ra ∧ ra ≤ 9223372036854775807 := by
                            rw [← HRA.out]; unfold rawAt; rw [List.getD_eq_getElem?_getD]
                            cases hq : L[(t + i) % L.length]? with
                            | none => exact ⟨by decide, by decide⟩
                            | some r => exact (HR.out.1 r (mG' hq)).2.1
                           have hzn120 : z ≤ 120 := by omega
                           have HPICK : Hid (∀ W, Calls Tryz.prog 22 #[.int .i64 ra, .int .i64 ((z : Int) - (a : Int))] W fun e w' => e = .returned (.int .i64 (p : Int)) ∧ W = w') := hd' fun W => by
                            rw [← hpv]; exact picked_any _ _ W hra64.1 hra64.2 (by omega) (by omega)
                           have hBWC : Below wt.heap.size wt wc := HB6.out.trans (hBR2.mono hz6); have hcz : wt.heap.size ≤ wc.heap.size := hBWC.size; have hRne : (Value.slice A1 i c1).ownBlock ≠ some R := fun e => by have := (World.ownsRow.lt HOA.out _ e).2; have := HRE.out; omega
                           have HRN := hd' hRne; have HOC : Hid (wc.ownsRow wt.heap.size 3 1 (.slice A1 i c1) i (intsV .i64 ((List.range i).map (tabE cur L a z t)))) := hd' (own_keep HOA.out hBR2); have HATT : Hid (wt.ownsRow wo.heap.size 3 1 (.slice (some ⟨ga, 0, none⟩) nb atC) nb (intsV .i64 (atsL cur nb))) := hd' (own_gb HATG.out HG7.out (fun e => by have := (HATN.out _ e).1; have := HS.out.size; omega)); have HBWC := hd' hBWC; have HRB2 := hd' hRB2; have HAV := hd' hav2; have HPV := hd' hpv; have hI2 : i + 1 ≤ 1000000000000 := by omega
                           have hI3 : (i + 1) * 8 ≤ 140737488355328 := by omega
                           clear hrd hpv hav2 hRne hBWC hBR2 hRB2 hra64 HOA; have hw1 : IntKind.i64.wrap ((z : Int) - (a : Int)) = (z : Int) - (a : Int) := IntWalk.i64_in _ (by omega); have hw2 : IntKind.i64.wrap ((a : Int) + (p : Int)) = (a : Int) + (p : Int) := IntWalk.i64_in _ (by omega); have hw3 : ((a : Int) + (p : Int)).toNat = a + p := by omega
                           have hw4 : (0 : Int) ≤ (a : Int) + (p : Int) := by omega
                           go_wp2_with fail
                           go_region_held3 (fun w' => w'.cell? ⟨X, 1, none⟩ = some (.slice (some ⟨gf, 0, none⟩) nf fc) ∧ w'.cell? ⟨gf, o, none⟩ = some (.int .i64 (a : Int)) ∧ w'.cell? ⟨R, 1, none⟩ = some (.int .i64 ra) ∧ w'.cell? ⟨ga, a + p, none⟩ = some (.int .i64 av2)) (go_keep) ((first | (go_at_call 22; refine (HPICK.out _).mono ?_; rintro e w4 ⟨rfl, rfl⟩) | (have hr1 : (wc.alloc (.cells #[.int .i64 av2] 3)).drew.heap[wc.heap.size]? = some (.cells #[.int .i64 av2] 3 (0, 0)) := heap_alloc_new wc _; have ho1 : (wc.alloc (.cells #[.int .i64 av2] 3)).drew.ownsRow wt.heap.size 3 1 (.slice A1 i c1) i (intsV .i64 ((List.range i).map (tabE cur L a z t))) := World.ownsRow.alloc HOC.out _; have hz1 : (wc.alloc (.cells #[.int .i64 av2] 3)).drew.heap.size = wc.heap.size + 1 := (by simp); have hbb : wt.heap.size ≤ (wc.alloc (.cells #[.int .i64 av2] 3)).drew.heap.size := (by rw [hz1]; exact Nat.le_succ_of_le hcz); refine step_app_one rfl _ _ 27 3 1 8 _ Tryz.underlying27 infoInt2 rfl (by decide) rfl wt.heap.size _ i _ rfl ho1 wc.heap.size 1 rfl [.int .i64 av2] 3 (0, 0) hr1 rfl (by simp [Value.oneCell']) hI2 hI3 hbb (wc.heap.size + 1) hz1 ?_; intro g2 c2 w2 ho2 hgr2 hat2 hlt2; have hb2 : Below wt.heap.size wc w2 := (((Below.refl wc.heap.size wc).alloc lr' (.cells #[.int .i64 av2] 3)).drew.mono hcz).trans (gb_below_of hgr2 (fun q hq => (World.ownsRow.lt HOC.out q hq).1) hbb); have hbt := HBWC.out.trans hb2; have hrd2 := (HS7.out.keep hbt).plan.rd2 (by rw [HCL.out]; omega) HFZ.out; have x12 := hrd2.x1; rw [HNF.out] at x12; have fa2 := hrd2.fn o _ HHA.out; have hac2 := ats_cell (own_keep HATT.out hbt) hap; rw [HAV.out] at hac2; have rc12 := ((HRB2.out.alloc (.cells #[.int .i64 av2] 3)).drew.gb hgr2 HRN.out).cell 1 rfl; have HO2 := hd' ho2; have HBT2 := hd' hbt; clear ho2 hgr2 hat2 hr1 ho1 hz1 hbb hb2 hbt hrd2)))
                           all_goals
                            go_wp2
                            go_roundg (3 - (i + 1))
                            case measure => omega
                            case rel =>
                             refine ⟨i + 1, some ⟨g2, 0, none⟩, c2, by omega, by go_num, rfl, ?_, HBT2.out, Nat.le_refl _⟩
                             have e : tabE cur L a z t i = av2 := by
                              unfold tabE; rw [HRA.out, HPV.out, ← HAV.out]
                              rfl
                             rw [List.range_succ, List.map_append, List.map_singleton, e]; exact hd' (by simpa [intsV] using HO2.out)
                     · have hiI : ¬ (i : Int) < 3 := by omega
                       obtain rfl : i = 3 := by omega
                       go_wp2
                       go_meet
                       exact ⟨_, _, _, rfl, by rw [HTQ.out]; exact HOA.out, hd' (by rw [HTQ.out]; simp), Nat.le_refl _, HB6.out⟩
                 · have HTQ := hd' (tabQ_none (cur := cur) (L := L) HOW.out h0)
                   go_wp2
                   go_meet
                   exact ⟨none, 0, 0, rfl, by rw [HTQ.out]; exact ⟨rfl, .inl ⟨rfl, rfl⟩⟩, hd' (by rw [HTQ.out]; rfl), by omega, HB5.out⟩
               case rest =>
                as_aux_lemma =>
                 obtain ⟨tA2, tq, tc2, rfl, HOT, HTQ, htq3, HBT⟩ := hcut; clear HB5 hz5 HOW HOWN hob1 hob2; have hzt := HBT.out.size; obtain ⟨vs, hOB, hpush⟩ := TabsAt.push2 HTB.out (by rw [List.length_map, List.length_range]) (HBT.out.trans (((Below.refl wc.heap.size wc).alloc lr' (.cells #[.slice tA2 tq tc2] 27)).mono hzt)) (World.ownsRow.alloc HOT.out _) HTQ.out (by omega) hg7z; have hST := HS7.out.keep HBT.out; have m2 := hST.m.cell 2 rfl; have mf2 := hST.m.free 2; have ml := hST.m.lt; have hwgm : w.heap.size + 2 < wg.heap.size := by have := HSG.out.size; omega
                 have hgc : wg.heap.size ≤ wc.heap.size := by omega
                 have HOB := hd' hOB; have HPUSH := hd' hpush; have HST := hd' hST; clear hOB hpush hST
                 go_wp2_with (first | (refine app_one rfl _ _ 26 27 1 24 _ Tryz.underlying26 infoInts rfl (by decide) rfl wg.heap.size _ t _ rfl HOB.out wc.heap.size 1 rfl [.slice tA2 tq tc2] 27 (0, 0) (heap_alloc_new wc _) rfl (by simp [Value.oneCell']) (by omega) (by omega) (by simp; omega) (wc.heap.size + 1) (by simp) ?a1))
                 case a1 =>
                  as_aux_lemma =>
                   intro g2 c2 w2 ho2 hgr2 hat2 hlt2; have hb2 : Below wg.heap.size wc w2 := (((Below.refl wc.heap.size wc).alloc lr' (.cells #[.slice tA2 tq tc2] 27)).mono (by omega)).trans (gb_below_of hgr2 (fun q hq => (World.ownsRow.lt HOB.out q hq).1) (by simp; omega)); have hS2 := HST.out.big (by have := HSG.out.size; omega) hb2; have m22 := hS2.m.cell 2 rfl; have mf22 := hS2.m.free 2; have ml2 := hS2.m.lt; have HS2 := hd' hS2; have hTP := HPUSH.out w2 g2 c2 _ ho2 hgr2 hat2 (by simp); have HTP := hd' hTP; have HB2 := hd' hb2
                   clear ho2 hgr2 hat2 hlt2 hb2 hS2 hTP
                   go_wp2
                   go_roundg (3 - (t + 1))
                   case measure => omega
                   case rel =>
                    refine ⟨t + 1, some ⟨g2, 0, none⟩, c2, by omega, by go_num, HS2.out.setM 2 _, ?_, ?_, Nat.le_refl _⟩
                    · have h := HTP.out.gb (gb_setCell (gb_refl w2 (some (w.heap.size + 2))) 2 (.slice (some ⟨g2, 0, none⟩) (t + 1) c2)) hwgm; rw [List.range_succ, List.map_append, List.map_singleton]; exact hd' h
                    · exact gb_setCell (gb_then (gb_then HG7.out (HBT.out.mono hg7z)) HB2.out) _ _
             · skip
               have hltI : ¬ (t : Int) < 3 := by omega
               obtain rfl : t = 3 := by omega
               go_wp2
               go_roundg (nlL cur)
               case measure => first | exact HN.out trivial | exact HN.out rfl
               case rel =>
                refine ⟨cur', _, _, _, _, ag, rfl, HS7.out, HCR.out.ok, HSM.out.trans HCR.out.same, HCR.out.yes, fun e => ?_⟩; obtain ⟨e1, e2⟩ := HCR.out.no e; have e3 := doneL_all cur; rw [HNB.out] at e3; rw [e3] at e2; have hTB := HTB.out; rw [e1] at hTB ⊢; exact asm_fin (wa := wa) (wf := wf) (wg := wg) HSB.out.size hszf hgz e2 (HTXG.out.gb HG7.out (by have := HSB.out.size; omega)) HTL.out HLL.out (own_gb HOF.out HG7.out (fun e4 => by have := (World.ownsRow.lt HOF.out _ e4).1; have := HSB.out.size; omega)) HNF.out hTB
end Go.Proofs.YtcdlgjhdbmmomaaGreatDoor
