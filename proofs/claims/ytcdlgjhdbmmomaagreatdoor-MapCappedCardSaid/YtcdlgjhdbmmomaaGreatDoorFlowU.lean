/- Recover, walked: for every image. -/
import Derived.Test.YtcdlgjhdbmmomaaGreatDoorFlowN
import Derived.Test.YtcdlgjhdbmmomaaGreatDoorFlowT
import Derived.Test.YtcdlgjhdbmmomaaGreatDoorRegX
import Derived.Deep.DeepCutAuto
import Derived.Deep.CutBlock
import Derived.Deep.LoopGhost
import Derived.Deep.QuietTactic
import Derived.BigQuiet
import Derived.IntWalk
namespace Go.Proofs.YtcdlgjhdbmmomaaGreatDoor
open Go.RowKit Go.Deep
def RecPost (w : World) (m : Img) (E : Int) (e : Ending) (w' : World) : Prop := (E ≠ 0 → BadPost w E e w') ∧ ∀ d, E = 0 → recL m = some d → GoodPost w d e w'
set_option maxHeartbeats 16000000 in
set_option maxRecDepth 100000 in
theorem rec_any (m : Img) (v : ImgV) (w : World) (hT : Tabs w) (hI : ImgRd w w.heap.size m v) (hO : ImgOk m v) :
 Calls Tryz.prog 35 #[.agg (m.val v)] w (RecPost w m (recE m)) := by
 have HPO : Hid (∀ e w', e = .returned (.tuple #[.agg #[.slice none 0 0, .slice none 0 0, .slice none 0 0], .int .i64 (recE m)]) → Below w.heap.size w w' → recE m ≠ 0 → RecPost w m (recE m) e w') := hd' fun e w' h1 h2 h3 => ⟨fun _ => ⟨h1, h2⟩, fun d h => absurd h h3⟩
 have HPG : Hid (∀ e w', recE m = 0 → ∀ d, recL m = some d → GoodPost w d e w' → RecPost w m (recE m) e w') := hd' fun e w' h0 d hd hg => ⟨fun h => absurd h0 h, fun d2 _ h2 => by rw [hd] at h2; injection h2 with h2; rw [← h2]; exact hg⟩
 obtain ⟨C, hC⟩ := ex' (checkE m)
 have HCK : Hid (∀ W, Below w.heap.size w W → Calls Tryz.prog 55 #[.agg (m.val v)] W fun e w' => e = .returned (.int .i64 C) ∧ Below W.heap.size W w') := hd' fun W hW => by rw [← hC]; exact imgCheck_any m v W ((hI.below hW).more hW.size) hO
 have HSW : Hid (C = 0 → m.text.length ≤ 2000 → ∀ (name : ByteArray) (st sz : Int), ⟨name, st, sz⟩ ∈ m.funcs → ∀ W, Below w.heap.size w W → Calls Tryz.prog 56 #[.agg (m.val v), .agg #[.string name, .int .i64 st, .int .i64 sz]] W (SweepPost W (sweepL m.text ⟨name, st, sz⟩))) := hd' fun h0 h8 name st sz hf W hW => by
  rw [← hC] at h0; obtain ⟨a1, a2, a3⟩ := fns_ok h0 _ hf; exact sweep_any m v ⟨name, st, sz⟩ W (hT.below hW) ((hI.below hW).more hW.size) hO a1 a2 a3 (by omega)
 obtain ⟨tA, tc, fA, fc, bA, bc, dA, dc, lA, lc⟩ := v; have hofl := hO.fl; have hofc := hO.fc; have hobl := hO.bl; have hobc := hO.bc; have hotl := hO.tl; simp only at hofc hobc; have HT := hd' hT; have HI := hd' hI; have HO := hd' hO; have HC := hd' hC; obtain ⟨T, hTe⟩ := ex' m.text.length
 obtain ⟨NF, hNF⟩ := ex' m.funcs.length
 obtain ⟨NB, hNB⟩ := ex' m.tables.length
 obtain ⟨ND, hND⟩ := ex' m.data.length
 obtain ⟨NL, hNL⟩ := ex' m.lines.length
 obtain ⟨EN, hEN⟩ := ex' m.entry
 obtain ⟨RE, hRE⟩ := ex' (recE m)
 unfold Img.val at HCK HSW ⊢; simp only [hTe, hNF, hNB, hND, hNL, hEN, hRE] at HCK HSW HPO HPG hofl hofc hobl hobc hotl ⊢; have HN := hd' (And.intro hTe (And.intro hNF (And.intro hNB (And.intro hND (And.intro hNL (And.intro hEN hRE)))))); clear hT hI hO hC hTe hNF hNB hND hNL hEN hRE
 go_enter Tryz.func35, Tryz.ntmps35
 go_upto_region 1 with fail
 obtain ⟨W0, hW0⟩ := ex' (((w.alloc (.cells #[.slice tA T tc, .slice fA NF fc, .slice bA NB bc, .slice dA ND dc, .slice lA NL lc, .int .i64 EN] 30)).alloc (.cells #[.slice none 0 0, .slice none 0 0, .slice none 0 0] 33)))
 rw [hW0]
 have hrw0 : RecW w W0 [.slice tA T tc, .slice fA NF fc, .slice bA NB bc, .slice dA ND dc, .slice lA NL lc, .int .i64 EN] := by
  rw [← hW0]; exact ⟨(Blk.new w _ _).alloc _, Blk.new2 w _ _ _, ((Below.refl _ _).alloc lr' _).alloc (by simp) _, by simp⟩
 have hz0 : W0.heap.size = w.heap.size + 2 := by rw [← hW0]; simp
 have HZ0 := hd' hz0; have HRW0 := hd' hrw0; have m0 := hrw0.bm.cell 0 rfl; have m1 := hrw0.bm.cell 1 rfl; have m2 := hrw0.bm.cell 2 rfl; have m3 := hrw0.bm.cell 3 rfl; have m4 := hrw0.bm.cell 4 rfl; have m5 := hrw0.bm.cell 5 rfl; have ml := hrw0.bm.lt; clear hW0 hrw0 hz0
 go_wp2_with fail
 refine (HCK.out W0 HRW0.out.bel).mono ?_; rintro e w1 ⟨rfl, hb1⟩; have hrw1 := HRW0.out.below (hb1.mono (by rw [HZ0.out]; exact Nat.le_refl _)); have HRW1 := hd' hrw1; clear m0 m1 m2 m3 m4 m5 ml HRW0 HCK hb1; have m0 := hrw1.bm.cell 0 rfl; have m1 := hrw1.bm.cell 1 rfl; have m2 := hrw1.bm.cell 2 rfl; have m3 := hrw1.bm.cell 3 rfl; have m4 := hrw1.bm.cell 4 rfl; have m5 := hrw1.bm.cell 5 rfl; have ml := hrw1.bm.lt
 by_cases hc0 : C = 0
 rotate_left
 · have q1 : (C != 0) = true := by simpa using hc0
   have z0 := HRW1.out.br.cell 0 rfl; have z1 := HRW1.out.br.cell 1 rfl; have z2 := HRW1.out.br.cell 2 rfl; have zf0 := HRW1.out.br.free 0; have zf1 := HRW1.out.br.free 1; have zf2 := HRW1.out.br.free 2; have zl := HRW1.out.br.lt; have HEQ : Hid (RE = C) := hd' (by rw [← HN.out.2.2.2.2.2.2]; exact (by rw [recE_C (by rw [HC.out]; exact hc0), HC.out]))
   go_wp2
   refine bodyPost_ret (v := .tuple #[.agg #[.slice none 0 0, .slice none 0 0, .slice none 0 0], .int .i64 C]) (by simp [results, Tryz.results35, go_sem, z0, z1, z2]) rfl (HPO.out _ _ (by rw [HEQ.out]) ?_ (by rw [HEQ.out]; first | exact hc0 | decide)); exact HRW1.out.bel.trans (gb_to_below (gb_setCell (gb_setCell (gb_setCell (gb_refl _ (some (w.heap.size + 1))) _ _) _ _) _ _) (by omega) (by have := HRW1.out.sz; omega))
 · subst hc0
   by_cases ht : 2000 < T
   · have ht2 : (2000 : Int) < (T : Int) := by omega
     have z0 := HRW1.out.br.cell 0 rfl; have z1 := HRW1.out.br.cell 1 rfl; have z2 := HRW1.out.br.cell 2 rfl; have zf0 := HRW1.out.br.free 0; have zf1 := HRW1.out.br.free 1; have zf2 := HRW1.out.br.free 2; have zl := HRW1.out.br.lt; have HEQ : Hid (RE = 1) := hd' (by rw [← HN.out.2.2.2.2.2.2]; exact (recE_T HC.out (by rw [HN.out.1]; exact ht)))
     go_wp2
     refine bodyPost_ret (v := .tuple #[.agg #[.slice none 0 0, .slice none 0 0, .slice none 0 0], .int .i64 1]) (by simp [results, Tryz.results35, go_sem, z0, z1, z2]) rfl (HPO.out _ _ (by rw [HEQ.out]) ?_ (by rw [HEQ.out]; first | exact hc0 | decide)); exact HRW1.out.bel.trans (gb_to_below (gb_setCell (gb_setCell (gb_setCell (gb_refl _ (some (w.heap.size + 1))) _ _) _ _) _ _) (by omega) (by have := HRW1.out.sz; omega))
   · have ht2 : ¬ (2000 : Int) < (T : Int) := by omega
     have HT20 : Hid (m.text.length ≤ 2000) := hd' (by rw [HN.out.1]; omega); have HSV := hd' (fun name st sz hf W hW => HSW.out rfl (by rw [← HN.out.1]; exact HT20.out) name st sz hf W hW); clear HSW ht; have hmm := @run_makeMap Tryz.prog
     go_upto_region 7 with fail
     clear hmm; have hst := RecS.start (v := ⟨tA, tc, fA, fc, bA, bc, dA, dc, lA, lc⟩) HRW1.out.sz ((HI.out.below HRW1.out.bel).more (by have := HRW1.out.sz; omega)); have hal : Below w1.heap.size w1 ((((w1.alloc (.map #[] 0)).alloc (.map #[] 0)).alloc (.map #[] 0)).alloc (.cells (finC m ⟨tA, tc, fA, fc, bA, bc, dA, dc, lA, lc⟩ none 0 0 w1.heap.size (w1.heap.size + 1) (w1.heap.size + 2) nil3).toArray 112)) := ((((Below.refl _ _).alloc lr' _).alloc (by simp) _).alloc (by simp; omega) _).alloc (by simp; omega) _; obtain ⟨o, ho⟩ := ex' w1.heap.size
     have ho2 : w.heap.size + 2 ≤ o := by rw [← ho]; exact HRW1.out.sz
     have hrx := HRW1.out.below (hal.mono HRW1.out.sz); unfold finC nil3 at hst hal hrx; simp only [ho, HN.out.1, HN.out.2.1, HN.out.2.2.1, HN.out.2.2.2.1, HN.out.2.2.2.2.1, HN.out.2.2.2.2.2.1, List.cons_append, List.nil_append] at hst hrx ⊢; simp only [show o + 1 + 1 + 1 = o + 3 from rfl, show o + 1 + 1 = o + 2 from rfl]
     obtain ⟨Wx, hWx⟩ := ex' (((((w1.alloc (.map #[] 0)).alloc (.map #[] 0)).alloc (.map #[] 0)).alloc (.cells #[.slice tA T tc, .slice fA NF fc, .slice bA NB bc, .slice dA ND dc, .slice lA NL lc, .int .i64 EN, .slice none 0 0, .map (some o), .map (some (o + 1)), .map (some (o + 2)), .slice none 0 0, .slice none 0 0, .slice none 0 0] 112)))
     rw [hWx]; rw [hWx] at hst hrx; have HSX := hd' hst; have HRX := hd' hrx; clear hst hrx hal hWx ho HRW1 hrw1 m0 m1 m2 m3 m4 m5 ml; have m0 := HRX.out.bm.cell 0 rfl; have m1 := HRX.out.bm.cell 1 rfl; have m2 := HRX.out.bm.cell 2 rfl; have m3 := HRX.out.bm.cell 3 rfl; have m4 := HRX.out.bm.cell 4 rfl; have m5 := HRX.out.bm.cell 5 rfl; have ml := HRX.out.bm.lt
     go_upto_block 0 with fail
     clear m0 m1 m2 m3 m4 m5 ml
     go_cut [] (fun wx => ∃ (aA : Option Addr) (ac : Nat) (all : List (List Sp)) (vs : List Value) (no : Nat), Hid (RecS wx (w.heap.size + 2) (o + 3) m ⟨tA, tc, fA, fc, bA, bc, dA, dc, lA, lc⟩ aA ac all vs o no (ownA all) (o + 1) 0 (fun _ => false) (o + 2)) ∧ Hid (sweepAll m.text m.funcs = some all) ∧ Hid (RecW w wx [.slice tA T tc, .slice fA NF fc, .slice bA NB bc, .slice dA ND dc, .slice lA NL lc, .int .i64 EN]) ∧ no ≤ 400000)
     case first =>
      go_wp2_with fail
      go_loopg [41] NF (fun gk s41 wr => ∃ (i no : Nat) (aA : Option Addr) (ac : Nat) (all : List (List Sp)) (vs : List Value), i ≤ NF ∧ s41 = .int .i64 i ∧ no ≤ 8000 * i ∧ Hid (all.length = i) ∧ Hid (RecS wr (w.heap.size + 2) (o + 3) m ⟨tA, tc, fA, fc, bA, bc, dA, dc, lA, lc⟩ aA ac all vs o no (ownA all) (o + 1) 0 (fun _ => false) (o + 2)) ∧ Hid (sweepAll m.text (m.funcs.take i) = some all) ∧ Hid (RecW w wr [.slice tA T tc, .slice fA NF fc, .slice bA NB bc, .slice dA ND dc, .slice lA NL lc, .int .i64 EN]) ∧ NF - i ≤ gk)
      case atStart => exact ⟨0, 0, none, 0, [], [], Nat.zero_le _, rfl, Nat.le_refl _, hd' rfl, HSX, hd' rfl, HRX, Nat.le_refl _⟩
      case round =>
       obtain ⟨i, no, aA, ac, all, vs, hi, rfl, hno, HAL, HRS, HSA, HRW, hgk⟩ := hrel
       by_cases hil : i < NF
       · have hx : m.funcs[i]? = some (m.funcs[i]'(by rw [HN.out.2.1]; exact hil)) := gE' _; obtain ⟨f, hfe⟩ := ex' (m.funcs[i]'(by rw [HN.out.2.1]; exact hil))
         rw [hfe] at hx; obtain ⟨name, st, sz⟩ := f; have HX := hd' hx; obtain ⟨fb, fo, hfa, hfb, y_nm, y_st, y_sz⟩ := (HRS.out.img.funcs).at3 hx; simp only at hfa hfb y_nm y_st y_sz; subst hfa; have hiI : (i : Int) < (NF : Int) := by omega
         have m0 := HRW.out.bm.cell 0 rfl; have m1 := HRW.out.bm.cell 1 rfl; have m2 := HRW.out.bm.cell 2 rfl; have m3 := HRW.out.bm.cell 3 rfl; have m4 := HRW.out.bm.cell 4 rfl; have m5 := HRW.out.bm.cell 5 rfl; have ml := HRW.out.bm.lt; clear hx hfe
         go_wp2_with fail
         have hbf : Below wr.heap.size wr (wr.alloc (.cells #[.string name, .int .i64 st, .int .i64 sz] 114)) := (Below.refl _ _).alloc lr' _; refine (HSV.out name st sz (mG' HX.out) _ (HRW.out.bel.trans (hbf.mono HRW.out.bel.size))).mono ?_; rintro e w2 ⟨hb2, hn2, hs2⟩; have hbb : Below wr.heap.size wr w2 := hbf.trans (hb2.mono (by simp)); have HR2 := hd' (HRS.out.below hbb); have HRW2 := hd' (HRW.out.below (hbb.mono HRW.out.sz)); have hz2 := hbb.size; clear hbf hbb y_nm y_st y_sz m0 m1 m2 m3 m4 m5 ml
         obtain ⟨R, hR⟩ := ex' (sweepL m.text ⟨name, st, sz⟩)
         rw [hR] at hn2 hs2; rcases R with _ | l
         · obtain rfl := hn2 rfl; have HRR := hd' hR; clear hn2 hs2 hb2 hR; have z0 := HRW2.out.br.cell 0 rfl; have z1 := HRW2.out.br.cell 1 rfl; have z2 := HRW2.out.br.cell 2 rfl; have zf0 := HRW2.out.br.free 0; have zf1 := HRW2.out.br.free 1; have zf2 := HRW2.out.br.free 2; have zl := HRW2.out.br.lt; have HEQ : Hid (RE = 9) := hd' (by rw [← HN.out.2.2.2.2.2.2]; exact (recE_N HC.out HT20.out (rec_none1 (mG' HX.out) HRR.out)))
           go_wp2
           refine bodyPost_ret (v := .tuple #[.agg #[.slice none 0 0, .slice none 0 0, .slice none 0 0], .int .i64 9]) (by simp [results, Tryz.results35, go_sem, z0, z1, z2]) rfl (HPO.out _ _ (by rw [HEQ.out]) ?_ (by rw [HEQ.out]; first | exact hc0 | decide)); exact HRW2.out.bel.trans (gb_to_below (gb_setCell (gb_setCell (gb_setCell (gb_refl _ (some (w.heap.size + 1))) _ _) _ _) _ _) (by omega) (by have := HRW2.out.sz; omega))
         · obtain ⟨sA, sc, rfl, hrow⟩ := hs2 l rfl; have hl8 := (all_ok HC.out (Nat.le_trans HT20.out (by decide)) (mG' HX.out) hR).2; have hX3 : o + 3 < wr.heap.size := HRS.out.lt.1
           have hdn := own_done hrow (some (o + 3)) (fun g hg e => by
            have h1 := (World.ownsRow.lt hrow g hg).1; injection e with e; rw [← e] at h1; simp at h1
            omega)
           obtain ⟨sl, hsl⟩ := ex' l.length
           rw [hsl] at hl8 hdn ⊢; have HSL := hd' hsl; have HDN := hd' hdn; have HRR := hd' hR; have b_ := HR2.out.fin; unfold finC at b_; rw [HAL.out] at b_; simp only at b_; have y6 := b_.cell 6 rfl; have y6f := b_.free 6; have y6l := b_.lt; have har := HR2.out.arow; rw [HAL.out] at har; have HAR := hd' har
           have hNF40 : i ≤ 40 := by
            have := (check_fits HC.out).fl; rw [HN.out.2.1] at this; omega
           clear b_ har hdn hsl hR hrow hn2 hs2 hb2
           go_wp2_with (first | (at_builtin; refine app_one rfl _ _ 110 115 1 24 _ Tryz.underlying110 infoSps rfl (by decide) rfl (w.heap.size + 2) _ i _ rfl (World.ownsRow.alloc HAR.out _) w2.heap.size 1 rfl [.slice sA sl sc] 115 (0, 0) (heap_alloc_new w2 _) rfl (by simp [Value.oneCell']) (by omega) (by have := HRW2.out.sz; omega) (by simp; omega) (w2.heap.size + 1) (by simp) ?a3))
           case a3 =>
            intro g2 c2 w3 ho3 hg3 hat3 hlt3; have hal1 : Below w2.heap.size w2 (w2.alloc (.cells #[.slice sA sl sc] 115)) := (Below.refl _ _).alloc lr' _; have hx3 := (HR2.out.below hal1).fin.keepT hg3 (fun q e => own_typ (World.ownsRow.alloc HAR.out _) e) (by decide); have x6 := hx3.cell 6 rfl; have x6f := hx3.free 6; have x6l := hx3.lt; simp only [HAL.out] at x6; obtain ⟨W4, hW4⟩ := ex' (w3.setCell ⟨o + 3, 6, none⟩ (.slice (some ⟨g2, 0, none⟩) (i + 1) c2))
            have hs4 := (HR2.out.below hal1).app (l := l) (sA := sA) (sc := sc) (A' := some ⟨g2, 0, none⟩) (c' := c2) (w1 := w3) (by rw [HAL.out, HSL.out]; exact ho3) (by rw [HAL.out]; exact hg3) (by rw [HSL.out]; exact (HDN.out.below hal1).more hal1.size); rw [HAL.out, HSL.out, hW4] at hs4
            have hbw : Below (w.heap.size + 2) w2 W4 := by
             rw [← hW4]; refine ((hal1.mono HRW2.out.sz).trans (gb_below_of hg3 (fun q e => (World.ownsRow.lt HAR.out q e).1) (by have := HRW2.out.sz; simp; omega))).trans (gb_to_below (gb_setCell (gb_refl _ (some (o + 3))) _ _) (by omega) (by have := HRW2.out.sz; have := hg3.size; simp at this; omega))
            have HRW4 := hd' (HRW2.out.below hbw); obtain ⟨all2, hall2⟩ := ex' (all ++ [l])
            obtain ⟨vs2, hvs2⟩ := ex' (vs ++ [Value.slice sA sl sc])
            have HA2 : Hid (all2[i]? = some l) := hd' (by rw [← hall2, List.getElem?_append_right (by rw [HAL.out]; exact Nat.le_refl _), HAL.out, Nat.sub_self]; rfl)
            have HV2 : Hid (vs2[i]? = some (.slice sA sl sc)) := hd' (by
             have hvl : vs.length = i := by have := HAR.out.1; omega
             rw [← hvs2, List.getElem?_append_right (by rw [hvl]; exact Nat.le_refl _), hvl, Nat.sub_self]
             rfl)
            have HL2 : Hid (all2.length = i + 1) := hd' (by rw [← hall2, List.length_append, HAL.out]; rfl); have HSA2 : Hid (sweepAll m.text (m.funcs.take (i + 1)) = some all2) := hd' (by rw [← hall2]; exact sweepAll_take HSA.out HX.out HRR.out); have HOW : Hid (∀ j, l.length ≤ j → ownJ' all l j = ownA all2) := hd' (fun j h => by rw [← hall2]; exact ownJ'_all h); rw [hall2, hvs2] at hs4; have HS4 := hd' hs4; clear ho3 hg3 hat3 hx3 hs4 hbw hal1 hall2 hvs2 y6 y6f y6l
            go_upto_block 2 with fail
            clear hW4 x6 x6f x6l
            go_wp2_with fail
            go_loopg [68] sl (fun gk s68 wi => ∃ (j no' : Nat), j ≤ sl ∧ s68 = .int .i64 j ∧ no' ≤ 8000 * i + j ∧ Hid (RecS wi (w.heap.size + 2) (o + 3) m ⟨tA, tc, (some ⟨fb, fo, none⟩), fc, bA, bc, dA, dc, lA, lc⟩ (some ⟨g2, 0, none⟩) c2 all2 vs2 o no' (ownJ' all l j) (o + 1) 0 (fun _ => false) (o + 2)) ∧ Hid (RecW w wi [.slice tA T tc, .slice (some ⟨fb, fo, none⟩) NF fc, .slice bA NB bc, .slice dA ND dc, .slice lA NL lc, .int .i64 EN]) ∧ sl - j ≤ gk)
            case atStart => exact ⟨0, no, Nat.zero_le _, rfl, by omega, HS4, HRW4, Nat.le_refl _⟩
            case round =>
             obtain ⟨j, no', hj, rfl, hno2, HSi, HRWi, hgk2⟩ := hrel
             by_cases hjl : j < sl
             · have hx : l[j]? = some (l[j]'(by rw [HSL.out]; exact hjl)) := gE' _; obtain ⟨s, hse⟩ := ex' (l[j]'(by rw [HSL.out]; exact hjl))
               rw [hse] at hx; have hoj := ownJ'_succ (all := all) hx; rw [HAL.out] at hoj; have HOJ := hd' hoj; obtain ⟨A2, c3, hv2, hr2⟩ := HSi.out.rows i l HA2.out; rw [HSL.out, HV2.out] at hv2; injection hv2 with hv2; injection hv2 with e1 _ e3; subst e1 e3; obtain ⟨sb, so, hsa, hsb, hcs⟩ := hr2.1 (by intro e; have := spsV_at hx 0 _ rfl; rw [e] at this; simp at this); subst hsa; have hok := (all_ok HC.out (Nat.le_trans HT20.out (by decide)) (mG' HX.out) HRR.out).1 s (mG' hx); obtain ⟨p, z, ⟨ik, id, ia, ib, inn, il⟩⟩ := s; obtain ⟨⟨p1, p2⟩, -⟩ := hok
               simp only at p1 p2; have c0 := hcs _ _ (spsV_at hx 0 _ rfl); have c1 := hcs _ _ (spsV_at hx 1 _ rfl); have c2_ := hcs _ _ (spsV_at hx 2 _ rfl); have c3_ := hcs _ _ (spsV_at hx 3 _ rfl); have c4 := hcs _ _ (spsV_at hx 4 _ rfl); have c5 := hcs _ _ (spsV_at hx 5 _ rfl); have c6 := hcs _ _ (spsV_at hx 6 _ rfl); have c7 := hcs _ _ (spsV_at hx 7 _ rfl); simp only [Nat.add_zero, ← Nat.add_assoc] at c0 c1 c2_ c3_ c4 c5 c6 c7; have hjI : (j : Int) < (sl : Int) := by omega
               clear hse hcs hsb hr2 hx hoj
               go_upto_region 17 with fail
               obtain ⟨W5, hW5⟩ := ex' ((wr.alloc (.cells #[.int .i64 p, .int .i64 z, .int .i64 ik, .int .i64 id, .int .i64 ia, .int .i64 ib, .int .i64 inn, .bool il] 119)))
               rw [hW5]; have hb5 : Below wr.heap.size wr W5 := by rw [← hW5]; exact (Below.refl _ _).alloc lr' _
               have hsp5 : Blk W5 wr.heap.size 119 [.int .i64 p, .int .i64 z, .int .i64 ik, .int .i64 id, .int .i64 ia, .int .i64 ib, .int .i64 inn, .bool il] := by rw [← hW5]; exact Blk.new wr _ _
               have hs5 := HSi.out.below hb5; have HSd := hd' (hs5.below (Below.refl _ _).drew); have HRWd := hd' (HRWi.out.below ((hb5.mono HRWi.out.sz).trans (Below.refl _ _).drew)); have y_p := hsp5.cell 0 rfl; have y_o := hs5.fin.cell 7 rfl; have l5 := hsp5.lt; have lX5 := hs5.fin.lt; obtain ⟨W6, hup, hm6, hg6⟩ := (show MapI W5.drew o no' (ownJ' all l j) from HSd.out.own).update (k := p) (v := (i : Int)) (by omega) ⟨by omega, by omega⟩ ⟨by omega, by omega⟩; have HM6 := hd' hm6; have HG6 := hd' hg6; clear hW5 hb5 hsp5 hs5 c0 c1 c2_ c3_ c4 c5 c6 c7 hm6 hg6
               refine wp_region_W (fun w' => w'.cell? ⟨o + 3, 7, none⟩ = some (.map (some o)) ∧ w'.cell? ⟨wr.heap.size, 0, none⟩ = some (.int .i64 p)) 7 (by kernel_rfl) (by (try dsimp only); go_keep) (fun zH => ?_); refine wq 0 zH ?_; refine wq 1 zH ?_; refine wq 2 zH ?_; refine wq 3 zH ?_; refine wq 4 zH ?_; refine wq 5 zH ?_; refine wq 6 zH ?_
               refine wpW_last 7 rfl (by kernel_rfl) (by decide) (fun K hK => ?_)
               go_simp
               refine hK.out _ _ ?_; clear hK K; (try simp only [putE]); refine wpW_done (by kernel_rfl) ?_ _
               have HS6 : Hid (RecS W6 (w.heap.size + 2) (o + 3) m ⟨tA, tc, (some ⟨fb, fo, none⟩), fc, bA, bc, dA, dc, lA, lc⟩ (some ⟨g2, 0, none⟩) c2 all2 vs2 o (no' + 1) (ownJ' all l (j + 1)) (o + 1) 0 (fun _ => false) (o + 2)) := hd' (by
                rw [HOJ.out]
                exact HSd.out.upO HG6.out HM6.out)
               have HRW6 := hd' (HRWd.out.below (gb_to_below HG6.out ho2 HRWd.out.sz)); clear hup y_p y_o l5 lX5
               go_wp2
               go_roundg (sl - (j + 1))
               case measure => omega
               case rel => exact ⟨j + 1, no' + 1, by omega, by go_num, by omega, HS6, HRW6, Nat.le_refl _⟩
             · obtain rfl : j = sl := by omega
               have hjI : ¬ (j : Int) < (j : Int) := by omega
               have HS7 : Hid (RecS wr (w.heap.size + 2) (o + 3) m ⟨tA, tc, (some ⟨fb, fo, none⟩), fc, bA, bc, dA, dc, lA, lc⟩ (some ⟨g2, 0, none⟩) c2 all2 vs2 o no' (ownA all2) (o + 1) 0 (fun _ => false) (o + 2)) := hd' (by
                rw [← HOW.out j (by rw [HSL.out]; exact Nat.le_refl _)]
                exact HSi.out)
               clear hj hgk2 hjl
               go_wp2
               go_roundg (NF - (i + 1))
               case measure => omega
               case rel => exact ⟨i + 1, no', _, _, all2, vs2, by omega, by go_num, by omega, HL2, HS7, HSA2, HRWi, Nat.le_refl _⟩
       · obtain rfl : i = NF := by omega
         have hiI : ¬ (i : Int) < (i : Int) := by omega
         have HSA2 : Hid (sweepAll m.text m.funcs = some all) := hd' (by have h := HSA.out; rw [List.take_of_length_le (by rw [HN.out.2.1]; exact Nat.le_refl _)] at h; exact h)
         have hNF40 : no ≤ 400000 := by
          have := (check_fits HC.out).fl; rw [HN.out.2.1] at this; omega
         clear hi hgk hil
         go_wp2_with fail
         go_meet
         exact ⟨aA, ac, all, vs, no, HRS, HSA2, HRW, hNF40⟩
     case rest =>
      obtain ⟨aA, ac, all, vs, no, HRS, HSA, HRW, hno⟩ := hcut; have m0 := HRW.out.bm.cell 0 rfl; have m1 := HRW.out.bm.cell 1 rfl; have m2 := HRW.out.bm.cell 2 rfl; have m3 := HRW.out.bm.cell 3 rfl; have m4 := HRW.out.bm.cell 4 rfl; have m5 := HRW.out.bm.cell 5 rfl; have ml := HRW.out.bm.lt
      go_upto_block 4 with fail
      clear m0 m1 m2 m3 m4 m5 ml
      go_cut [] (fun wx => ∃ (nl : Nat) (ld : Int → Bool), Hid (RecS wx (w.heap.size + 2) (o + 3) m ⟨tA, tc, fA, fc, bA, bc, dA, dc, lA, lc⟩ aA ac all vs o no (ownA all) (o + 1) nl ld (o + 2)) ∧ Hid (tabsLd (ownA all) m.tables.flatten (fun _ => false) = some ld) ∧ Hid (RecW w wx [.slice tA T tc, .slice fA NF fc, .slice bA NB bc, .slice dA ND dc, .slice lA NL lc, .int .i64 EN]) ∧ nl ≤ 400)
      case first =>
       go_wp2_with fail
       go_loopg [84] NB (fun gk s84 wr => ∃ (i nl : Nat) (ld : Int → Bool), i ≤ NB ∧ s84 = .int .i64 i ∧ nl ≤ 20 * i ∧ Hid (RecS wr (w.heap.size + 2) (o + 3) m ⟨tA, tc, fA, fc, bA, bc, dA, dc, lA, lc⟩ aA ac all vs o no (ownA all) (o + 1) nl ld (o + 2)) ∧ Hid (tabsLd (ownA all) (m.tables.take i).flatten (fun _ => false) = some ld) ∧ Hid (RecW w wr [.slice tA T tc, .slice fA NF fc, .slice bA NB bc, .slice dA ND dc, .slice lA NL lc, .int .i64 EN]) ∧ NB - i ≤ gk)
       case atStart => exact ⟨0, 0, _, Nat.zero_le _, rfl, Nat.le_refl _, HRS, hd' rfl, HRW, Nat.le_refl _⟩
       case round =>
        obtain ⟨i, nl, ld, hi, rfl, hnl, HRSi, HTL, HRWi, hgk⟩ := hrel
        have hNBx : NB ≤ 20 := by
         have := (check_fits HC.out).bl; rw [HN.out.2.2.1] at this; exact this
        by_cases hil : i < NB
        · have hx : m.tables[i]? = some (m.tables[i]'(by rw [HN.out.2.2.1]; exact hil)) := gE' _; obtain ⟨t, hte⟩ := ex' (m.tables[i]'(by rw [HN.out.2.2.1]; exact hil))
          rw [hte] at hx; have hb20 := (check_fits HC.out).bb t (mG' hx); have HB64 : Hid (∀ x ∈ t, N64 x) := hd' (fun x h => HO.out.bb t (mG' hx) x h); have HX := hd' hx; obtain ⟨tvs, e1, e2, e3⟩ := HRSi.out.img.tables; obtain ⟨ta, tk, e4, e5, e6, e7, e8⟩ := e3 i t hx; obtain ⟨bb, bo, hba, hbb, y_t⟩ := e2.at e4; simp only at hba; subst hba; obtain ⟨tl, htl⟩ := ex' t.length
          rw [htl] at e5 e7 y_t hb20; have HTN := hd' htl; have HTR := hd' e8; have htl20 := hb20.1; have hiI : (i : Int) < (NB : Int) := by omega
          clear hx hte htl e1 e2 e3 e4 e6 e8 hbb hb20
          go_wp2_with fail
          go_loopg [90] tl (fun gk s90 wi => ∃ (j nl' : Nat) (ld' : Int → Bool), j ≤ tl ∧ s90 = .int .i64 j ∧ nl' ≤ 20 * i + j ∧ Hid (RecS wi (w.heap.size + 2) (o + 3) m ⟨tA, tc, fA, fc, (some ⟨bb, bo, none⟩), bc, dA, dc, lA, lc⟩ aA ac all vs o no (ownA all) (o + 1) nl' ld' (o + 2)) ∧ Hid (tabsLd (ownA all) ((m.tables.take i).flatten ++ t.take j) (fun _ => false) = some ld') ∧ Hid (RecW w wi [.slice tA T tc, .slice fA NF fc, .slice (some ⟨bb, bo, none⟩) NB bc, .slice dA ND dc, .slice lA NL lc, .int .i64 EN]) ∧ Hid (Below (w.heap.size + 2) wr wi) ∧ tl - j ≤ gk)
          case atStart => exact ⟨0, nl, ld, Nat.zero_le _, rfl, by omega, HRSi, hd' (by rw [List.take_zero, List.append_nil]; exact HTL.out), HRWi, hd' (Below.refl _ _), Nat.le_refl _⟩
          case round =>
           obtain ⟨j, nl', ld', hj, rfl, hnl2, HSi, HTj, HRWj, HBj, hgk2⟩ := hrel
           by_cases hjl : j < tl
           · have hx : t[j]? = some (t[j]'(by rw [HTN.out]; exact hjl)) := gE' _; obtain ⟨a, hae⟩ := ex' (t[j]'(by rw [HTN.out]; exact hjl))
             rw [hae] at hx; have h64 := HB64.out a (mG' hx); have HXA := hd' hx; have hjI : (j : Int) < (tl : Int) := by omega
             obtain ⟨tb, tbo, hta, -, y_a⟩ := (HTR.out.below HBj.out).at (intsV_at .i64 hx); subst hta; have hx5 := HSi.out.fin; have y_o := hx5.cell 7 rfl; have y_L := hx5.cell 8 rfl; have lX5 := hx5.lt; have hlk := HSi.out.own.look_ok h64; obtain ⟨W6, hup, hm6, hg6⟩ := (HSi.out.ldr).update (k := a) (by omega) h64 true; have HM6 := hd' hm6; have HG6 := hd' hg6; have HN64 := hd' h64; clear hx hae hx5 hm6 hg6 h64; rcases hoa : ownA all a with _ | q
             · rw [hoa] at hlk; simp only [Option.getD_none, Option.isSome_none] at hlk; have HOA := hd' hoa; clear hoa hup; have z0 := HRWj.out.br.cell 0 rfl; have z1 := HRWj.out.br.cell 1 rfl; have z2 := HRWj.out.br.cell 2 rfl; have zf0 := HRWj.out.br.free 0; have zf1 := HRWj.out.br.free 1; have zf2 := HRWj.out.br.free 2; have zl := HRWj.out.br.lt; have HEQ : Hid (RE = 9) := hd' (by rw [← HN.out.2.2.2.2.2.2]; exact (recE_N HC.out HT20.out (rec_none2 HSA.out (tab_split HX.out HXA.out) HTj.out HOA.out)))
               go_wp2
               refine bodyPost_ret (v := .tuple #[.agg #[.slice none 0 0, .slice none 0 0, .slice none 0 0], .int .i64 9]) (by simp [results, Tryz.results35, go_sem, z0, z1, z2]) rfl (HPO.out _ _ (by rw [HEQ.out]) ?_ (by rw [HEQ.out]; first | exact hc0 | decide)); exact HRWj.out.bel.trans (gb_to_below (gb_setCell (gb_setCell (gb_setCell (gb_refl _ (some (w.heap.size + 1))) _ _) _ _) _ _) (by omega) (by have := HRWj.out.sz; omega))
             · rw [hoa] at hlk; simp only [Option.getD_some, Option.isSome_some] at hlk
               have HT6 : Hid (tabsLd (ownA all) ((m.tables.take i).flatten ++ t.take (j + 1)) (fun _ => false) = some (upF ld' a true)) := hd' (by
                rw [List.take_add_one, HXA.out, ← List.append_assoc, tabsLd_app, HTj.out]; show (if (ownA all a).isSome = true then tabsLd (ownA all) [] (upF ld' a true) else none) = _; rw [hoa]
                rfl)
               clear hoa
               go_wp2_with fail
               have HS6 := hd' (HSi.out.upL HG6.out HM6.out); have hbj : Below (w.heap.size + 2) wr W6 := gb_to_below HG6.out (by omega) HRWj.out.sz; have HRW6 := hd' (HRWj.out.below hbj); have HB6 := hd' (HBj.out.trans hbj); clear hup hlk y_a y_o y_L lX5 hbj
               go_roundg (tl - (j + 1))
               case measure => omega
               case rel => exact ⟨j + 1, nl' + 1, _, by omega, by go_num, by omega, HS6, HT6, HRW6, HB6, Nat.le_refl _⟩
           · obtain rfl : j = tl := by omega
             have hjI : ¬ (j : Int) < (j : Int) := by omega
             have HT7 : Hid (tabsLd (ownA all) (m.tables.take (i + 1)).flatten (fun _ => false) = some ld') := hd' (by
              have h := HTj.out; rw [List.take_of_length_le (l := t) (by rw [HTN.out]; exact Nat.le_refl _)] at h; rw [tab_next HX.out]
              exact h)
             clear hj hgk2 hjl
             go_wp2
             go_roundg (NB - (i + 1))
             case measure => omega
             case rel => exact ⟨i + 1, nl', _, by omega, by go_num, by omega, HSi, HT7, HRWj, Nat.le_refl _⟩
        · obtain rfl : i = NB := by omega
          have hiI : ¬ (i : Int) < (i : Int) := by omega
          have HT2 : Hid (tabsLd (ownA all) m.tables.flatten (fun _ => false) = some ld) := hd' (by have h := HTL.out; rw [List.take_of_length_le (by rw [HN.out.2.2.1]; exact Nat.le_refl _)] at h; exact h)
          have hNB20 : nl ≤ 400 := by
           have := (check_fits HC.out).bl; rw [HN.out.2.2.1] at this; omega
          clear hi hgk hil
          go_wp2_with fail
          go_meet
          exact ⟨nl, ld, HRSi, HT2, HRWi, hNB20⟩
      case rest =>
       obtain ⟨nl, ld0, HRS3, HTF, HRW3, hnl⟩ := hcut; clear HRS HRW; have m0 := HRW3.out.bm.cell 0 rfl; have m1 := HRW3.out.bm.cell 1 rfl; have m2 := HRW3.out.bm.cell 2 rfl; have m3 := HRW3.out.bm.cell 3 rfl; have m4 := HRW3.out.bm.cell 4 rfl; have m5 := HRW3.out.bm.cell 5 rfl; have ml := HRW3.out.bm.lt
       go_upto_block 8 with fail
       clear m0 m1 m2 m3 m4 m5 ml
       go_cut [] (fun wx => ∃ (nl : Nat) (ld : Int → Bool), Hid (RecS wx (w.heap.size + 2) (o + 3) m ⟨tA, tc, fA, fc, bA, bc, dA, dc, lA, lc⟩ aA ac all vs o no (ownA all) (o + 1) nl ld (o + 2)) ∧ Hid (markAll m (ownA all) (m.funcs.zip all) 0 ld0 = some ld) ∧ Hid (RecW w wx [.slice tA T tc, .slice fA NF fc, .slice bA NB bc, .slice dA ND dc, .slice lA NL lc, .int .i64 EN]) ∧ nl ≤ 1000000)
       case first =>
        go_wp2_with fail
        go_loopg [116] NF (fun gk s116 wr => ∃ (i nl : Nat) (ld : Int → Bool), i ≤ NF ∧ s116 = .int .i64 i ∧ nl ≤ 400 + 16001 * i ∧ Hid (RecS wr (w.heap.size + 2) (o + 3) m ⟨tA, tc, fA, fc, bA, bc, dA, dc, lA, lc⟩ aA ac all vs o no (ownA all) (o + 1) nl ld (o + 2)) ∧ Hid (markAll m (ownA all) ((m.funcs.zip all).take i) 0 ld0 = some ld) ∧ Hid (RecW w wr [.slice tA T tc, .slice fA NF fc, .slice bA NB bc, .slice dA ND dc, .slice lA NL lc, .int .i64 EN]) ∧ NF - i ≤ gk)
        case atStart => exact ⟨0, nl, ld0, Nat.zero_le _, rfl, hnl, HRS3, hd' rfl, HRW3, Nat.le_refl _⟩
        case round =>
         obtain ⟨i, nl2, ld, hi, rfl, hnl2, HRSi, HMi, HRWi, hgk⟩ := hrel
         have hNF40 : NF ≤ 40 := by
          have := (check_fits HC.out).fl; rw [HN.out.2.1] at this; exact this
         by_cases hil : i < NF
         · have hx : m.funcs[i]? = some (m.funcs[i]'(by rw [HN.out.2.1]; exact hil)) := gE' _; obtain ⟨f, hfe⟩ := ex' (m.funcs[i]'(by rw [HN.out.2.1]; exact hil))
           rw [hfe] at hx; obtain ⟨sp, hsp, hswp⟩ := sweepAll_at HSA.out i f hx
           have hz : (m.funcs.zip all)[i]? = some (f, sp) := by
            rw [List.getElem?_zip_eq_some]; exact ⟨hx, hsp⟩
           obtain ⟨hok, hl8⟩ := all_ok HC.out (Nat.le_trans HT20.out (by decide)) (mG' hx) hswp; have hmk := fin_mark (v := ⟨tA, tc, fA, fc, bA, bc, dA, dc, lA, lc⟩) i nl2 f sp ld wr HRSi.out.rd HRSi.out.ldr (by omega) hx hsp HO.out (HO.out.fb f (mG' hx)).1 hok; obtain ⟨R, hR⟩ := ex' (markGo m (ownA all) i sp (upF ld f.start true))
           obtain ⟨nl3, hnl3⟩ := ex' (nl2 + 1 + 2 * sp.length)
           have hnl4 : nl3 ≤ 400 + 16001 * (i + 1) := by omega
           rw [hR, hnl3] at hmk; have HMK := hd' hmk; have HZ := hd' hz; have HRR := hd' hR; have hiI : (i : Int) < (NF : Int) := by omega
           clear hmk hz hR hnl3 hok hl8 hswp hsp hx hfe
           go_wp2_with fail
           refine HMK.out.mono ?_; rintro e w2 ⟨hg2, hn2, hs2⟩; have HRW2 := hd' (HRWi.out.below (gb_to_below hg2 (by omega) HRWi.out.sz)); rcases R with _ | ld2
           · obtain rfl := hn2 rfl; clear hn2 hs2 hg2; have z0 := HRW2.out.br.cell 0 rfl; have z1 := HRW2.out.br.cell 1 rfl; have z2 := HRW2.out.br.cell 2 rfl; have zf0 := HRW2.out.br.free 0; have zf1 := HRW2.out.br.free 1; have zf2 := HRW2.out.br.free 2; have zl := HRW2.out.br.lt; have HEQ : Hid (RE = 9) := hd' (by rw [← HN.out.2.2.2.2.2.2]; exact (recE_N HC.out HT20.out (rec_none3 HSA.out HTF.out (mark_none HZ.out HMi.out HRR.out))))
             go_wp2
             refine bodyPost_ret (v := .tuple #[.agg #[.slice none 0 0, .slice none 0 0, .slice none 0 0], .int .i64 9]) (by simp [results, Tryz.results35, go_sem, z0, z1, z2]) rfl (HPO.out _ _ (by rw [HEQ.out]) ?_ (by rw [HEQ.out]; first | exact hc0 | decide)); exact HRW2.out.bel.trans (gb_to_below (gb_setCell (gb_setCell (gb_setCell (gb_refl _ (some (w.heap.size + 1))) _ _) _ _) _ _) (by omega) (by have := HRW2.out.sz; omega))
           · obtain ⟨rfl, hm2⟩ := hs2 _ rfl; have HS2 := hd' (HRSi.out.upL hg2 hm2); have HM2 := hd' (mark_next HZ.out HMi.out HRR.out); clear hn2 hs2 hg2 hm2
             go_wp2
             go_roundg (NF - (i + 1))
             case measure => omega
             case rel => exact ⟨i + 1, nl3, _, by omega, by go_num, hnl4, HS2, HM2, HRW2, Nat.le_refl _⟩
         · obtain rfl : i = NF := by omega
           have hiI : ¬ (i : Int) < (i : Int) := by omega
           have HM2 : Hid (markAll m (ownA all) (m.funcs.zip all) 0 ld0 = some ld) := hd' (by
            have h := HMi.out; rw [List.take_of_length_le (by rw [List.length_zip, HN.out.2.1]; exact Nat.min_le_left _ _)] at h
            exact h)
           clear hi hgk hil
           go_wp2_with fail
           go_meet
           exact ⟨nl2, ld, HRSi, HM2, HRWi, by omega⟩
       case rest =>
        obtain ⟨nl4, ld, HRS4, HMA, HRW4, hnl4⟩ := hcut; clear HRS3 HRW3; obtain ⟨W4, hW4⟩ := ex' wc
        rw [hW4] at HRS4 HRW4 ⊢; clear hW4; have m0 := HRW4.out.bm.cell 0 rfl; have m1 := HRW4.out.bm.cell 1 rfl; have m2 := HRW4.out.bm.cell 2 rfl; have m3 := HRW4.out.bm.cell 3 rfl; have m4 := HRW4.out.bm.cell 4 rfl; have m5 := HRW4.out.bm.cell 5 rfl; have ml := HRW4.out.bm.lt; have HCT := hd' HRS4.out.cut; have HFX : Hid (Blk W4 (o + 3) 112 (finC m ⟨tA, tc, fA, fc, bA, bc, dA, dc, lA, lc⟩ aA all.length ac o (o + 1) (o + 2) [.slice none ([] : List (BlkD × BlkV)).length 0, .slice none 0 0, .slice none ([] : List Int).length 0])) := hd' HRS4.out.fin
        go_upto_block 10 with fail
        clear m0 m1 m2 m3 m4 m5 ml
        go_cut [] (fun wx => ∃ (H nk xc yc : Nat) (xA yA : Option Addr) (bm : Int → Option Int) (ds : List (BlkD × BlkV)) (fs : List Int), Hid (CutM W4 wx (w.heap.size + 2) W4.heap.size H (o + 3) m ⟨tA, tc, fA, fc, bA, bc, dA, dc, lA, lc⟩ aA ac all vs (o + 1) (o + 2) xA xc yA yc nl4 nk ld bm ds [] fs) ∧ Hid (Blk wx (o + 3) 112 (finC m ⟨tA, tc, fA, fc, bA, bc, dA, dc, lA, lc⟩ aA all.length ac o (o + 1) (o + 2) [.slice xA ds.length xc, .slice none 0 0, .slice yA fs.length yc])) ∧ Hid (cutAll m ld all 0 ⟨[], fun _ => none⟩ [] = (⟨ds.map Prod.fst, bm⟩, fs)) ∧ Hid (∀ x ∈ ds, BlkOk 320000 x.1) ∧ Hid (ds.length ≤ 320000))
        case first =>
         go_wp2_with fail
         go_loopg [130] NF (fun gk s130 wr => ∃ (i H nk xc yc : Nat) (xA yA : Option Addr) (bm : Int → Option Int) (ds : List (BlkD × BlkV)) (fs : List Int), i ≤ NF ∧ s130 = .int .i64 i ∧ nk ≤ 8000 * i ∧ Hid (CutM W4 wr (w.heap.size + 2) W4.heap.size H (o + 3) m ⟨tA, tc, fA, fc, bA, bc, dA, dc, lA, lc⟩ aA ac all vs (o + 1) (o + 2) xA xc yA yc nl4 nk ld bm ds [] fs) ∧ Hid (Blk wr (o + 3) 112 (finC m ⟨tA, tc, fA, fc, bA, bc, dA, dc, lA, lc⟩ aA all.length ac o (o + 1) (o + 2) [.slice xA ds.length xc, .slice none 0 0, .slice yA fs.length yc])) ∧ Hid (cutAll m ld (all.take i) 0 ⟨[], fun _ => none⟩ [] = (⟨ds.map Prod.fst, bm⟩, fs)) ∧ Hid (fs.length = i) ∧ Hid (∀ x ∈ ds, BlkOk (8000 * i) x.1) ∧ Hid (ds.length ≤ 8000 * i) ∧ NF - i ≤ gk)
         case atStart => exact ⟨0, W4.heap.size, 0, 0, 0, none, none, _, [], [], Nat.zero_le _, rfl, Nat.le_refl _, HCT, HFX, hd' rfl, hd' rfl, hd' (fun x hx => (by cases hx)), hd' lr', Nat.le_refl _⟩
         case round =>
          obtain ⟨i, H, nk, xc, yc, xA, yA, bm, ds, fs, hi, rfl, hnk, HCi, HXi, HCA, HFL, HBK, HDL, hgk⟩ := hrel
          have hNF40 : NF ≤ 40 := by
           have := (check_fits HC.out).fl; rw [HN.out.2.1] at this; exact this
          by_cases hil : i < NF
          · have hx : m.funcs[i]? = some (m.funcs[i]'(by rw [HN.out.2.1]; exact hil)) := gE' _; obtain ⟨f, hfe⟩ := ex' (m.funcs[i]'(by rw [HN.out.2.1]; exact hil))
            rw [hfe] at hx; obtain ⟨sp, hsp, hswp⟩ := sweepAll_at HSA.out i f hx
            have hz : (m.funcs.zip all)[i]? = some (f, sp) := by
             rw [List.getElem?_zip_eq_some]; exact ⟨hx, hsp⟩
            obtain ⟨hok, hl8⟩ := all_ok HC.out (Nat.le_trans HT20.out (by decide)) (mG' hx) hswp; have hld := markAll_first HMA.out _ (mG' hz); have hct := fin_cut (tV := .slice none 0 0) i wr HXi.out HCi.out (by rw [HFL.out]; omega) sp hsp HCi.out.rows.2.1.2.1 hok (by have := HDL.out; omega) hl8 (by omega) (fun s hs => by rw [sweep_first hswp hs]; exact hld) HO.out (by omega); have HCTC := hd' hct; have HSP := hd' hsp; have HOKS := hd' hok; have HL8 := hd' hl8; have hiI : (i : Int) < (NF : Int) := by omega
            clear hct hz hok hl8 hswp hsp hx hfe hld
            go_wp2_with fail
            refine HCTC.out.mono ?_; rintro e w2 ⟨rfl, bA2, bc2, fA2, fc2, H2, nk2, ds2, cur2, bm2, hx2, hc2, hf2, hcu2, hn2, hd2⟩; obtain ⟨dd, hdd⟩ := ex' (ds2 ++ cur2)
            have hcl := hc2.close hcu2; rw [hdd] at hcl hf2 hd2 hx2; have HC2 := hd' hcl
            have HX2 : Hid (Blk w2 (o + 3) 112 (finC m ⟨tA, tc, fA, fc, bA, bc, dA, dc, lA, lc⟩ aA all.length ac o (o + 1) (o + 2) [.slice bA2 dd.length bc2, .slice none 0 0, .slice fA2 (fs ++ [((ds.map Prod.fst).length : Int)]).length fc2])) := hd' (by
             rw [List.length_append]
             exact hx2)
            have HCA2 : Hid (cutAll m ld (all.take (i + 1)) 0 ⟨[], fun _ => none⟩ [] = (⟨dd.map Prod.fst, bm2⟩, fs ++ [((ds.map Prod.fst).length : Int)])) := hd' (by
             have hil2 : i < all.length := (List.getElem?_eq_some_iff.1 HSP.out).1; have htl : (all.take i).length = i := by rw [List.length_take, Nat.min_eq_left (by omega)]
             rw [List.take_add_one, HSP.out]; show cutAll m ld (all.take i ++ [sp]) 0 _ _ = _; rw [cutAll_snoc, HCA.out, htl, Int.zero_add]; simp only
             rw [hf2])
            have HFL2 : Hid ((fs ++ [((ds.map Prod.fst).length : Int)]).length = i + 1) := hd' (by rw [List.length_append, HFL.out]; rfl)
            have HBK2 : Hid (∀ x ∈ dd, BlkOk (8000 * (i + 1)) x.1) := hd' fun x hx => by
             have h := finCut_ok (m := m) (ld := ld) (f := (i : Int)) sp ⟨ds.map Prod.fst, bm⟩ (8000 * i) HOKS.out (fun b hb => by
              obtain ⟨y, hy, rfl⟩ := List.mem_map.1 hb
              exact HBK.out y hy)
             rw [hf2] at h; exact (h x.1 (List.mem_map.2 ⟨x, hx, rfl⟩)).more (by have := HL8.out; omega)
            have HDL2 : Hid (dd.length ≤ 8000 * (i + 1)) := hd' (by
             rw [List.length_map] at hd2; have := HL8.out; have := HDL.out
             omega)
            have hnk2 : nk2 ≤ 8000 * (i + 1) := by have := HL8.out; omega
            clear hdd hcl hx2 hc2 hf2 hcu2 hn2 hd2
            go_wp2
            go_roundg (NF - (i + 1))
            case measure => omega
            case rel => exact ⟨i + 1, _, nk2, _, _, _, _, bm2, dd, _, by omega, by go_num, hnk2, HC2, HX2, HCA2, HFL2, HBK2, HDL2, Nat.le_refl _⟩
          · obtain rfl : i = NF := by omega
            have hiI : ¬ (i : Int) < (i : Int) := by omega
            have hal : all.length = i := by rw [sweepAll_len HSA.out, HN.out.2.1]
            have HCA2 : Hid (cutAll m ld all 0 ⟨[], fun _ => none⟩ [] = (⟨ds.map Prod.fst, bm⟩, fs)) := hd' (by
             have h := HCA.out; rw [List.take_of_length_le (by rw [hal]; exact Nat.le_refl _)] at h
             exact h)
            have HB2 : Hid (∀ x ∈ ds, BlkOk 320000 x.1) := hd' fun x hx => (HBK.out x hx).more (by omega)
            have HD2 : Hid (ds.length ≤ 320000) := hd' (by have := HDL.out; omega); clear hi hgk hil hal
            go_wp2_with fail
            go_meet
            exact ⟨H, nk, xc, yc, xA, yA, bm, ds, fs, HCi, HXi, HCA2, HB2, HD2⟩
        case rest =>
         obtain ⟨H, nk, xc, yc, xA, yA, bm, ds, fs, HCi, HXi, HCA, HBK, HDL⟩ := hcut; have hjn := fin_join wc HXi.out HCi.out (fun x hx => (HBK.out x hx).more (by decide)) (by have := HDL.out; omega) HO.out ⟨(check_fits HC.out).bl, fun t ht => ((check_fits HC.out).bb t ht).1⟩; have HJN := hd' hjn; clear hjn
         go_wp2_with fail
         refine HJN.out.mono ?_; rintro e wj ⟨rfl, tA2, tc2, H2, ds2, hx2, hc2, hd2, ht2b⟩; have hrw := HRW4.out.below hc2.bel; have hflow := hc2.flow ht2b; obtain ⟨n1, hn1⟩ := ex' ds2.length
         obtain ⟨n3, hn3⟩ := ex' fs.length
         rw [hn1, hn3, HN.out.2.2.1] at hx2; have HRWJ := hd' hrw; have HFLW := hd' hflow; have HD2 := hd' hd2; have HN13 := hd' (And.intro hn1 hn3); have x10 := hx2.cell 10 rfl; have x11 := hx2.cell 11 rfl; have x12 := hx2.cell 12 rfl; have lX := hx2.lt; have z0 := hrw.br.cell 0 rfl; have z1 := hrw.br.cell 1 rfl; have z2 := hrw.br.cell 2 rfl; have zf0 := hrw.br.free 0; have zf1 := hrw.br.free 1; have zf2 := hrw.br.free 2; have zl := hrw.br.lt; have HTYF := hd' hrw.br.typ; have HREC0 := hd' (rec_some HSA.out HTF.out HMA.out); have hbr := hrw.br; have HBR := hd' hbr
         clear hrw hflow hd2 hn1 hn3 hx2 hc2 ht2b hbr
         go_wp2
         obtain ⟨VF, hVF⟩ := ex' (((wj.setCell ⟨w.heap.size + 1, 0, none⟩ (.slice xA n1 xc)).setCell ⟨w.heap.size + 1, 1, none⟩ (.slice tA2 NB tc2)).setCell ⟨w.heap.size + 1, 2, none⟩ (.slice yA n3 yc))
         rw [hVF]; have hgV : wj.grownBy VF (some (w.heap.size + 1)) := by rw [← hVF]; exact gb_setCell (gb_setCell (gb_setCell (gb_refl _ _) _ _) _ _) _ _
         have hbV : Blk VF (w.heap.size + 1) 33 [.slice xA n1 xc, .slice tA2 NB tc2, .slice yA n3 yc] := by rw [← hVF]; exact ((HBR.out.set 0 _).set 1 _).set 2 _
         have v0 := hbV.cell 0 rfl; have v1 := hbV.cell 1 rfl; have v2 := hbV.cell 2 rfl; refine bodyPost_ret (v := .tuple #[.agg #[.slice xA n1 xc, .slice tA2 NB tc2, .slice yA n3 yc], .int .i64 0]) (by simp [results, Tryz.results35, go_sem, v0, v1, v2]) rfl ?_; have hre : RE = 0 := by rw [← HN.out.2.2.2.2.2.2]; exact recE_S HC.out HT20.out HREC0.out
         refine HPG.out _ _ hre _ HREC0.out ⟨xA, xc, tA2, tc2, yA, yc, ?_, HRWJ.out.bel.trans (gb_to_below hgV (by omega) (by have := HRWJ.out.sz; omega)), ?_⟩
         · have e1 : (flowOf m all ld).blocks.length = n1 := by
            unfold flowOf; rw [HCA.out]; simp only; rw [← HD2.out, List.length_map]; exact HN13.out.1
           have e2 : (flowOf m all ld).tables.length = NB := by
            unfold flowOf; simp only; rw [List.length_map]; exact HN.out.2.2.1
           have e3 : (flowOf m all ld).firsts.length = n3 := by
            unfold flowOf; rw [HCA.out]; exact HN13.out.2
           rw [e1, e2, e3]
         · have e0 : flowOf m all ld = ⟨ds2.map Prod.fst, m.tables.map (tabJ bm), fs⟩ := by
            unfold flowOf; rw [HCA.out, HD2.out]
            rfl
           rw [e0]; exact HFLW.out.keepT hgV (fun g e => by injection e with e; subst e; exact HTYF.out) (by decide)
end Go.Proofs.YtcdlgjhdbmmomaaGreatDoor
