/- The given statement on EmitPairs, proved: each instruction that is there still is the same one, with its line. No condition of its own. -/
import Derived.Test.YtcafhoobeggmeaaDoorLawS
import Derived.Test.YtcafhoobeggmeaaDoorEmV
import Derived.Test.YtcafhoobeggmeaaDoorEmPr
import Derived.Deep.DeepCutAuto
import Derived.Deep.CutBlock
import Derived.Deep.LoopGhost
import Derived.Deep.QuietTactic
import Derived.BigQuiet
import Derived.IntWalk
import Derived.WalkLawsBesides
namespace Go.Proofs.YtcafhoobeggmeaaDoor
open Go.ChangeShapes Go.WideShapes Go.ChangeAt Go.RowKit Go.Joins
open Go.ChangeMaps (open_string)
set_option maxHeartbeats 8000000 in
set_option maxRecDepth 100000 in
theorem emitPairs_walk (l : List RawI) (A : Option Addr) (c : Nat) (Ls : List Int) (oA : Option Addr) (oc : Nat) (w : World) (hT : Tabs w) (hR : RdR w w.heap.size A l) (hl : l.length ≤ 140737488355328) (hc : l.length ≤ c) (hN : ∀ x ∈ Ls, N64 x) (hR2 : RdG w w.heap.size oA (intsV .i64 Ls)) (hl2 : Ls.length ≤ 140737488355328) (hc2 : Ls.length ≤ oc) :
 Calls Tryd.prog 4 #[.slice A l.length c, .slice oA Ls.length oc] w fun e w' => e = .returned (.bool true) ∧ Below w.heap.size w w' := by
 have HTL := hd' (emitTells_any w hT); have HFW : Hid (∀ W, Below w.heap.size w W → Calls Tryd.prog 14 #[.slice A l.length c] W (FlwPost W l)) := hd' fun W hW => flowed_any l A c W (hT.below hW) ((hR.below hW).more hW.size) hc hl
 have HT := hd' hT; have HR2 := hd' hR2; have HN := hd' hN; have HLC := hd' (And.intro hl2 hc2); obtain ⟨ll, hll⟩ := ex' l.length
 obtain ⟨lo, hlo⟩ := ex' Ls.length
 rw [hll] at HFW ⊢; rw [hlo]; have HLO := hd' hlo; clear hT hR hl hc hll hlo hN hR2 hl2 hc2
 go_enter Tryd.func4, Tryd.ntmps4
 go_wp2_with fail
 refine HTL.out.mono ?_; rintro e w0 ⟨rfl, hb0⟩; have HB0 := hd' hb0; clear hb0 HTL
 go_wp2_with fail
 refine (HFW.out _ HB0.out).mono ?_; rintro e w1 ⟨hb1, m, v, d, xA, yA, zA, xc, yc, zc, rfl, hst⟩; have hb1w : Below w.heap.size w w1 := (HB0.out.trans (hb1.mono HB0.out.size))
 have HB1 := hd' hb1w; have HST := hd' hst; have HTXT := hd' hst.pgm.text; obtain ⟨P, hP⟩ := ex' (shL d Ls)
 have ho := shL_good hst.sizes.2.2.2.2 Ls; rw [hP] at ho; obtain ⟨x, hx⟩ := ex' (emL m d P)
 have HPE := hd' hP; have HXE := hd' hx; have HO := hd' ho; obtain ⟨tA, tc, fA, fc, bA, bc, dA, dc, lA, lc⟩ := v; unfold Img.val flowV; simp only; obtain ⟨T, hTe⟩ := ex' m.text.length
 obtain ⟨NF, hNF⟩ := ex' m.funcs.length
 obtain ⟨nb, hnb⟩ := ex' m.tables.length
 obtain ⟨nd, hnd⟩ := ex' m.data.length
 obtain ⟨nl, hnl⟩ := ex' m.lines.length
 obtain ⟨NB, hNB⟩ := ex' d.blocks.length
 obtain ⟨nt, hnt⟩ := ex' d.tables.length
 obtain ⟨nz, hnz⟩ := ex' d.firsts.length
 obtain ⟨NP, hNP⟩ := ex' P.length
 have HSH : Hid (∀ W, Below w1.heap.size w1 W → Calls Tryd.prog 16 #[.agg #[.slice xA NB xc, .slice yA nt yc, .slice zA nz zc], .slice oA lo oc] W (ShfPost W d Ls)) := hd' fun W hW => by
  have h := shuf_st (hst.below hW) Ls oA oc ((HR2.out.below (hb1w.trans (hW.mono hb1w.size))).more (Nat.le_trans hb1w.size hW.size)) HLC.out.2 HLC.out.1 HN.out; unfold flowV at h; rw [hNB, hnt, hnz, HLO.out] at h; exact h
 have HEM : Hid (∀ W A c, Below w1.heap.size w1 W → PartsRd W A c P → Calls Tryd.prog 15 #[.agg #[.slice tA T tc, .slice fA NF fc, .slice bA nb bc, .slice dA nd dc, .slice lA nl lc, .int .i64 m.entry], .slice A NP c] W (EmPost W m d P)) := hd' fun W A c hW hq => by
  have h := emit_st (hst.below hW) (HT.out.below (hb1w.trans (hW.mono hb1w.size))) hq ho; unfold Img.val at h; simp only at h; rw [hTe, hNF, hnb, hnd, hnl, hNP] at h; exact h
 rw [hTe, hNF, hnb, hnd, hnl, hNB, hnt, hnz]; have HNP := hd' hNP; have HTE := hd' hTe; have HNF := hd' hNF; have HN5 := hd' (And.intro hnb (And.intro hnd hnl)); have HNB := hd' hNB; clear hTe hnl hnb hnd hNB hnt hnz hNF hNP hst hP hx ho hb1 hb1w; have hcode := emL_code HST.out.pgm.check HST.out.rc HO.out; have hby := hcode.bytes; have hfw := hcode.few; rw [HXE.out] at hby hfw; have HBY := hd' hby; have HFWX := hd' hfw; clear hcode hby hfw HFW HB0 HR2 HN HLC HLO
 go_upto_region 4 with fail
 obtain ⟨X, hX⟩ := ex' (w1.alloc (.cells #[.slice tA T tc, .slice fA NF fc, .slice bA nb bc, .slice dA nd dc, .slice lA nl lc, .int .i64 m.entry] 42))
 rw [hX]; have hm1 : Blk X w1.heap.size 42 [.slice tA T tc, .slice fA NF fc, .slice bA nb bc, .slice dA nd dc, .slice lA nl lc, .int .i64 m.entry] := by rw [← hX]; exact Blk.new w1 _ _
 have hbX : Below w1.heap.size w1 X := by rw [← hX]; exact (Below.refl _ _).alloc lr' _
 have hxs : X.heap.size = w1.heap.size + 1 := by rw [← hX]; simp
 obtain ⟨Y, hY⟩ := ex' (X.alloc (.cells #[.slice xA NB xc, .slice yA nt yc, .slice zA nz zc] 45))
 rw [hY]; have hfY : Blk Y (w1.heap.size + 1) 45 [.slice xA NB xc, .slice yA nt yc, .slice zA nz zc] := by rw [← hY, ← hxs]; exact Blk.new X _ _
 have hbY : Below X.heap.size X Y := by rw [← hY]; exact (Below.refl _ _).alloc lr' _
 have hmY := hm1.keep hbY; have hbWY := hbX.trans (hbY.mono hbX.size); obtain ⟨BX, hBX⟩ := ex' w1.heap.size
 have HWY := hd' hbWY; rw [hBX] at hfY hmY ⊢; have HMY := hd' hmY; have HFY := hd' hfY; have HSHY : Hid (∀ W, Below Y.heap.size Y W → _) := hd' fun W hW => HSH.out W (hbWY.trans (hW.mono hbWY.size))
 have HEMY : Hid (∀ W A c, Below Y.heap.size Y W → _) := hd' fun W A c hW => HEM.out W A c (hbWY.trans (hW.mono hbWY.size))
 have m0 := hmY.cell 0 rfl; have m1 := hmY.cell 1 rfl; have m2 := hmY.cell 2 rfl; have m3 := hmY.cell 3 rfl; have m4 := hmY.cell 4 rfl; have m5 := hmY.cell 5 rfl; have f0 := hfY.cell 0 rfl; have f1 := hfY.cell 1 rfl; have f2 := hfY.cell 2 rfl; clear hX hY hm1 hbX hbY hmY hbWY hxs hBX hfY HSH HEM
 go_cut [8, 9, 10] (fun s8 s9 s10 wx => ∃ (z : Nat) (v2 : ImgV) (eA : Option Addr) (en ec : Nat) (ps : List (Int × Int)), s8 = .pointer (some ⟨z, 0, none⟩) ∧ s9 = .slice eA en ec ∧ s10 = .int .i64 0 ∧ Hid (EmVar Y wx z x (emIts d P) v2 eA en ec ps))
 case first =>
  as_aux_lemma =>
   refine wp_region_W (fun w' => w'.cell? ⟨BX, 0, none⟩ = some (.slice tA T tc) ∧ w'.cell? ⟨BX, 1, none⟩ = some (.slice fA NF fc) ∧ w'.cell? ⟨BX, 2, none⟩ = some (.slice bA nb bc) ∧ w'.cell? ⟨BX, 3, none⟩ = some (.slice dA nd dc) ∧ w'.cell? ⟨BX, 4, none⟩ = some (.slice lA nl lc) ∧ w'.cell? ⟨BX, 5, none⟩ = some (.int .i64 m.entry) ∧ w'.cell? ⟨BX + 1, 0, none⟩ = some (.slice xA NB xc) ∧ w'.cell? ⟨BX + 1, 1, none⟩ = some (.slice yA nt yc) ∧ w'.cell? ⟨BX + 1, 2, none⟩ = some (.slice zA nz zc)) 13 (by kernel_rfl) (by (try dsimp only); go_keep) (fun zH => ?_)
   have hbD : Below Y.heap.size Y Y.drew := (Below.refl _ _).drew; refine wq 0 zH ?_; refine wq 1 zH ?_; refine wq 2 zH ?_; refine wpW_all [3, 9] (by kernel_rfl) (by simp) ?_; refine AllW.cons (i := 3) rfl (fun K hK => ?_) ?_
   · skip
     go_simp
     refine (HSHY.out Y.drew hbD).mono ?_; rintro e w3 ⟨hb3, pA, pc, lv, rfl, hlv, hpr, hpb⟩; rw [HPE.out] at hlv; have hpt := shf_parts hlv hpr hpb; rw [show lv.length = NP by rw [← HNP.out, ← hlv, List.length_map]]; clear hpr hpb hlv; have hbX3 : Below Y.heap.size Y w3 := hbD.trans (hb3.mono hbD.size); obtain ⟨y3_0, y3_1, y3_2, y3_3, y3_4, y3_5, y3_6, y3_7, y3_8⟩ := mf_keep hbX3 HMY.out HFY.out; refine hK.out _ _ (by (try dsimp only); go_keep) (fun zH => ?_); clear hK K; (try simp only [putE]); refine wpW_all [4, 9] (by kernel_rfl) (by simp) ?_
     refine AllW.cons (i := 4) rfl (fun K hK => ?_) ?_
     · skip
       go_simp
       have hpe := hpt; refine (HEMY.out w3 pA pc hbX3 hpe).mono ?_; rintro e w4 ⟨hb4, ⟨tA2, tc2, fA2, fc2, bA2, bc2, dA2, dc2, lA2, lc2⟩, eA, en, ec, ps, rfl, hown, hpl, hprs, hpk⟩; rw [HXE.out] at hown ⊢; unfold Img.val; simp only; have hbX4 : Below Y.heap.size Y w4 := hbX3.trans (hb4.mono hbX3.size); obtain ⟨y4_0, y4_1, y4_2, y4_3, y4_4, y4_5, y4_6, y4_7, y4_8⟩ := mf_keep hbX4 HMY.out HFY.out; refine hK.out _ _ (by (try dsimp only); go_keep) (fun zH => ?_); clear hK K; (try simp only [putE]); refine wq 5 zH ?_; refine wq 6 zH ?_
       refine wq 7 zH ?_; refine wq 8 zH ?_; refine wpW_one 9 rfl (by kernel_rfl) (fun K hK => ?_)
       go_simp
       have zb0 : Blk (w4.alloc (.cells #[.slice none 0 0, .slice none 0 0, .slice none 0 0, .slice none 0 0, .slice none 0 0, .int .i64 0] 42)) (w4.heap.size) 42 [.slice none 0 0, .slice none 0 0, .slice none 0 0, .slice none 0 0, .slice none 0 0, .int .i64 0] := Blk.new w4 _ _; have hbA : Below Y.heap.size Y (w4.alloc (.cells #[.slice none 0 0, .slice none 0 0, .slice none 0 0, .slice none 0 0, .slice none 0 0, .int .i64 0] 42)) := hbX4.alloc (hbX4.size) _; have hneA0 : ¬ w4.heap.size = BX := by have h1 := hbX4.size; have h2 := HMY.out.lt; omega
       have hneA1 : ¬ w4.heap.size = BX + 1 := by have h1 := hbX4.size; have h2 := HFY.out.lt; omega
       refine hK.out _ _ (by (try dsimp only); go_keep) (fun zH => ?_); clear hK K; (try simp only [putE]); refine wpW_one 10 rfl (by kernel_rfl) (fun K hK => ?_)
       go_simp
       refine hK.out _ _ (by (try dsimp only); go_keep) (fun zH => ?_); clear hK K; (try simp only [putE]); refine wq 11 zH ?_; refine wq 12 zH ?_; refine wpW_done (by kernel_rfl) ?_ _; have hev := emVar_new (v := ⟨tA2, tc2, fA2, fc2, bA2, bc2, dA2, dc2, lA2, lc2⟩) hbX4 hown hpl hprs hpk
       dsimp only at hev
       go_wp2
       go_meet
       exact ⟨_, ⟨tA2, tc2, fA2, fc2, bA2, bc2, dA2, dc2, lA2, lc2⟩, eA, en, ec, ps, rfl, rfl, rfl, hd' hev⟩
     refine AllW.cons (i := 9) rfl (fun K hK => ?_) AllW.nil
     go_simp
     have zb0 : Blk (w3.alloc (.cells #[.slice none 0 0, .slice none 0 0, .slice none 0 0, .slice none 0 0, .slice none 0 0, .int .i64 0] 42)) (w3.heap.size) 42 [.slice none 0 0, .slice none 0 0, .slice none 0 0, .slice none 0 0, .slice none 0 0, .int .i64 0] := Blk.new w3 _ _; have hbA : Below Y.heap.size Y (w3.alloc (.cells #[.slice none 0 0, .slice none 0 0, .slice none 0 0, .slice none 0 0, .slice none 0 0, .int .i64 0] 42)) := hbX3.alloc (hbX3.size) _; have hneA0 : ¬ w3.heap.size = BX := by have h1 := hbX3.size; have h2 := HMY.out.lt; omega
     have hneA1 : ¬ w3.heap.size = BX + 1 := by have h1 := hbX3.size; have h2 := HFY.out.lt; omega
     refine hK.out _ _ (by (try dsimp only); go_keep) (fun zH => ?_); clear hK K; (try simp only [putE]); refine wpW_one 4 rfl (by kernel_rfl) (fun K hK => ?_)
     go_simp
     have hpe : PartsRd (w3.alloc (.cells #[.slice none 0 0, .slice none 0 0, .slice none 0 0, .slice none 0 0, .slice none 0 0, .int .i64 0] 42)) pA pc P := hpt.below ((Below.refl w3.heap.size w3).alloc lr' _); refine (HEMY.out (w3.alloc (.cells #[.slice none 0 0, .slice none 0 0, .slice none 0 0, .slice none 0 0, .slice none 0 0, .int .i64 0] 42)) pA pc hbA hpe).mono ?_; rintro e w4 ⟨hb4, ⟨tA2, tc2, fA2, fc2, bA2, bc2, dA2, dc2, lA2, lc2⟩, eA, en, ec, ps, rfl, hown, hpl, hprs, hpk⟩; rw [HXE.out] at hown ⊢; unfold Img.val; simp only
     have hbX4 : Below Y.heap.size Y w4 := hbA.trans (hb4.mono hbA.size); obtain ⟨y4_0, y4_1, y4_2, y4_3, y4_4, y4_5, y4_6, y4_7, y4_8⟩ := mf_keep hbX4 HMY.out HFY.out; have zb5 := zb0.keep hb4; have zc4_0 := zb5.cell 0 rfl; have zf4_0 := zb5.free 0; have zc4_1 := zb5.cell 1 rfl; have zf4_1 := zb5.free 1; have zc4_2 := zb5.cell 2 rfl; have zf4_2 := zb5.free 2; have zc4_3 := zb5.cell 3 rfl; have zf4_3 := zb5.free 3; have zc4_4 := zb5.cell 4 rfl; have zf4_4 := zb5.free 4; have zc4_5 := zb5.cell 5 rfl; have zf4_5 := zb5.free 5; have zl4 := zb5.lt
     refine hK.out _ _ (by (try dsimp only); go_keep) (fun zH => ?_); clear hK K; (try simp only [putE]); refine wq 5 zH ?_; refine wq 6 zH ?_; refine wq 7 zH ?_; refine wq 8 zH ?_; refine wpW_one 10 rfl (by kernel_rfl) (fun K hK => ?_)
     go_simp
     refine hK.out _ _ (by (try dsimp only); go_keep) (fun zH => ?_); clear hK K; (try simp only [putE]); refine wq 11 zH ?_; refine wq 12 zH ?_; refine wpW_done (by kernel_rfl) ?_ _; have hev := emVar_old (v := ⟨tA2, tc2, fA2, fc2, bA2, bc2, dA2, dc2, lA2, lc2⟩) zb5 hbX4 hbX3.size zb0.lt hown hpl hprs hpk
     dsimp only at hev
     go_wp2
     go_meet
     exact ⟨_, ⟨tA2, tc2, fA2, fc2, bA2, bc2, dA2, dc2, lA2, lc2⟩, eA, en, ec, ps, rfl, rfl, rfl, hd' hev⟩
   refine AllW.cons (i := 9) rfl (fun K hK => ?_) AllW.nil
   go_simp
   have zb0 : Blk (Y.alloc (.cells #[.slice none 0 0, .slice none 0 0, .slice none 0 0, .slice none 0 0, .slice none 0 0, .int .i64 0] 42)).drew (Y.heap.size) 42 [.slice none 0 0, .slice none 0 0, .slice none 0 0, .slice none 0 0, .slice none 0 0, .int .i64 0] := Blk.drew (Blk.new Y _ _); have hbA : Below Y.heap.size Y (Y.alloc (.cells #[.slice none 0 0, .slice none 0 0, .slice none 0 0, .slice none 0 0, .slice none 0 0, .int .i64 0] 42)).drew := ((Below.refl _ _).alloc lr' _).drew
   have hneA0 : ¬ Y.heap.size = BX := by have h1 := hbD.size; have h2 := HMY.out.lt; omega
   have hneA1 : ¬ Y.heap.size = BX + 1 := by have h1 := hbD.size; have h2 := HFY.out.lt; omega
   refine hK.out _ _ (by (try dsimp only); go_keep) (fun zH => ?_); clear hK K; (try simp only [putE]); refine wpW_one 3 rfl (by kernel_rfl) (fun K hK => ?_)
   go_simp
   refine (HSHY.out (Y.alloc (.cells #[.slice none 0 0, .slice none 0 0, .slice none 0 0, .slice none 0 0, .slice none 0 0, .int .i64 0] 42)).drew hbA).mono ?_; rintro e w3 ⟨hb3, pA, pc, lv, rfl, hlv, hpr, hpb⟩; rw [HPE.out] at hlv; have hpt := shf_parts hlv hpr hpb; rw [show lv.length = NP by rw [← HNP.out, ← hlv, List.length_map]]; clear hpr hpb hlv; have hbX3 : Below Y.heap.size Y w3 := hbA.trans (hb3.mono hbA.size); obtain ⟨y3_0, y3_1, y3_2, y3_3, y3_4, y3_5, y3_6, y3_7, y3_8⟩ := mf_keep hbX3 HMY.out HFY.out; have zb4 := zb0.keep hb3; have zc3_0 := zb4.cell 0 rfl
   have zf3_0 := zb4.free 0; have zc3_1 := zb4.cell 1 rfl; have zf3_1 := zb4.free 1; have zc3_2 := zb4.cell 2 rfl; have zf3_2 := zb4.free 2; have zc3_3 := zb4.cell 3 rfl; have zf3_3 := zb4.free 3; have zc3_4 := zb4.cell 4 rfl; have zf3_4 := zb4.free 4; have zc3_5 := zb4.cell 5 rfl; have zf3_5 := zb4.free 5; have zl3 := zb4.lt; refine hK.out _ _ (by (try dsimp only); go_keep) (fun zH => ?_); clear hK K; (try simp only [putE]); refine wpW_one 4 rfl (by kernel_rfl) (fun K hK => ?_)
   go_simp
   have hpe := hpt; refine (HEMY.out w3 pA pc hbX3 hpe).mono ?_; rintro e w4 ⟨hb4, ⟨tA2, tc2, fA2, fc2, bA2, bc2, dA2, dc2, lA2, lc2⟩, eA, en, ec, ps, rfl, hown, hpl, hprs, hpk⟩; rw [HXE.out] at hown ⊢; unfold Img.val; simp only; have hbX4 : Below Y.heap.size Y w4 := hbX3.trans (hb4.mono hbX3.size); obtain ⟨y4_0, y4_1, y4_2, y4_3, y4_4, y4_5, y4_6, y4_7, y4_8⟩ := mf_keep hbX4 HMY.out HFY.out; have zb5 := zb4.keep hb4; have zc4_0 := zb5.cell 0 rfl; have zf4_0 := zb5.free 0; have zc4_1 := zb5.cell 1 rfl; have zf4_1 := zb5.free 1; have zc4_2 := zb5.cell 2 rfl; have zf4_2 := zb5.free 2
   have zc4_3 := zb5.cell 3 rfl; have zf4_3 := zb5.free 3; have zc4_4 := zb5.cell 4 rfl; have zf4_4 := zb5.free 4; have zc4_5 := zb5.cell 5 rfl; have zf4_5 := zb5.free 5; have zl4 := zb5.lt; refine hK.out _ _ (by (try dsimp only); go_keep) (fun zH => ?_); clear hK K; (try simp only [putE]); refine wq 5 zH ?_; refine wq 6 zH ?_; refine wq 7 zH ?_; refine wq 8 zH ?_; refine wpW_one 10 rfl (by kernel_rfl) (fun K hK => ?_)
   go_simp
   refine hK.out _ _ (by (try dsimp only); go_keep) (fun zH => ?_); clear hK K; (try simp only [putE]); refine wq 11 zH ?_; refine wq 12 zH ?_; refine wpW_done (by kernel_rfl) ?_ _; have hev := emVar_old (v := ⟨tA2, tc2, fA2, fc2, bA2, bc2, dA2, dc2, lA2, lc2⟩) zb5 hbX4 lr' zb4.lt hown hpl hprs hpk
   dsimp only at hev
   go_wp2
   go_meet
   exact ⟨_, ⟨tA2, tc2, fA2, fc2, bA2, bc2, dA2, dc2, lA2, lc2⟩, eA, en, ec, ps, rfl, rfl, rfl, hd' hev⟩
 case rest =>
  obtain ⟨z, v2, eA, en, ec, ps, rfl, rfl, rfl, HEV⟩ := hcut; obtain ⟨tA2, tc2, fA2, fc2, bA2, bc2, dA2, dc2, lA2, lc2⟩ := v2
  rename World => wx
  have hprs := emL_prs HST.out.pgm.check HST.out.rc HO.out HEV.out.pok; rw [HXE.out] at hprs; have HPR := hd' hprs; clear m0 m1 m2 m3 m4 m5 f0 f1 f2 HSHY HEMY hprs; obtain ⟨T2, hT2⟩ := ex' x.text.length
  obtain ⟨nf2, hnf2⟩ := ex' x.funcs.length
  obtain ⟨nb2, hnb2⟩ := ex' x.tables.length
  obtain ⟨nd2, hnd2⟩ := ex' x.data.length
  obtain ⟨nl2, hnl2⟩ := ex' x.lines.length
  have HT2 := hd' hT2; have HBW : Hid (∀ W, Below wx.heap.size wx W → Below w1.heap.size w1 W) := hd' fun W hW => (HWY.out.trans (HEV.out.bel.mono HWY.out.size)).trans (hW.mono (Nat.le_trans HWY.out.size HEV.out.bel.size))
  have HTB : Hid (∀ W, Below wx.heap.size wx W → Tabs W) := hd' fun W hW => HT.out.below (HB1.out.trans ((HBW.out W hW).mono HB1.out.size))
  have HX0 : Hid (Blk wx z 42 [.slice tA2 T2 tc2, .slice fA2 nf2 fc2, .slice bA2 nb2 bc2, .slice dA2 nd2 dc2, .slice lA2 nl2 lc2, .int .i64 x.entry]) := hd' (by
   have h := HEV.out.blk; simp only [hT2, hnf2, hnb2, hnd2, hnl2] at h
   exact h)
  have HMX := hd' (HMY.out.keep HEV.out.bel); have HFX := hd' (HFY.out.keep HEV.out.bel)
  have HD1 : Hid (∀ (p : Int × Int) (i : Ins) (s : Int) W, decB m.text p.1 = (i, s, 0) → Below wx.heap.size wx W → Calls Tryd.prog 17 #[.slice tA T tc, .int .i64 p.1] W fun e w' => e = .returned (.tuple #[.agg #[.int .i64 i.k, .int .i64 i.d, .int .i64 i.a, .int .i64 i.b, .int .i64 i.n, .bool i.l], .int .i64 s, .int .i64 0]) ∧ Below W.heap.size W w') := hd' fun p i s W hp hW => by
   have hs := HST.out.below (HBW.out W hW); have hdc := decode_any m.text tA T tc p.1 W (HTB.out W hW) HTE.out.symm (rdg_bytes hs.img.text hs.ok.tb) (by have h1 := HTXT.out; have h2 := HTE.out; omega) (by rw [← HTE.out]; exact hs.ok.tc); rw [hp] at hdc; exact hdc
  have HD2 : Hid (∀ (p : Int × Int) (i : Ins) (s : Int) W, decB x.text p.2 = (i, s, 0) → Below wx.heap.size wx W → Calls Tryd.prog 17 #[.slice tA2 T2 tc2, .int .i64 p.2] W fun e w' => e = .returned (.tuple #[.agg #[.int .i64 i.k, .int .i64 i.d, .int .i64 i.a, .int .i64 i.b, .int .i64 i.n, .bool i.l], .int .i64 s, .int .i64 0]) ∧ Below W.heap.size W w') := hd' fun p i s W hp hW => by
   have hdc := decode_any x.text tA2 T2 tc2 p.2 W (HTB.out W hW) hT2.symm (rdg_bytes ((HEV.out.img.text.below hW).more hW.size) HBY.out) (by have h1 := HTXT.out; have h2 := HFWX.out; omega) (by have h := HEV.out.cap; rw [hT2] at h; exact h); rw [hp] at hdc; exact hdc
  have HL1 : Hid (∀ (a R : Int) W, lineAtF a 0 m.lines = R → Below wx.heap.size wx W → Calls Tryd.prog 18 #[.agg #[.slice tA T tc, .slice fA NF fc, .slice bA nb bc, .slice dA nd dc, .slice lA nl lc, .int .i64 m.entry], .int .i64 a] W fun e w' => e = .returned (.int .i64 R) ∧ Below W.heap.size W w') := hd' fun a R W hR hW => by
   have hs := HST.out.below (HBW.out W hW); have h := lineAt_ll m ⟨tA, tc, fA, fc, bA, bc, dA, dc, lA, lc⟩ a W hs.img hs.ok.ll; unfold Img.val at h; simp only [HTE.out, HNF.out, HN5.out.1, HN5.out.2.1, HN5.out.2.2] at h; rw [hR] at h; exact h
  have HL2 : Hid (∀ (a R : Int) W, lineAtF a 0 x.lines = R → Below wx.heap.size wx W → Calls Tryd.prog 18 #[.agg #[.slice tA2 T2 tc2, .slice fA2 nf2 fc2, .slice bA2 nb2 bc2, .slice dA2 nd2 dc2, .slice lA2 nl2 lc2, .int .i64 x.entry], .int .i64 a] W fun e w' => e = .returned (.int .i64 R) ∧ Below W.heap.size W w') := hd' fun a R W hR hW => by
   have h := lineAt_ll x ⟨tA2, tc2, fA2, fc2, bA2, bc2, dA2, dc2, lA2, lc2⟩ a W ((HEV.out.img.below hW).more hW.size) (by have h1 := HTXT.out; have h2 := HPR.out.few; omega); unfold Img.val at h; simp only [hT2, hnf2, hnb2, hnd2, hnl2] at h; rw [hR] at h; exact h
  have HEN := hd' HEV.out.len; obtain ⟨NJ, hNJ⟩ := ex' ((d.blocks.map jmpB).sum)
  obtain ⟨NC, hNC⟩ := ex' ((d.blocks.map fun b => b.ats.length).sum)
  have hcnt := HPR.out.cnt; rw [hNJ, hNC, HEN.out.1] at hcnt; have HCN := hd' (And.intro hNJ (And.intro hNC hcnt)); have hNB : NB ≤ 1600 := by have h := HST.out.sizes; have h2 := HNB.out; omega
  have hE64 : en ≤ 3000000 ∧ NC ≤ 3000000 ∧ NJ ≤ 1600 := by
   have h1 := HST.out.sizes.1; have h2 := sum_bd (fun b : BlkD => b.ats.length) 1600 d.blocks (blk_len HST.out); have h3 := sum_bd jmpB 1 d.blocks (fun b _ => jmpB_le b); have h4 := hcnt.2; omega
  clear hT2 hnf2 hnb2 hnd2 hnl2 hNJ hNC hcnt; have HBS : Hid (Below wx.heap.size wx wx) := hd' (Below.refl _ _); have u0 := HFX.out.cell 0 rfl; have ul := HFX.out.lt
  go_wp2_with fail
  go_loopg [11, 52] NB (fun gk s1 s2 wr => ∃ (i c : Nat), i ≤ NB ∧ s1 = .int .i64 c ∧ s2 = .int .i64 i ∧ Hid (((d.blocks.take i).map (fun b => b.ats.length)).sum = c) ∧ c ≤ 1600 * i ∧ Hid (Below wx.heap.size wx wr) ∧ NB - i ≤ gk)
  case atStart => exact ⟨0, 0, Nat.zero_le _, rfl, rfl, hd' rfl, Nat.zero_le _, HBS, Nat.le_refl _⟩
  case round =>
   obtain ⟨i, cn, hi, rfl, rfl, HC, hcb, HB, hgk⟩ := hrel; have hfk := HFX.out.keep HB.out
   by_cases hlt : i < NB
   · have hltI : (i : Int) < (NB : Int) := by omega
     have hbi : d.blocks[i]? = some (d.blocks[i]'(by have := HNB.out; omega)) := gE' _; obtain ⟨b, hbe⟩ := ex' (d.blocks[i]'(by have := HNB.out; omega))
     rw [hbe] at hbi; have hst2 := sum_step (fun b => b.ats.length) hbi; rw [HC.out] at hst2; have hbl := blk_len HST.out b (mG' hbi); obtain ⟨v, g, o, hxA, hgl, -, hcs⟩ := (HST.out.below (HBW.out wr HB.out)).flow.at hbi; obtain ⟨bf, bst, bco, bat, ⟨lk, lld, la, lb, ln, llb⟩, ben, bds, bel, bli⟩ := b; obtain ⟨cA, cc, aA, ac, liA, lic⟩ := v; have c0 := hcs 0 _ rfl; have c1 := hcs 1 _ rfl; have c2 := hcs 2 _ rfl; have c3 := hcs 3 _ rfl; have c4 := hcs 4 _ rfl; have c5 := hcs 5 _ rfl; have c6 := hcs 6 _ rfl; have c7 := hcs 7 _ rfl; have c8 := hcs 8 _ rfl; have c9 := hcs 9 _ rfl
     have c10 := hcs 10 _ rfl; have c11 := hcs 11 _ rfl; have c12 := hcs 12 _ rfl; have c13 := hcs 13 _ rfl; simp only [Nat.add_zero] at c0 c1 c2 c3 c4 c5 c6 c7 c8 c9 c10 c11 c12 c13
     have hxcap : NB ≤ xc := by
      obtain ⟨l0, e1, e2, -⟩ := HST.out.flow; rw [← HNB.out]; exact e2.2.1
     simp only at hst2 hbl; obtain ⟨NA, hNA⟩ := ex' bat.length
     rw [hNA] at c3 hbl
     try rw [hNA] at hst2
     subst hxA; clear hbe hbi hcs hNA HC
     go_upto_region 11 with fail
     obtain ⟨Z, hZ⟩ := ex' (wr.alloc (.cells #[.int .i64 bf, .int .i64 bst, .slice cA bco.length cc, .slice aA NA ac, .int .i64 lk, .int .i64 lld, .int .i64 la, .int .i64 lb, .int .i64 ln, .bool llb, .int .i64 ben, .int .i64 bds, .int .i64 bel, .slice liA bli.length lic] 57))
     rw [hZ]; have htZ : Blk Z wr.heap.size 57 [.int .i64 bf, .int .i64 bst, .slice cA bco.length cc, .slice aA NA ac, .int .i64 lk, .int .i64 lld, .int .i64 la, .int .i64 lb, .int .i64 ln, .bool llb, .int .i64 ben, .int .i64 bds, .int .i64 bel, .slice liA bli.length lic] := by rw [← hZ]; exact Blk.new wr _ _
     have HBZ : Hid (Below wx.heap.size wx Z) := hd' (by rw [← hZ]; exact HB.out.alloc HB.out.size _); have t3 := htZ.cell 3 rfl; have t10 := htZ.cell 10 rfl; have tl := htZ.lt; clear hZ htZ c0 c1 c2 c3 c4 c5 c6 c7 c8 c9 c10 c11 c12 c13 hfk; obtain ⟨c2, hc2⟩ := ex' (cn + NA)
     have qc : IntKind.i64.wrap ((cn : Int) + (NA : Int)) = (c2 : Int) := by rw [IntWalk.i64_in _ (by omega)]; omega
     have hc2b : c2 ≤ 1600 * (i + 1) := by omega
     have HS2 := hd' (hst2.trans hc2); clear hst2 hc2 hcb hbl
     go_wp2_with fail
     go_roundg (NB - (i + 1))
     case measure => omega
     case rel => exact ⟨i + 1, c2, by omega, rfl, (by go_num), HS2, hc2b, HBZ, Nat.le_refl _⟩
   · obtain rfl : NB = i := by omega
     have hltI : ¬ (NB : Int) < (NB : Int) := by omega
     rw [sum_all (fun b => b.ats.length) HNB.out] at HC; obtain rfl := (HCN.out.2.1).symm.trans HC.out; clear HC hfk

     clear hi hgk hltI hlt hcb
     go_wp2_with fail
     go_loopg [64] en (fun gk s wr => ∃ j : Nat, j ≤ en ∧ s = .int .i64 j ∧ Hid (Below wx.heap.size wx wr) ∧ en - j ≤ gk)
     case atStart => exact ⟨0, Nat.zero_le _, rfl, HB, Nat.le_refl _⟩
     case round =>
      obtain ⟨j, hj, rfl, HBj, hgk⟩ := hrel
      by_cases hlt : j < en
      · have hltI : (j : Int) < (en : Int) := by omega
        have hec : en ≤ ec := HEN.out.2; have hpj : ps[j]? = some (ps[j]'(by have := HEN.out.1; omega)) := gE' _; generalize ps[j]'(by have := HEN.out.1; omega) = p at hpj; obtain ⟨po, pn⟩ := p; obtain ⟨b, o, hA, hbl, e0, e1⟩ := (HEV.out.prs.below HBj.out).at2 hpj; obtain ⟨⟨ik, id, ia, ib, inn, il⟩, ⟨jk, jd, ja, jb, jnn, jl⟩, s1, s2, d1, d2, hln, hkk, hd, ha, hb, heq, p0, p1, p2, p3⟩ := HPR.out.pr (po, pn) (mG' hpj); simp only at e0 e1 d1 d2 hln hkk hd ha hb heq p0 p1 p2 p3; obtain rfl := hd.symm; obtain rfl := ha.symm; obtain rfl := hb.symm
        have HKK := hd' (And.intro hkk heq); obtain ⟨R, hR⟩ := ex' (lineAtF po 0 m.lines)
        have HDJ : Hid (∀ W, Below wx.heap.size wx W → Calls Tryd.prog 17 #[.slice tA T tc, .int .i64 po] W fun e w' => e = .returned (.tuple #[.agg #[.int .i64 ik, .int .i64 id, .int .i64 ia, .int .i64 ib, .int .i64 inn, .bool il], .int .i64 s1, .int .i64 0]) ∧ Below W.heap.size W w') := hd' fun W hW => HD1.out (po, pn) _ s1 W d1 hW
        have HDK : Hid (∀ W, Below wx.heap.size wx W → Calls Tryd.prog 17 #[.slice tA2 T2 tc2, .int .i64 pn] W fun e w' => e = .returned (.tuple #[.agg #[.int .i64 jk, .int .i64 id, .int .i64 ia, .int .i64 ib, .int .i64 jnn, .bool jl], .int .i64 s2, .int .i64 0]) ∧ Below W.heap.size W w') := hd' fun W hW => HD2.out (po, pn) _ s2 W d2 hW
        have HLA0 : Hid (∀ W, Below wx.heap.size wx W → _) := hd' fun W hW => HL1.out po R W hR hW
        have HLB0 : Hid (∀ W, Below wx.heap.size wx W → _) := hd' fun W hW => HL2.out pn R W (hln.symm.trans hR) hW
        have HPV : Hid (∀ k, j = k + 1 → ∃ qo : Int, wr.cell? ⟨b, o + k * 2, none⟩ = some (.int .i64 qo) ∧ qo < po) := hd' fun k hk => by
         have hq : ps[k]? = some (ps[k]'(by have := HEN.out.1; omega)) := gE' _; generalize ps[k]'(by have := HEN.out.1; omega) = q at hq; obtain ⟨b2, o2, hA2, -, f0, -⟩ := (HEV.out.prs.below HBj.out).at2 hq; rw [hA] at hA2; injection hA2 with hA2; injection hA2 with e1 e2 _; subst e1 e2; rw [hk] at hpj; exact ⟨q.1, f0, HPR.out.lt2 hq hpj⟩
        have hblw : b < wr.heap.size := Nat.lt_of_lt_of_le hbl HBj.out.size; subst hA; clear hpj d1 d2 hln hkk heq hR p0 p1 p2 p3
        go_upto_region 17 with fail
        obtain ⟨Z, hZ⟩ := ex' (wr.alloc (.cells #[.int .i64 po, .int .i64 pn] 59))
        rw [hZ]; have hz : Blk Z wr.heap.size 59 [.int .i64 po, .int .i64 pn] := by rw [← hZ]; exact Blk.new wr _ _
        have hbZ : Below wr.heap.size wr Z := by rw [← hZ]; exact (Below.refl _ _).alloc lr' _
        obtain ⟨BP, hBP⟩ := ex' wr.heap.size
        have HBPZ := hd' hbZ; have HBZ := hd' (HBj.out.trans (hbZ.mono HBj.out.size)); rw [hBP] at hz ⊢; have HZ := hd' hz; have HMZ := hd' (HMX.out.keep HBZ.out); have k0 := HMZ.out.cell 0 rfl; have kl := HMZ.out.lt; have pz0 := hz.cell 0 rfl; have pzl := hz.lt; clear hZ hz hbZ hBP e0 e1
        go_wp2_with fail
        refine (HDJ.out _ HBZ.out).mono ?_; rintro e w5 ⟨rfl, hb5⟩; have HB5 := hd' hb5; clear hb5 k0 kl pz0 pzl
        go_upto_region 18 with fail
        obtain ⟨Z1, hZ1⟩ := ex' (w5.alloc (.cells #[.int .i64 ik, .int .i64 id, .int .i64 ia, .int .i64 ib, .int .i64 inn, .bool il] 55))
        rw [hZ1]; have hi1 : Blk Z1 w5.heap.size 55 [.int .i64 ik, .int .i64 id, .int .i64 ia, .int .i64 ib, .int .i64 inn, .bool il] := by rw [← hZ1]; exact Blk.new w5 _ _
        have hb1 : Below Z.heap.size Z Z1 := by rw [← hZ1]; exact HB5.out.alloc HB5.out.size _
        have HB1Z := hd' hb1; have HBZ1 := hd' (HBZ.out.trans (hb1.mono HBZ.out.size)); obtain ⟨BA, hBA⟩ := ex' w5.heap.size
        rw [hBA] at hi1 ⊢; have HI1 := hd' hi1; have HXZ := hd' (HX0.out.keep HBZ1.out); have HZ1P := hd' (HZ.out.keep hb1); have k0 := HXZ.out.cell 0 rfl; have kl := HXZ.out.lt; have pz1 := HZ1P.out.cell 1 rfl; have pzl := HZ1P.out.lt; clear hZ1 hi1 hb1 hBA
        go_wp2_with fail
        refine (HDK.out _ HBZ1.out).mono ?_; rintro e w6 ⟨rfl, hb6⟩; have HB6 := hd' hb6; clear hb6 k0 kl pz1 pzl
        go_upto_region 19 with fail
        obtain ⟨Z2, hZ2⟩ := ex' (w6.alloc (.cells #[.int .i64 jk, .int .i64 id, .int .i64 ia, .int .i64 ib, .int .i64 jnn, .bool jl] 55))
        rw [hZ2]; have hi2 : Blk Z2 w6.heap.size 55 [.int .i64 jk, .int .i64 id, .int .i64 ia, .int .i64 ib, .int .i64 jnn, .bool jl] := by rw [← hZ2]; exact Blk.new w6 _ _
        have hb2 : Below Z1.heap.size Z1 Z2 := by rw [← hZ2]; exact HB6.out.alloc HB6.out.size _
        have HBZ2 := hd' (HBZ1.out.trans (hb2.mono HBZ1.out.size)); obtain ⟨BB, hBB⟩ := ex' w6.heap.size
        rw [hBB] at hi2 ⊢; have HI2 := hd' hi2; have HI1Z := hd' (HI1.out.keep hb2); have HMZ2 := HMX.out.keep HBZ2.out; have HXZ2 := HX0.out.keep HBZ2.out; have HZ2P := HZ1P.out.keep hb2; have hbq : Below wr.heap.size wr Z2 := HBPZ.out.trans ((HB1Z.out.trans (hb2.mono HB1Z.out.size)).mono HBPZ.out.size); have HBQ := hd' hbq; have HLA := hd' fun W (hW : Below Z2.heap.size Z2 W) => HLA0.out W (HBZ2.out.trans (hW.mono HBZ2.out.size))
        have HLB := hd' fun W (hW : Below Z2.heap.size Z2 W) => HLB0.out W (HBZ2.out.trans (hW.mono HBZ2.out.size))
        have g0 := HMZ2.cell 0 rfl; have g1 := HMZ2.cell 1 rfl; have g2 := HMZ2.cell 2 rfl; have g3 := HMZ2.cell 3 rfl; have g4 := HMZ2.cell 4 rfl; have g5 := HMZ2.cell 5 rfl; have g6 := HXZ2.cell 0 rfl; have g7 := HXZ2.cell 1 rfl; have g8 := HXZ2.cell 2 rfl; have g9 := HXZ2.cell 3 rfl; have g10 := HXZ2.cell 4 rfl; have g11 := HXZ2.cell 5 rfl; have g12 := HZ2P.cell 0 rfl; have g13 := HZ2P.cell 1 rfl; have ml := HMZ2.lt; have xl := HXZ2.lt; have pl := HZ2P.lt; have bl : b < Z2.heap.size := Nat.lt_of_lt_of_le hblw hbq.size; clear hZ2 hi2 hb2 hBB HMZ2 HXZ2 HZ2P hbq
        go_cut [118] (fun s118 wy => s118 = .bool false ∧ Hid (Below Z2.heap.size Z2 wy))
        case first =>
         rcases Nat.eq_zero_or_pos j with h0 | h0
         · have q1 : ¬ 0 < j := by omega
           have q2 : decide (0 < j) = false := decide_eq_false q1; clear h0
           as_aux_lemma =>
            refine wp_region_W (fun w' => w'.cell? ⟨BX, 0, none⟩ = some (.slice tA T tc) ∧ w'.cell? ⟨BX, 1, none⟩ = some (.slice fA NF fc) ∧ w'.cell? ⟨BX, 2, none⟩ = some (.slice bA nb bc) ∧ w'.cell? ⟨BX, 3, none⟩ = some (.slice dA nd dc) ∧ w'.cell? ⟨BX, 4, none⟩ = some (.slice lA nl lc) ∧ w'.cell? ⟨BX, 5, none⟩ = some (.int .i64 m.entry) ∧ w'.cell? ⟨z, 0, none⟩ = some (.slice tA2 T2 tc2) ∧ w'.cell? ⟨z, 1, none⟩ = some (.slice fA2 nf2 fc2) ∧ w'.cell? ⟨z, 2, none⟩ = some (.slice bA2 nb2 bc2) ∧ w'.cell? ⟨z, 3, none⟩ = some (.slice dA2 nd2 dc2) ∧ w'.cell? ⟨z, 4, none⟩ = some (.slice lA2 nl2 lc2) ∧ w'.cell? ⟨z, 5, none⟩ = some (.int .i64 x.entry) ∧ w'.cell? ⟨BP, 0, none⟩ = some (.int .i64 po) ∧ w'.cell? ⟨BP, 1, none⟩ = some (.int .i64 pn)) 32 (by kernel_rfl) (by (try dsimp only); go_keep) (fun zH => ?_)
            refine wq 0 zH ?_; refine wq 1 zH ?_; refine wq 2 zH ?_; refine wq 3 zH ?_; refine wq 4 zH ?_; refine wq 5 zH ?_; refine wq 6 zH ?_; refine wq 7 zH ?_; refine wq 8 zH ?_; refine wq 9 zH ?_
            refine wpW_take 10 (v := undef) rfl (by kernel_rfl) (by kernel_rfl) (by kernel_rfl) (by kernel_rfl) (fun _ _ _ h => h) (Or.inr ⟨by rfl, rfl⟩) zH ?_; (try simp only [putE]); refine wpW_take 11 (v := undef) rfl (by kernel_rfl) (by kernel_rfl) (by kernel_rfl) (by kernel_rfl) (fun _ _ _ h => h) (Or.inr ⟨by rfl, rfl⟩) zH ?_; (try simp only [putE]); refine wpW_take 12 (v := undef) rfl (by kernel_rfl) (by kernel_rfl) (by kernel_rfl) (by kernel_rfl) (fun _ _ _ h => h) (Or.inr ⟨by rfl, rfl⟩) zH ?_; (try simp only [putE])
            refine wpW_take 13 (v := undef) rfl (by kernel_rfl) (by kernel_rfl) (by kernel_rfl) (by kernel_rfl) (fun _ _ _ h => h) (Or.inr ⟨by rfl, rfl⟩) zH ?_; (try simp only [putE]); refine wpW_take 14 (v := undef) rfl (by kernel_rfl) (by kernel_rfl) (by kernel_rfl) (by kernel_rfl) (fun _ _ _ h => h) (Or.inr ⟨by rfl, rfl⟩) zH ?_; (try simp only [putE]); refine wpW_take 15 (v := undef) rfl (by kernel_rfl) (by kernel_rfl) (by kernel_rfl) (by kernel_rfl) (fun _ _ _ h => h) (Or.inr ⟨by rfl, rfl⟩) zH ?_; (try simp only [putE])
            refine wpW_take 16 (v := undef) rfl (by kernel_rfl) (by kernel_rfl) (by kernel_rfl) (by kernel_rfl) (fun _ _ _ h => h) (Or.inr ⟨by rfl, rfl⟩) zH ?_; (try simp only [putE]); refine wpW_take 17 (v := undef) rfl (by kernel_rfl) (by kernel_rfl) (by kernel_rfl) (by kernel_rfl) (fun _ _ _ h => h) (Or.inr ⟨by rfl, rfl⟩) zH ?_; (try simp only [putE]); refine wpW_take 18 (v := undef) rfl (by kernel_rfl) (by kernel_rfl) (by kernel_rfl) (by kernel_rfl) (fun _ _ _ h => h) (Or.inr ⟨by rfl, rfl⟩) zH ?_; (try simp only [putE]); refine wq 19 zH ?_
            refine wq 20 zH ?_; refine wq 21 zH ?_; refine wq 22 zH ?_; refine wq 23 zH ?_; refine wq 24 zH ?_; refine wq 26 zH ?_; refine wq 27 zH ?_; refine wq 28 zH ?_; refine wpW_one 25 rfl (by kernel_rfl) (fun K hK => ?_)
            go_simp
            refine (HLA.out _ ((Below.refl _ _).drew)).mono ?_; rintro e w7 ⟨rfl, hb7'⟩; have hb7 : Below Z2.heap.size Z2 w7 := ((Below.refl Z2.heap.size Z2).drew).trans hb7'; have y0 : w7.cell? ⟨BX, 0, none⟩ = some (.slice tA T tc) := (hb7.cell (p := ⟨BX, 0, none⟩) ml).trans g0; have y1 : w7.cell? ⟨BX, 1, none⟩ = some (.slice fA NF fc) := (hb7.cell (p := ⟨BX, 1, none⟩) ml).trans g1; have y2 : w7.cell? ⟨BX, 2, none⟩ = some (.slice bA nb bc) := (hb7.cell (p := ⟨BX, 2, none⟩) ml).trans g2; have y3 : w7.cell? ⟨BX, 3, none⟩ = some (.slice dA nd dc) := (hb7.cell (p := ⟨BX, 3, none⟩) ml).trans g3
            have y4 : w7.cell? ⟨BX, 4, none⟩ = some (.slice lA nl lc) := (hb7.cell (p := ⟨BX, 4, none⟩) ml).trans g4; have y5 : w7.cell? ⟨BX, 5, none⟩ = some (.int .i64 m.entry) := (hb7.cell (p := ⟨BX, 5, none⟩) ml).trans g5; have y6 : w7.cell? ⟨z, 0, none⟩ = some (.slice tA2 T2 tc2) := (hb7.cell (p := ⟨z, 0, none⟩) xl).trans g6; have y7 : w7.cell? ⟨z, 1, none⟩ = some (.slice fA2 nf2 fc2) := (hb7.cell (p := ⟨z, 1, none⟩) xl).trans g7; have y8 : w7.cell? ⟨z, 2, none⟩ = some (.slice bA2 nb2 bc2) := (hb7.cell (p := ⟨z, 2, none⟩) xl).trans g8
            have y9 : w7.cell? ⟨z, 3, none⟩ = some (.slice dA2 nd2 dc2) := (hb7.cell (p := ⟨z, 3, none⟩) xl).trans g9; have y10 : w7.cell? ⟨z, 4, none⟩ = some (.slice lA2 nl2 lc2) := (hb7.cell (p := ⟨z, 4, none⟩) xl).trans g10; have y11 : w7.cell? ⟨z, 5, none⟩ = some (.int .i64 x.entry) := (hb7.cell (p := ⟨z, 5, none⟩) xl).trans g11; have y12 : w7.cell? ⟨BP, 0, none⟩ = some (.int .i64 po) := (hb7.cell (p := ⟨BP, 0, none⟩) pl).trans g12; have y13 : w7.cell? ⟨BP, 1, none⟩ = some (.int .i64 pn) := (hb7.cell (p := ⟨BP, 1, none⟩) pl).trans g13
            refine hK.out _ _ (by (try dsimp only); exact ⟨y0, y1, y2, y3, y4, y5, y6, y7, y8, y9, y10, y11, y12, y13⟩) (fun zH => ?_); clear hK K; (try simp only [putE]); refine wpW_one 29 rfl (by kernel_rfl) (fun K hK => ?_)
            go_simp
            refine (HLB.out _ hb7).mono ?_; rintro e w8 ⟨rfl, hb8'⟩; have hb8 : Below Z2.heap.size Z2 w8 := hb7.trans (hb8'.mono hb7.size); have z0 : w8.cell? ⟨BX, 0, none⟩ = some (.slice tA T tc) := (hb8.cell (p := ⟨BX, 0, none⟩) ml).trans g0; have z1 : w8.cell? ⟨BX, 1, none⟩ = some (.slice fA NF fc) := (hb8.cell (p := ⟨BX, 1, none⟩) ml).trans g1; have z2 : w8.cell? ⟨BX, 2, none⟩ = some (.slice bA nb bc) := (hb8.cell (p := ⟨BX, 2, none⟩) ml).trans g2; have z3 : w8.cell? ⟨BX, 3, none⟩ = some (.slice dA nd dc) := (hb8.cell (p := ⟨BX, 3, none⟩) ml).trans g3
            have z4 : w8.cell? ⟨BX, 4, none⟩ = some (.slice lA nl lc) := (hb8.cell (p := ⟨BX, 4, none⟩) ml).trans g4; have z5 : w8.cell? ⟨BX, 5, none⟩ = some (.int .i64 m.entry) := (hb8.cell (p := ⟨BX, 5, none⟩) ml).trans g5; have z6 : w8.cell? ⟨z, 0, none⟩ = some (.slice tA2 T2 tc2) := (hb8.cell (p := ⟨z, 0, none⟩) xl).trans g6; have z7 : w8.cell? ⟨z, 1, none⟩ = some (.slice fA2 nf2 fc2) := (hb8.cell (p := ⟨z, 1, none⟩) xl).trans g7; have z8 : w8.cell? ⟨z, 2, none⟩ = some (.slice bA2 nb2 bc2) := (hb8.cell (p := ⟨z, 2, none⟩) xl).trans g8
            have z9 : w8.cell? ⟨z, 3, none⟩ = some (.slice dA2 nd2 dc2) := (hb8.cell (p := ⟨z, 3, none⟩) xl).trans g9; have z10 : w8.cell? ⟨z, 4, none⟩ = some (.slice lA2 nl2 lc2) := (hb8.cell (p := ⟨z, 4, none⟩) xl).trans g10; have z11 : w8.cell? ⟨z, 5, none⟩ = some (.int .i64 x.entry) := (hb8.cell (p := ⟨z, 5, none⟩) xl).trans g11; have z12 : w8.cell? ⟨BP, 0, none⟩ = some (.int .i64 po) := (hb8.cell (p := ⟨BP, 0, none⟩) pl).trans g12; have z13 : w8.cell? ⟨BP, 1, none⟩ = some (.int .i64 pn) := (hb8.cell (p := ⟨BP, 1, none⟩) pl).trans g13
            refine hK.out _ _ (by (try dsimp only); exact ⟨z0, z1, z2, z3, z4, z5, z6, z7, z8, z9, z10, z11, z12, z13⟩) (fun zH => ?_); clear hK K; (try simp only [putE]); refine wq 30 zH ?_; refine wq 31 zH ?_; refine wpW_done (by kernel_rfl) ?_ _
            go_wp2
            go_meet
            exact ⟨rfl, hd' hb8⟩
         · obtain ⟨k, hk⟩ : ∃ k, j = k + 1 := ⟨j - 1, by omega⟩
           obtain ⟨qo, hq0, hqlt⟩ := HPV.out k hk; have g14 := (HBQ.out.cell (p := ⟨b, o + k * 2, none⟩) hblw).trans hq0; have q1 : 0 < j := by omega
           have q2 : decide (0 < j) = true := decide_eq_true q1; have q3 : ¬ qo ≥ po := by omega
           have q4 : decide (qo ≥ po) = false := decide_eq_false q3; have qw : IntKind.i64.wrap ((j : Int) - 1) = (k : Int) := by rw [IntWalk.i64_in _ (by omega)]; omega
           have hk0 : (0 : Int) ≤ (k : Int) := by omega
           have hk1 : (k : Int) < (en : Int) := by omega
           clear h0 hk hq0 hqlt
           as_aux_lemma =>
            refine wp_region_W (fun w' => w'.cell? ⟨BX, 0, none⟩ = some (.slice tA T tc) ∧ w'.cell? ⟨BX, 1, none⟩ = some (.slice fA NF fc) ∧ w'.cell? ⟨BX, 2, none⟩ = some (.slice bA nb bc) ∧ w'.cell? ⟨BX, 3, none⟩ = some (.slice dA nd dc) ∧ w'.cell? ⟨BX, 4, none⟩ = some (.slice lA nl lc) ∧ w'.cell? ⟨BX, 5, none⟩ = some (.int .i64 m.entry) ∧ w'.cell? ⟨z, 0, none⟩ = some (.slice tA2 T2 tc2) ∧ w'.cell? ⟨z, 1, none⟩ = some (.slice fA2 nf2 fc2) ∧ w'.cell? ⟨z, 2, none⟩ = some (.slice bA2 nb2 bc2) ∧ w'.cell? ⟨z, 3, none⟩ = some (.slice dA2 nd2 dc2) ∧ w'.cell? ⟨z, 4, none⟩ = some (.slice lA2 nl2 lc2) ∧ w'.cell? ⟨z, 5, none⟩ = some (.int .i64 x.entry) ∧ w'.cell? ⟨BP, 0, none⟩ = some (.int .i64 po) ∧ w'.cell? ⟨BP, 1, none⟩ = some (.int .i64 pn) ∧ w'.cell? ⟨b, o + k * 2, none⟩ = some (.int .i64 qo)) 32 (by kernel_rfl) (by (try dsimp only); go_keep) (fun zH => ?_)
            refine wq 0 zH ?_; refine wq 1 zH ?_; refine wq 2 zH ?_; refine wq 3 zH ?_; refine wq 4 zH ?_; refine wq 5 zH ?_; refine wq 6 zH ?_; refine wq 7 zH ?_; refine wq 8 zH ?_; refine wq 9 zH ?_; refine wq 10 zH ?_; refine wq 11 zH ?_
            refine wq 12 zH ?_; refine wq 13 zH ?_; refine wq 14 zH ?_; refine wq 15 zH ?_; refine wq 16 zH ?_; refine wq 17 zH ?_; refine wq 18 zH ?_; refine wq 19 zH ?_; refine wq 20 zH ?_; refine wq 21 zH ?_; refine wq 22 zH ?_; refine wq 23 zH ?_; refine wq 24 zH ?_; refine wq 26 zH ?_; refine wq 27 zH ?_; refine wq 28 zH ?_; refine wpW_one 25 rfl (by kernel_rfl) (fun K hK => ?_)
            go_simp
            refine (HLA.out _ ((Below.refl _ _).drew)).mono ?_; rintro e w7 ⟨rfl, hb7'⟩; have hb7 : Below Z2.heap.size Z2 w7 := ((Below.refl Z2.heap.size Z2).drew).trans hb7'; have y0 : w7.cell? ⟨BX, 0, none⟩ = some (.slice tA T tc) := (hb7.cell (p := ⟨BX, 0, none⟩) ml).trans g0; have y1 : w7.cell? ⟨BX, 1, none⟩ = some (.slice fA NF fc) := (hb7.cell (p := ⟨BX, 1, none⟩) ml).trans g1; have y2 : w7.cell? ⟨BX, 2, none⟩ = some (.slice bA nb bc) := (hb7.cell (p := ⟨BX, 2, none⟩) ml).trans g2; have y3 : w7.cell? ⟨BX, 3, none⟩ = some (.slice dA nd dc) := (hb7.cell (p := ⟨BX, 3, none⟩) ml).trans g3
            have y4 : w7.cell? ⟨BX, 4, none⟩ = some (.slice lA nl lc) := (hb7.cell (p := ⟨BX, 4, none⟩) ml).trans g4; have y5 : w7.cell? ⟨BX, 5, none⟩ = some (.int .i64 m.entry) := (hb7.cell (p := ⟨BX, 5, none⟩) ml).trans g5; have y6 : w7.cell? ⟨z, 0, none⟩ = some (.slice tA2 T2 tc2) := (hb7.cell (p := ⟨z, 0, none⟩) xl).trans g6; have y7 : w7.cell? ⟨z, 1, none⟩ = some (.slice fA2 nf2 fc2) := (hb7.cell (p := ⟨z, 1, none⟩) xl).trans g7; have y8 : w7.cell? ⟨z, 2, none⟩ = some (.slice bA2 nb2 bc2) := (hb7.cell (p := ⟨z, 2, none⟩) xl).trans g8
            have y9 : w7.cell? ⟨z, 3, none⟩ = some (.slice dA2 nd2 dc2) := (hb7.cell (p := ⟨z, 3, none⟩) xl).trans g9; have y10 : w7.cell? ⟨z, 4, none⟩ = some (.slice lA2 nl2 lc2) := (hb7.cell (p := ⟨z, 4, none⟩) xl).trans g10; have y11 : w7.cell? ⟨z, 5, none⟩ = some (.int .i64 x.entry) := (hb7.cell (p := ⟨z, 5, none⟩) xl).trans g11; have y12 : w7.cell? ⟨BP, 0, none⟩ = some (.int .i64 po) := (hb7.cell (p := ⟨BP, 0, none⟩) pl).trans g12; have y13 : w7.cell? ⟨BP, 1, none⟩ = some (.int .i64 pn) := (hb7.cell (p := ⟨BP, 1, none⟩) pl).trans g13
            have y14 : w7.cell? ⟨b, o + k * 2, none⟩ = some (.int .i64 qo) := (hb7.cell (p := ⟨b, o + k * 2, none⟩) bl).trans g14; refine hK.out _ _ (by (try dsimp only); exact ⟨y0, y1, y2, y3, y4, y5, y6, y7, y8, y9, y10, y11, y12, y13, y14⟩) (fun zH => ?_); clear hK K; (try simp only [putE]); refine wpW_one 29 rfl (by kernel_rfl) (fun K hK => ?_)
            go_simp
            refine (HLB.out _ hb7).mono ?_; rintro e w8 ⟨rfl, hb8'⟩; have hb8 : Below Z2.heap.size Z2 w8 := hb7.trans (hb8'.mono hb7.size); have z0 : w8.cell? ⟨BX, 0, none⟩ = some (.slice tA T tc) := (hb8.cell (p := ⟨BX, 0, none⟩) ml).trans g0; have z1 : w8.cell? ⟨BX, 1, none⟩ = some (.slice fA NF fc) := (hb8.cell (p := ⟨BX, 1, none⟩) ml).trans g1; have z2 : w8.cell? ⟨BX, 2, none⟩ = some (.slice bA nb bc) := (hb8.cell (p := ⟨BX, 2, none⟩) ml).trans g2; have z3 : w8.cell? ⟨BX, 3, none⟩ = some (.slice dA nd dc) := (hb8.cell (p := ⟨BX, 3, none⟩) ml).trans g3
            have z4 : w8.cell? ⟨BX, 4, none⟩ = some (.slice lA nl lc) := (hb8.cell (p := ⟨BX, 4, none⟩) ml).trans g4; have z5 : w8.cell? ⟨BX, 5, none⟩ = some (.int .i64 m.entry) := (hb8.cell (p := ⟨BX, 5, none⟩) ml).trans g5; have z6 : w8.cell? ⟨z, 0, none⟩ = some (.slice tA2 T2 tc2) := (hb8.cell (p := ⟨z, 0, none⟩) xl).trans g6; have z7 : w8.cell? ⟨z, 1, none⟩ = some (.slice fA2 nf2 fc2) := (hb8.cell (p := ⟨z, 1, none⟩) xl).trans g7; have z8 : w8.cell? ⟨z, 2, none⟩ = some (.slice bA2 nb2 bc2) := (hb8.cell (p := ⟨z, 2, none⟩) xl).trans g8
            have z9 : w8.cell? ⟨z, 3, none⟩ = some (.slice dA2 nd2 dc2) := (hb8.cell (p := ⟨z, 3, none⟩) xl).trans g9; have z10 : w8.cell? ⟨z, 4, none⟩ = some (.slice lA2 nl2 lc2) := (hb8.cell (p := ⟨z, 4, none⟩) xl).trans g10; have z11 : w8.cell? ⟨z, 5, none⟩ = some (.int .i64 x.entry) := (hb8.cell (p := ⟨z, 5, none⟩) xl).trans g11; have z12 : w8.cell? ⟨BP, 0, none⟩ = some (.int .i64 po) := (hb8.cell (p := ⟨BP, 0, none⟩) pl).trans g12; have z13 : w8.cell? ⟨BP, 1, none⟩ = some (.int .i64 pn) := (hb8.cell (p := ⟨BP, 1, none⟩) pl).trans g13
            have z14 : w8.cell? ⟨b, o + k * 2, none⟩ = some (.int .i64 qo) := (hb8.cell (p := ⟨b, o + k * 2, none⟩) bl).trans g14; refine hK.out _ _ (by (try dsimp only); exact ⟨z0, z1, z2, z3, z4, z5, z6, z7, z8, z9, z10, z11, z12, z13, z14⟩) (fun zH => ?_); clear hK K; (try simp only [putE]); refine wq 30 zH ?_; refine wq 31 zH ?_; refine wpW_done (by kernel_rfl) ?_ _
            go_wp2
            go_meet
            exact ⟨rfl, hd' hb8⟩
        case rest =>
         obtain ⟨rfl, HBY⟩ := hcut
         rename World => wy
         have HBY2 := hd' (HBZ2.out.trans (HBY.out.mono HBZ2.out.size)); have hka := HI1Z.out.keep HBY.out; have hkb := HI2.out.keep HBY.out; have a0 := hka.cell 0 rfl; have a1 := hka.cell 1 rfl; have a2 := hka.cell 2 rfl; have a3 := hka.cell 3 rfl; have a4 := hka.cell 4 rfl; have a5 := hka.cell 5 rfl; have b0 := hkb.cell 0 rfl; have b1 := hkb.cell 1 rfl; have b2 := hkb.cell 2 rfl; have b3 := hkb.cell 3 rfl; have b4 := hkb.cell 4 rfl; have b5 := hkb.cell 5 rfl; have al := hka.lt; have bl2 := hkb.lt
         clear hka hkb g0 g1 g2 g3 g4 g5 g6 g7 g8 g9 g10 g11 g12 g13 ml xl pl bl HPV HLA0 HLB0 HLA HLB HDJ HDK
         have hcs : (ik < 18 ∨ ik = 24) ∧ jk = ik ∧ jnn = inn ∧ jl = il ∨ (18 ≤ ik ∧ ik ≤ 21) ∧ jk = ik ∨ (18 ≤ ik ∧ ik ≤ 21) ∧ jk ≠ ik ∨ (22 ≤ ik ∧ ik ≤ 23 ∨ 24 < ik) ∧ jk = ik := by
          obtain ⟨h1, h2⟩ := HKK.out
          by_cases c1 : ik < 18 ∨ ik = 24
          · have h3 := h2 c1; injection h3 with e1 e2 e3 e4 e5 e6; exact .inl ⟨c1, e1, e5, e6⟩
          · by_cases c2 : jk = ik
            · omega
            · omega
         clear HKK; rcases hcs with ⟨h1 | h1, h2, h3, h4⟩ | ⟨h1, h2⟩ | ⟨h1, h2⟩ | ⟨h1, h2⟩
         · subst h2 h3 h4; have q1 : ¬ jk ≥ 18 := by omega
           have q2 : decide (jk ≥ 18) = false := decide_eq_false q1; have q3 : decide (jk < 18) = true := decide_eq_true h1
           go_wp2_with fail
           go_roundg (en - (j + 1))
           case measure => omega
           case rel => exact ⟨j + 1, by omega, (by go_num), HBY2, Nat.le_refl _⟩
         · subst h2 h3 h4 h1
           go_wp2_with fail
           go_roundg (en - (j + 1))
           case measure => omega
           case rel => exact ⟨j + 1, by omega, (by go_num), HBY2, Nat.le_refl _⟩
         · subst h2; have q1 : jk ≥ 18 := h1.1; have q2 : decide (jk ≥ 18) = true := decide_eq_true q1; have q3 : jk ≤ 21 := h1.2; have q4 : decide (jk ≤ 21) = true := decide_eq_true q3; have q5 : ¬ jk < 18 := by omega
           have q6 : decide (jk < 18) = false := decide_eq_false q5; have q7 : (jk == 24) = false := by simp; omega
           go_wp2_with fail
           go_roundg (en - (j + 1))
           case measure => omega
           case rel => exact ⟨j + 1, by omega, (by go_num), HBY2, Nat.le_refl _⟩
         · have q1 : ik ≥ 18 := h1.1; have q2 : decide (ik ≥ 18) = true := decide_eq_true q1; have q3 : ik ≤ 21 := h1.2; have q4 : decide (ik ≤ 21) = true := decide_eq_true q3; have q5 : ¬ ik < 18 := by omega
           have q6 : decide (ik < 18) = false := decide_eq_false q5; have q7 : (ik == 24) = false := by simp; omega
           have q8 : (ik == jk) = false := by simp; omega
           have q9 : (ik != jk) = true := by simp; omega
           go_wp2_with fail
           go_roundg (en - (j + 1))
           case measure => omega
           case rel => exact ⟨j + 1, by omega, (by go_num), HBY2, Nat.le_refl _⟩
         · subst h2; have q1 : jk ≥ 18 := by omega
           have q2 : decide (jk ≥ 18) = true := decide_eq_true q1; have q3 : ¬ jk ≤ 21 := by omega
           have q4 : decide (jk ≤ 21) = false := decide_eq_false q3; have q5 : ¬ jk < 18 := by omega
           have q6 : decide (jk < 18) = false := decide_eq_false q5; have q7 : (jk == 24) = false := by simp; omega
           go_wp2_with fail
           go_roundg (en - (j + 1))
           case measure => omega
           case rel => exact ⟨j + 1, by omega, (by go_num), HBY2, Nat.le_refl _⟩
      · obtain rfl : en = j := by omega
        have hltI : ¬ (en : Int) < (en : Int) := by omega
        have hfk := HFX.out.keep HBj.out; have u0 := hfk.cell 0 rfl; have ul := hfk.lt; have HBS := HBj; clear hj hgk hfk
        go_wp2_with fail
        go_loopg [14, 179] NB (fun gk s1 s2 wr => ∃ (i c : Nat), i ≤ NB ∧ s1 = .int .i64 c ∧ s2 = .int .i64 i ∧ Hid (((d.blocks.take i).map jmpB).sum = c) ∧ c ≤ 1600 * i ∧ Hid (Below wx.heap.size wx wr) ∧ NB - i ≤ gk)
        case atStart => exact ⟨0, 0, Nat.zero_le _, rfl, rfl, hd' rfl, Nat.zero_le _, HBS, Nat.le_refl _⟩
        case round =>
         obtain ⟨i, cn, hi, rfl, rfl, HC, hcb, HB, hgk⟩ := hrel; have hfk := HFX.out.keep HB.out
         by_cases hlt : i < NB
         · have hltI : (i : Int) < (NB : Int) := by omega
           have hbi : d.blocks[i]? = some (d.blocks[i]'(by have := HNB.out; omega)) := gE' _; obtain ⟨b, hbe⟩ := ex' (d.blocks[i]'(by have := HNB.out; omega))
           rw [hbe] at hbi; have hst2 := sum_step jmpB hbi; rw [HC.out] at hst2; have hbl := blk_len HST.out b (mG' hbi); obtain ⟨v, g, o, hxA, hgl, -, hcs⟩ := (HST.out.below (HBW.out wr HB.out)).flow.at hbi; obtain ⟨bf, bst, bco, bat, ⟨lk, lld, la, lb, ln, llb⟩, ben, bds, bel, bli⟩ := b; obtain ⟨cA, cc, aA, ac, liA, lic⟩ := v; have c0 := hcs 0 _ rfl; have c1 := hcs 1 _ rfl; have c2 := hcs 2 _ rfl; have c3 := hcs 3 _ rfl; have c4 := hcs 4 _ rfl; have c5 := hcs 5 _ rfl; have c6 := hcs 6 _ rfl; have c7 := hcs 7 _ rfl; have c8 := hcs 8 _ rfl; have c9 := hcs 9 _ rfl
           have c10 := hcs 10 _ rfl; have c11 := hcs 11 _ rfl; have c12 := hcs 12 _ rfl; have c13 := hcs 13 _ rfl; simp only [Nat.add_zero] at c0 c1 c2 c3 c4 c5 c6 c7 c8 c9 c10 c11 c12 c13
           have hxcap : NB ≤ xc := by
            obtain ⟨l0, e1, e2, -⟩ := HST.out.flow; rw [← HNB.out]; exact e2.2.1
           simp only at hst2 hbl; obtain ⟨NA, hNA⟩ := ex' bat.length
           rw [hNA] at c3 hbl
           try rw [hNA] at hst2
           subst hxA; clear hbe hbi hcs hNA HC
           go_upto_region 30 with fail
           obtain ⟨Z, hZ⟩ := ex' (wr.alloc (.cells #[.int .i64 bf, .int .i64 bst, .slice cA bco.length cc, .slice aA NA ac, .int .i64 lk, .int .i64 lld, .int .i64 la, .int .i64 lb, .int .i64 ln, .bool llb, .int .i64 ben, .int .i64 bds, .int .i64 bel, .slice liA bli.length lic] 57))
           rw [hZ]; have htZ : Blk Z wr.heap.size 57 [.int .i64 bf, .int .i64 bst, .slice cA bco.length cc, .slice aA NA ac, .int .i64 lk, .int .i64 lld, .int .i64 la, .int .i64 lb, .int .i64 ln, .bool llb, .int .i64 ben, .int .i64 bds, .int .i64 bel, .slice liA bli.length lic] := by rw [← hZ]; exact Blk.new wr _ _
           have HBZ : Hid (Below wx.heap.size wx Z) := hd' (by rw [← hZ]; exact HB.out.alloc HB.out.size _); have t3 := htZ.cell 3 rfl; have t10 := htZ.cell 10 rfl; have tl := htZ.lt; clear hZ htZ c0 c1 c2 c3 c4 c5 c6 c7 c8 c9 c10 c11 c12 c13 hfk
           by_cases hE : ben = 3
           · subst hE; rw [show jmpB ⟨bf, bst, bco, bat, ⟨lk, lld, la, lb, ln, llb⟩, 3, bds, bel, bli⟩ = 1 from rfl] at hst2; obtain ⟨c2, hc2⟩ := ex' (cn + 1)
             have qc : IntKind.i64.wrap ((cn : Int) + 1) = (c2 : Int) := by rw [IntWalk.i64_in _ (by omega)]; omega
             have hc2b : c2 ≤ 1600 * (i + 1) := by omega
             have HS2 := hd' (hst2.trans hc2); clear hst2 hc2 hcb hbl
             go_wp2_with fail
             go_roundg (NB - (i + 1))
             case measure => omega
             case rel => exact ⟨i + 1, c2, by omega, rfl, (by go_num), HS2, hc2b, HBZ, Nat.le_refl _⟩
           · rw [show jmpB ⟨bf, bst, bco, bat, ⟨lk, lld, la, lb, ln, llb⟩, ben, bds, bel, bli⟩ = 0 from if_neg hE] at hst2; have qe : (ben == 3) = false := by simpa using hE
             have hc2b : cn ≤ 1600 * (i + 1) := by omega
             have HS2 := hd' hst2; clear hst2 hcb hbl
             go_wp2_with fail
             go_roundg (NB - (i + 1))
             case measure => omega
             case rel => exact ⟨i + 1, cn, by omega, rfl, (by go_num), HS2, hc2b, HBZ, Nat.le_refl _⟩
         · obtain rfl : NB = i := by omega
           have hltI : ¬ (NB : Int) < (NB : Int) := by omega
           rw [sum_all jmpB HNB.out] at HC; obtain rfl := (HCN.out.1).symm.trans HC.out; clear HC hfk

           have hh := HCN.out.2.2; have hd1 : (NC : Int) - (NJ : Int) ≤ (en : Int) := by omega
           have hd2 : (en : Int) ≤ (NC : Int) := by omega
           obtain ⟨dd, hdd⟩ := ex' ((NC : Int) - (NJ : Int))
           have qd : IntKind.i64.wrap ((NC : Int) - (NJ : Int)) = dd := by rw [IntWalk.i64_in _ (by omega)]; exact hdd
           have q1 : decide ((en : Int) ≤ (NC : Int)) = true := decide_eq_true hd2; have q2 : (en : Int) ≥ dd := by omega
           have q3 : decide ((en : Int) ≥ dd) = true := decide_eq_true q2; have HBE := hd' (HB1.out.trans ((HBW.out _ HB.out).mono HB1.out.size)); clear hh hd1 hdd hcb hi hgk hltI hlt
           go_wp2_with fail
           go_ret
           exact ⟨by simp, HBE.out⟩
set_option maxRecDepth 100000 in
theorem emitPairs_contract (H : Type) (enc : TypeId × Value → H) (W : World) (base : Nat) (args : Array Value) (ds gs : List (DataW H)) (before : List MemPlace)
 (hval : ∀ (j : Nat) t v, Tryd.f4.params[j]? = some t → args[j]? = some v → Value.okWide Tryd.prog W .any base t v)
 (hW : DataW.Whole enc Tryd.prog Tryd.f4.params.toList Rows.emitPairsSpec.vars false W args.toList ds gs before) (hL : laidMetH Tryd.prog Rows.emitPairsRow.laid W)
 (hz : (DataW.weightsEach Tryd.prog (Tryd.f4.params.toList ++ (OpenSpec.ofChange Rows.emitPairsSpec).bare.plain.varTypes Tryd.prog) (ds ++ gs)).all (· ≤ reachBytes) = true) :
 Calls Tryd.prog 4 args W fun e W' => ∃ v, e = .returned v ∧ Rows.emitPairsSpec.post enc Tryd.prog Tryd.f4 false true false false W args v W' := by
 have hT : Tabs W := tabs_of_laid5 hL; have hW0 := hW; obtain ⟨p, q, hA0, hV, rfl, hfz, hnd⟩ := hW; have hA : DataW.TrodAll enc Tryd.prog W 0 (fun _ => true) true Tryd.f4.params.toList args.toList ds p := hA0; rw [Tryd.params4] at hA hval; obtain ⟨v0, vs0, d0, ds0, p0, q0, hargs, rfl, rfl, h0, r0⟩ := trodAll_cons hA; obtain ⟨v1, vs1, d1, ds1, p1, q1, rfl, rfl, rfl, h1, r1⟩ := trodAll_cons r0; obtain ⟨rfl, rfl, rfl⟩ := trodAll_nil r1; obtain rfl : args = #[v0, v1] := by cases args; simp_all
 obtain ⟨rfl, rfl⟩ := trodVars_none hV; clear hA0; obtain ⟨A, cap, L, rfl, hcap, hcm, hR, hd⟩ := open_raws (hval 0 22 v0 rfl rfl) h0; obtain ⟨iA, icap, IL, rfl, hicap, hicm, hI64, hIR, hid⟩ := open_nums (hval 1 35 v1 rfl rfl) h1
 have hL2 : L.length ≤ 140737488355328 := by
  rcases hd with ⟨-, rfl, -⟩ | ⟨elems, spare, rfl, hl⟩
  · exact Nat.zero_le _
  · have h1 := sized_slice hz (j := 0) (t := 22) (by rw [Tryd.params4]; rfl) rfl Tryd.underlying22; have h2 : Tryd.prog.bytesOf 26 = 32 := by kernel_rfl
    have h3 := reachBytes_lt; rw [h2, hl] at h1; omega
 have hIL : IL.length ≤ 140737488355328 := by
  rcases hid with ⟨-, rfl, -⟩ | ⟨elems, spare, rfl, hl⟩
  · exact Nat.zero_le _
  · have h1 := sized_slice hz (j := 1) (t := 35) (by rw [Tryd.params4]; rfl) rfl Tryd.underlying35; have h2 : Tryd.prog.bytesOf 3 = 8 := by kernel_rfl
    have h3 := reachBytes_lt; rw [h2, hl] at h1; omega
 refine (emitPairs_walk L A cap IL iA icap W hT hR hL2 hcap hI64 hIR hIL hicap).mono fun e W' ⟨he, hb⟩ => ?_
 subst he; exact ⟨_, rfl, law_post hW0 rfl rfl (by kernel_rfl) (by kernel_rfl) hb⟩
set_option maxRecDepth 100000 in
theorem emitPairs_met (os : Os) : laidMet Tryd.prog Rows.emitPairsRow.laid ((laidWorld5 os).forCall (fun _ _ => 0) ⟨#[], #[.slice none 0 0, .slice none 0 0], []⟩).memory :=
 laidMet_of_run' 8 (by kernel_rfl) (by kernel_rfl)
set_option maxRecDepth 100000 in
theorem emitPairs_reads (os : Os) {H : Type} (enc : TypeId × Value → H) : ∃ places, DataW.whole enc Tryd.prog ((laidWorld5 os).forCall (fun _ _ => 0) ⟨#[], #[.slice none 0 0, .slice none 0 0], []⟩).memory Tryd.f4.params.toList Rows.emitPairsSpec.vars false (#[.slice none 0 0, .slice none 0 0] : Array Value).toList 8 = some ([.nil, .nil], [], places) :=
 ⟨[], by kernel_rfl⟩
set_option maxRecDepth 100000 in
theorem emitPairs_lifted (os : Os) (started : os.Started) (H : Type) (enc : TypeId × Value → H) (F : Stop.Interp) :
 ReturnsInHanded {} Tryd.checked os 4 .any ((OpenSpec.ofChange Rows.emitPairsSpec).preRow enc Tryd.prog Tryd.f4 Rows.emitPairsRow.domain false Rows.emitPairsRow.laid) (((OpenSpec.ofChange Rows.emitPairsSpec).at F).post enc Tryd.prog Tryd.f4 false true false false) := by
 obtain ⟨places, hx⟩ := emitPairs_reads os enc
 refine returnsInHanded_of_row (C := Tryd.checked) (s := OpenSpec.ofChange Rows.emitPairsSpec) ownP started (by kernel_rfl) Tryd.func4
  (witness_row_at (enc := enc) (C := Tryd.checked) false (laidWorld5 os) #[.slice none 0 0, .slice none 0 0] rfl (by kernel_rfl) (by kernel_rfl) (by kernel_rfl)
   (OpenSpec.preRow_of_cond 8 hx (by kernel_rfl) (fun k hk => by cases hk) (by kernel_rfl) (emitPairs_met os))) ?_
 intro W base args ds gs before hval hW _ _ hreach hL _ _; exact emitPairs_contract H enc W base args ds gs before hval hW hL hreach
set_option maxRecDepth 100000 in
theorem emitPairs_said : Rows.EmitPairsSaid :=
 OpenClaim.holds_of_cond 4 Tryd.f4 rfl rfl rfl rfl rfl rfl rfl ⟨rfl, rfl, rfl, rfl, rfl⟩ rfl rfl rfl rfl rfl (by kernel_rfl) Tryd.func4 (by kernel_rfl)
  (of_decide_eq_true (by kernel_rfl)) (by unfold Func.isWrapper; first | (rw [if_pos (by decide +kernel)]; kernel_rfl) | (rw [if_neg (by decide +kernel)]; exact ⟨rfl, rfl⟩))
  (fun os started H enc _ F => by rw [OpenClaim.pre_eq_preRow]; exact emitPairs_lifted os started H enc F)
set_option maxRecDepth 100000 in
theorem emitPairs_plain (f : FuncId) (fn : Func) (hf : Tryd.pinned.checked.prog.funcNamed "bolthole/boltholekeep.EmitPairs" = some f) (hfn : Tryd.pinned.checked.prog.funcs[f]? = some fn) :
 ∀ (j : Nat) t, fn.params[j]? = some t → Tryd.pinned.checked.prog.wantsStandIn t = false := by
 obtain rfl : f = 4 := Option.some.inj ((show Tryd.prog.funcNamed "bolthole/boltholekeep.EmitPairs" = some 4 by kernel_rfl).symm.trans hf) |>.symm; obtain rfl : fn = Tryd.f4 := (Option.some.inj (Tryd.func4.symm.trans hfn)).symm; intro j t ht
 have hall : ∀ t ∈ Tryd.f4.params, Tryd.prog.wantsStandIn t = false := by
  rw [Tryd.params4]; intro t ht; simp only [List.mem_toArray, List.mem_cons, List.not_mem_nil, or_false] at ht; rcases ht with rfl | rfl
  all_goals kernel_rfl
 exact hall t (Array.mem_of_getElem? ht)
set_option maxRecDepth 100000 in
theorem emitPairs_card : Rows.EmitPairsCardSaid :=
 Claim7.holds_tied_plain_at .later [] _ _ _ _ emitPairs_said (fun _ h => by cases h) (by kernel_rfl) (fun _ h => by cases h) emitPairs_row_tie rfl ⟨rfl, rfl⟩ (by kernel_rfl) rfl (fun f fn hf hfn => ⟨by kernel_rfl, emitPairs_plain f fn hf hfn⟩) (by kernel_rfl)
end Go.Proofs.YtcafhoobeggmeaaDoor
