/- The given statement on EmitCalls, proved: a call leads to the function with the same name. No condition of its own. -/
import Derived.Test.YtcafhoobeggmeaaDoorLawS
import Derived.Test.YtcafhoobeggmeaaDoorEmV
import Derived.Test.YtcafhoobeggmeaaDoorEmNm
import Derived.Deep.DeepCutAuto
import Derived.Deep.CutBlock
import Derived.Deep.LoopGhost
import Derived.Deep.QuietTactic
import Derived.BigQuiet
import Derived.IntWalk
import Derived.WalkLawsBesides
namespace Go.Proofs.YtcafhoobeggmeaaDoor
open Go.ChangeShapes Go.WideShapes Go.ChangeAt Go.RowKit Go.Joins
open Go.ChangeMaps (open_string)
set_option maxHeartbeats 8000000 in
set_option maxRecDepth 100000 in
theorem emitCalls_walk (l : List RawI) (A : Option Addr) (c : Nat) (Ls : List Int) (oA : Option Addr) (oc : Nat) (w : World) (hT : Tabs w) (hR : RdR w w.heap.size A l) (hl : l.length ≤ 140737488355328) (hc : l.length ≤ c) (hN : ∀ x ∈ Ls, N64 x) (hR2 : RdG w w.heap.size oA (intsV .i64 Ls)) (hl2 : Ls.length ≤ 140737488355328) (hc2 : Ls.length ≤ oc) :
 Calls Tryd.prog 7 #[.slice A l.length c, .slice oA Ls.length oc] w fun e w' => e = .returned (.bool true) ∧ Below w.heap.size w w' := by
 have HTL := hd' (emitTells_any w hT); have HFW : Hid (∀ W, Below w.heap.size w W → Calls Tryd.prog 14 #[.slice A l.length c] W (FlwPost W l)) := hd' fun W hW => flowed_any l A c W (hT.below hW) ((hR.below hW).more hW.size) hc hl
 have HT := hd' hT; have HR2 := hd' hR2; have HN := hd' hN; have HLC := hd' (And.intro hl2 hc2); obtain ⟨ll, hll⟩ := ex' l.length
 obtain ⟨lo, hlo⟩ := ex' Ls.length
 rw [hll] at HFW ⊢; rw [hlo]; have HLO := hd' hlo; clear hT hR hl hc hll hlo hN hR2 hl2 hc2
 go_enter Tryd.func7, Tryd.ntmps7
 go_wp2_with fail
 refine HTL.out.mono ?_; rintro e w0 ⟨rfl, hb0⟩; have HB0 := hd' hb0; clear hb0 HTL
 go_wp2_with fail
 refine (HFW.out _ HB0.out).mono ?_; rintro e w1 ⟨hb1, m, v, d, xA, yA, zA, xc, yc, zc, rfl, hst⟩; have hb1w : Below w.heap.size w w1 := (HB0.out.trans (hb1.mono HB0.out.size))
 have HB1 := hd' hb1w; have HST := hd' hst; have HTXT := hd' hst.pgm.text; obtain ⟨P, hP⟩ := ex' (shL d Ls)
 have ho := shL_good hst.sizes.2.2.2.2 Ls; rw [hP] at ho; obtain ⟨x, hx⟩ := ex' (emL m d P)
 have HPE := hd' hP; have HXE := hd' hx; have HO := hd' ho; obtain ⟨tA, tc, fA, fc, bA, bc, dA, dc, lA, lc⟩ := v; unfold Img.val flowV; simp only; obtain ⟨T, hTe⟩ := ex' m.text.length
 obtain ⟨NF, hNF⟩ := ex' m.funcs.length
 obtain ⟨nb, hnb⟩ := ex' m.tables.length
 obtain ⟨nd, hnd⟩ := ex' m.data.length
 obtain ⟨nl, hnl⟩ := ex' m.lines.length
 obtain ⟨NB, hNB⟩ := ex' d.blocks.length
 obtain ⟨nt, hnt⟩ := ex' d.tables.length
 obtain ⟨nz, hnz⟩ := ex' d.firsts.length
 obtain ⟨NP, hNP⟩ := ex' P.length
 have HSH : Hid (∀ W, Below w1.heap.size w1 W → Calls Tryd.prog 16 #[.agg #[.slice xA NB xc, .slice yA nt yc, .slice zA nz zc], .slice oA lo oc] W (ShfPost W d Ls)) := hd' fun W hW => by
  have h := shuf_st (hst.below hW) Ls oA oc ((HR2.out.below (hb1w.trans (hW.mono hb1w.size))).more (Nat.le_trans hb1w.size hW.size)) HLC.out.2 HLC.out.1 HN.out; unfold flowV at h; rw [hNB, hnt, hnz, HLO.out] at h; exact h
 have HEM : Hid (∀ W A c, Below w1.heap.size w1 W → PartsRd W A c P → Calls Tryd.prog 15 #[.agg #[.slice tA T tc, .slice fA NF fc, .slice bA nb bc, .slice dA nd dc, .slice lA nl lc, .int .i64 m.entry], .slice A NP c] W (EmPost W m d P)) := hd' fun W A c hW hq => by
  have h := emit_st (hst.below hW) (HT.out.below (hb1w.trans (hW.mono hb1w.size))) hq ho; unfold Img.val at h; simp only at h; rw [hTe, hNF, hnb, hnd, hnl, hNP] at h; exact h
 rw [hTe, hNF, hnb, hnd, hnl, hNB, hnt, hnz]; have HNP := hd' hNP; have HTE := hd' hTe; have HNF := hd' hNF; have HN5 := hd' (And.intro hnb (And.intro hnd hnl)); have HNB := hd' hNB; clear hTe hnl hnb hnd hNB hnt hnz hNF hNP hst hP hx ho hb1 hb1w; have hcode := emL_code HST.out.pgm.check HST.out.rc HO.out; have hby := hcode.bytes; have hfw := hcode.few; rw [HXE.out] at hby hfw; have HBY := hd' hby; have HFWX := hd' hfw; clear hcode hby hfw HFW HB0 HR2 HN HLC HLO
 go_upto_region 4 with fail
 obtain ⟨X, hX⟩ := ex' (w1.alloc (.cells #[.slice tA T tc, .slice fA NF fc, .slice bA nb bc, .slice dA nd dc, .slice lA nl lc, .int .i64 m.entry] 42))
 rw [hX]; have hm1 : Blk X w1.heap.size 42 [.slice tA T tc, .slice fA NF fc, .slice bA nb bc, .slice dA nd dc, .slice lA nl lc, .int .i64 m.entry] := by rw [← hX]; exact Blk.new w1 _ _
 have hbX : Below w1.heap.size w1 X := by rw [← hX]; exact (Below.refl _ _).alloc lr' _
 have hxs : X.heap.size = w1.heap.size + 1 := by rw [← hX]; simp
 obtain ⟨Y, hY⟩ := ex' (X.alloc (.cells #[.slice xA NB xc, .slice yA nt yc, .slice zA nz zc] 45))
 rw [hY]; have hfY : Blk Y (w1.heap.size + 1) 45 [.slice xA NB xc, .slice yA nt yc, .slice zA nz zc] := by rw [← hY, ← hxs]; exact Blk.new X _ _
 have hbY : Below X.heap.size X Y := by rw [← hY]; exact (Below.refl _ _).alloc lr' _
 have hmY := hm1.keep hbY; have hbWY := hbX.trans (hbY.mono hbX.size); obtain ⟨BX, hBX⟩ := ex' w1.heap.size
 have HWY := hd' hbWY; rw [hBX] at hfY hmY ⊢; have HMY := hd' hmY; have HFY := hd' hfY; have HSHY : Hid (∀ W, Below Y.heap.size Y W → _) := hd' fun W hW => HSH.out W (hbWY.trans (hW.mono hbWY.size))
 have HEMY : Hid (∀ W A c, Below Y.heap.size Y W → _) := hd' fun W A c hW => HEM.out W A c (hbWY.trans (hW.mono hbWY.size))
 have m0 := hmY.cell 0 rfl; have m1 := hmY.cell 1 rfl; have m2 := hmY.cell 2 rfl; have m3 := hmY.cell 3 rfl; have m4 := hmY.cell 4 rfl; have m5 := hmY.cell 5 rfl; have f0 := hfY.cell 0 rfl; have f1 := hfY.cell 1 rfl; have f2 := hfY.cell 2 rfl; clear hX hY hm1 hbX hbY hmY hbWY hxs hBX hfY HSH HEM
 go_cut [8, 9, 10] (fun s8 s9 s10 wx => ∃ (z : Nat) (v2 : ImgV) (eA : Option Addr) (en ec : Nat) (ps : List (Int × Int)), s8 = .pointer (some ⟨z, 0, none⟩) ∧ s9 = .slice eA en ec ∧ s10 = .int .i64 0 ∧ Hid (EmVar Y wx z x (emIts d P) v2 eA en ec ps))
 case first =>
  refine wp_region_W (fun w' => w'.cell? ⟨BX, 0, none⟩ = some (.slice tA T tc) ∧ w'.cell? ⟨BX, 1, none⟩ = some (.slice fA NF fc) ∧ w'.cell? ⟨BX, 2, none⟩ = some (.slice bA nb bc) ∧ w'.cell? ⟨BX, 3, none⟩ = some (.slice dA nd dc) ∧ w'.cell? ⟨BX, 4, none⟩ = some (.slice lA nl lc) ∧ w'.cell? ⟨BX, 5, none⟩ = some (.int .i64 m.entry) ∧ w'.cell? ⟨BX + 1, 0, none⟩ = some (.slice xA NB xc) ∧ w'.cell? ⟨BX + 1, 1, none⟩ = some (.slice yA nt yc) ∧ w'.cell? ⟨BX + 1, 2, none⟩ = some (.slice zA nz zc)) 13 (by kernel_rfl) (by (try dsimp only); go_keep) (fun zH => ?_)
  have hbD : Below Y.heap.size Y Y.drew := (Below.refl _ _).drew; refine wq 0 zH ?_; refine wq 1 zH ?_; refine wq 2 zH ?_; refine wpW_all [3, 9] (by kernel_rfl) (by simp) ?_; refine AllW.cons (i := 3) rfl (fun K hK => ?_) ?_
  · skip
    go_simp
    refine (HSHY.out Y.drew hbD).mono ?_; rintro e w3 ⟨hb3, pA, pc, lv, rfl, hlv, hpr, hpb⟩; rw [HPE.out] at hlv; have hpt := shf_parts hlv hpr hpb; rw [show lv.length = NP by rw [← HNP.out, ← hlv, List.length_map]]; clear hpr hpb hlv; have hbX3 : Below Y.heap.size Y w3 := hbD.trans (hb3.mono hbD.size); obtain ⟨y3_0, y3_1, y3_2, y3_3, y3_4, y3_5, y3_6, y3_7, y3_8⟩ := mf_keep hbX3 HMY.out HFY.out; refine hK.out _ _ (by (try dsimp only); go_keep) (fun zH => ?_); clear hK K; (try simp only [putE]); refine wpW_all [4, 9] (by kernel_rfl) (by simp) ?_
    refine AllW.cons (i := 4) rfl (fun K hK => ?_) ?_
    · skip
      go_simp
      have hpe := hpt; refine (HEMY.out w3 pA pc hbX3 hpe).mono ?_; rintro e w4 ⟨hb4, ⟨tA2, tc2, fA2, fc2, bA2, bc2, dA2, dc2, lA2, lc2⟩, eA, en, ec, ps, rfl, hown, hpl, hprs, hpk⟩; rw [HXE.out] at hown ⊢; unfold Img.val; simp only; have hbX4 : Below Y.heap.size Y w4 := hbX3.trans (hb4.mono hbX3.size); obtain ⟨y4_0, y4_1, y4_2, y4_3, y4_4, y4_5, y4_6, y4_7, y4_8⟩ := mf_keep hbX4 HMY.out HFY.out; refine hK.out _ _ (by (try dsimp only); go_keep) (fun zH => ?_); clear hK K; (try simp only [putE]); refine wq 5 zH ?_; refine wq 6 zH ?_
      refine wq 7 zH ?_; refine wq 8 zH ?_; refine wpW_one 9 rfl (by kernel_rfl) (fun K hK => ?_)
      go_simp
      have zb0 : Blk (w4.alloc (.cells #[.slice none 0 0, .slice none 0 0, .slice none 0 0, .slice none 0 0, .slice none 0 0, .int .i64 0] 42)) (w4.heap.size) 42 [.slice none 0 0, .slice none 0 0, .slice none 0 0, .slice none 0 0, .slice none 0 0, .int .i64 0] := Blk.new w4 _ _; have hbA : Below Y.heap.size Y (w4.alloc (.cells #[.slice none 0 0, .slice none 0 0, .slice none 0 0, .slice none 0 0, .slice none 0 0, .int .i64 0] 42)) := hbX4.alloc (hbX4.size) _; have hneA0 : ¬ w4.heap.size = BX := by have h1 := hbX4.size; have h2 := HMY.out.lt; omega
      have hneA1 : ¬ w4.heap.size = BX + 1 := by have h1 := hbX4.size; have h2 := HFY.out.lt; omega
      refine hK.out _ _ (by (try dsimp only); go_keep) (fun zH => ?_); clear hK K; (try simp only [putE]); refine wpW_one 10 rfl (by kernel_rfl) (fun K hK => ?_)
      go_simp
      refine hK.out _ _ (by (try dsimp only); go_keep) (fun zH => ?_); clear hK K; (try simp only [putE]); refine wq 11 zH ?_; refine wq 12 zH ?_; refine wpW_done (by kernel_rfl) ?_ _; have hev := emVar_new (v := ⟨tA2, tc2, fA2, fc2, bA2, bc2, dA2, dc2, lA2, lc2⟩) hbX4 hown hpl hprs hpk
      dsimp only at hev
      go_wp2
      go_meet
      exact ⟨_, ⟨tA2, tc2, fA2, fc2, bA2, bc2, dA2, dc2, lA2, lc2⟩, eA, en, ec, ps, rfl, rfl, rfl, hd' hev⟩
    refine AllW.cons (i := 9) rfl (fun K hK => ?_) AllW.nil
    go_simp
    have zb0 : Blk (w3.alloc (.cells #[.slice none 0 0, .slice none 0 0, .slice none 0 0, .slice none 0 0, .slice none 0 0, .int .i64 0] 42)) (w3.heap.size) 42 [.slice none 0 0, .slice none 0 0, .slice none 0 0, .slice none 0 0, .slice none 0 0, .int .i64 0] := Blk.new w3 _ _; have hbA : Below Y.heap.size Y (w3.alloc (.cells #[.slice none 0 0, .slice none 0 0, .slice none 0 0, .slice none 0 0, .slice none 0 0, .int .i64 0] 42)) := hbX3.alloc (hbX3.size) _; have hneA0 : ¬ w3.heap.size = BX := by have h1 := hbX3.size; have h2 := HMY.out.lt; omega
    have hneA1 : ¬ w3.heap.size = BX + 1 := by have h1 := hbX3.size; have h2 := HFY.out.lt; omega
    refine hK.out _ _ (by (try dsimp only); go_keep) (fun zH => ?_); clear hK K; (try simp only [putE]); refine wpW_one 4 rfl (by kernel_rfl) (fun K hK => ?_)
    go_simp
    have hpe : PartsRd (w3.alloc (.cells #[.slice none 0 0, .slice none 0 0, .slice none 0 0, .slice none 0 0, .slice none 0 0, .int .i64 0] 42)) pA pc P := hpt.below ((Below.refl w3.heap.size w3).alloc lr' _); refine (HEMY.out (w3.alloc (.cells #[.slice none 0 0, .slice none 0 0, .slice none 0 0, .slice none 0 0, .slice none 0 0, .int .i64 0] 42)) pA pc hbA hpe).mono ?_; rintro e w4 ⟨hb4, ⟨tA2, tc2, fA2, fc2, bA2, bc2, dA2, dc2, lA2, lc2⟩, eA, en, ec, ps, rfl, hown, hpl, hprs, hpk⟩; rw [HXE.out] at hown ⊢; unfold Img.val; simp only
    have hbX4 : Below Y.heap.size Y w4 := hbA.trans (hb4.mono hbA.size); obtain ⟨y4_0, y4_1, y4_2, y4_3, y4_4, y4_5, y4_6, y4_7, y4_8⟩ := mf_keep hbX4 HMY.out HFY.out; have zb5 := zb0.keep hb4; have zc4_0 := zb5.cell 0 rfl; have zf4_0 := zb5.free 0; have zc4_1 := zb5.cell 1 rfl; have zf4_1 := zb5.free 1; have zc4_2 := zb5.cell 2 rfl; have zf4_2 := zb5.free 2; have zc4_3 := zb5.cell 3 rfl; have zf4_3 := zb5.free 3; have zc4_4 := zb5.cell 4 rfl; have zf4_4 := zb5.free 4; have zc4_5 := zb5.cell 5 rfl; have zf4_5 := zb5.free 5; have zl4 := zb5.lt
    refine hK.out _ _ (by (try dsimp only); go_keep) (fun zH => ?_); clear hK K; (try simp only [putE]); refine wq 5 zH ?_; refine wq 6 zH ?_; refine wq 7 zH ?_; refine wq 8 zH ?_; refine wpW_one 10 rfl (by kernel_rfl) (fun K hK => ?_)
    go_simp
    refine hK.out _ _ (by (try dsimp only); go_keep) (fun zH => ?_); clear hK K; (try simp only [putE]); refine wq 11 zH ?_; refine wq 12 zH ?_; refine wpW_done (by kernel_rfl) ?_ _; have hev := emVar_old (v := ⟨tA2, tc2, fA2, fc2, bA2, bc2, dA2, dc2, lA2, lc2⟩) zb5 hbX4 hbX3.size zb0.lt hown hpl hprs hpk
    dsimp only at hev
    go_wp2
    go_meet
    exact ⟨_, ⟨tA2, tc2, fA2, fc2, bA2, bc2, dA2, dc2, lA2, lc2⟩, eA, en, ec, ps, rfl, rfl, rfl, hd' hev⟩
  refine AllW.cons (i := 9) rfl (fun K hK => ?_) AllW.nil
  go_simp
  have zb0 : Blk (Y.alloc (.cells #[.slice none 0 0, .slice none 0 0, .slice none 0 0, .slice none 0 0, .slice none 0 0, .int .i64 0] 42)).drew (Y.heap.size) 42 [.slice none 0 0, .slice none 0 0, .slice none 0 0, .slice none 0 0, .slice none 0 0, .int .i64 0] := Blk.drew (Blk.new Y _ _); have hbA : Below Y.heap.size Y (Y.alloc (.cells #[.slice none 0 0, .slice none 0 0, .slice none 0 0, .slice none 0 0, .slice none 0 0, .int .i64 0] 42)).drew := ((Below.refl _ _).alloc lr' _).drew
  have hneA0 : ¬ Y.heap.size = BX := by have h1 := hbD.size; have h2 := HMY.out.lt; omega
  have hneA1 : ¬ Y.heap.size = BX + 1 := by have h1 := hbD.size; have h2 := HFY.out.lt; omega
  refine hK.out _ _ (by (try dsimp only); go_keep) (fun zH => ?_); clear hK K; (try simp only [putE]); refine wpW_one 3 rfl (by kernel_rfl) (fun K hK => ?_)
  go_simp
  refine (HSHY.out (Y.alloc (.cells #[.slice none 0 0, .slice none 0 0, .slice none 0 0, .slice none 0 0, .slice none 0 0, .int .i64 0] 42)).drew hbA).mono ?_; rintro e w3 ⟨hb3, pA, pc, lv, rfl, hlv, hpr, hpb⟩; rw [HPE.out] at hlv; have hpt := shf_parts hlv hpr hpb; rw [show lv.length = NP by rw [← HNP.out, ← hlv, List.length_map]]; clear hpr hpb hlv; have hbX3 : Below Y.heap.size Y w3 := hbA.trans (hb3.mono hbA.size); obtain ⟨y3_0, y3_1, y3_2, y3_3, y3_4, y3_5, y3_6, y3_7, y3_8⟩ := mf_keep hbX3 HMY.out HFY.out; have zb4 := zb0.keep hb3; have zc3_0 := zb4.cell 0 rfl
  have zf3_0 := zb4.free 0; have zc3_1 := zb4.cell 1 rfl; have zf3_1 := zb4.free 1; have zc3_2 := zb4.cell 2 rfl; have zf3_2 := zb4.free 2; have zc3_3 := zb4.cell 3 rfl; have zf3_3 := zb4.free 3; have zc3_4 := zb4.cell 4 rfl; have zf3_4 := zb4.free 4; have zc3_5 := zb4.cell 5 rfl; have zf3_5 := zb4.free 5; have zl3 := zb4.lt; refine hK.out _ _ (by (try dsimp only); go_keep) (fun zH => ?_); clear hK K; (try simp only [putE]); refine wpW_one 4 rfl (by kernel_rfl) (fun K hK => ?_)
  go_simp
  have hpe := hpt; refine (HEMY.out w3 pA pc hbX3 hpe).mono ?_; rintro e w4 ⟨hb4, ⟨tA2, tc2, fA2, fc2, bA2, bc2, dA2, dc2, lA2, lc2⟩, eA, en, ec, ps, rfl, hown, hpl, hprs, hpk⟩; rw [HXE.out] at hown ⊢; unfold Img.val; simp only; have hbX4 : Below Y.heap.size Y w4 := hbX3.trans (hb4.mono hbX3.size); obtain ⟨y4_0, y4_1, y4_2, y4_3, y4_4, y4_5, y4_6, y4_7, y4_8⟩ := mf_keep hbX4 HMY.out HFY.out; have zb5 := zb4.keep hb4; have zc4_0 := zb5.cell 0 rfl; have zf4_0 := zb5.free 0; have zc4_1 := zb5.cell 1 rfl; have zf4_1 := zb5.free 1; have zc4_2 := zb5.cell 2 rfl; have zf4_2 := zb5.free 2
  have zc4_3 := zb5.cell 3 rfl; have zf4_3 := zb5.free 3; have zc4_4 := zb5.cell 4 rfl; have zf4_4 := zb5.free 4; have zc4_5 := zb5.cell 5 rfl; have zf4_5 := zb5.free 5; have zl4 := zb5.lt; refine hK.out _ _ (by (try dsimp only); go_keep) (fun zH => ?_); clear hK K; (try simp only [putE]); refine wq 5 zH ?_; refine wq 6 zH ?_; refine wq 7 zH ?_; refine wq 8 zH ?_; refine wpW_one 10 rfl (by kernel_rfl) (fun K hK => ?_)
  go_simp
  refine hK.out _ _ (by (try dsimp only); go_keep) (fun zH => ?_); clear hK K; (try simp only [putE]); refine wq 11 zH ?_; refine wq 12 zH ?_; refine wpW_done (by kernel_rfl) ?_ _; have hev := emVar_old (v := ⟨tA2, tc2, fA2, fc2, bA2, bc2, dA2, dc2, lA2, lc2⟩) zb5 hbX4 lr' zb4.lt hown hpl hprs hpk
  dsimp only at hev
  go_wp2
  go_meet
  exact ⟨_, ⟨tA2, tc2, fA2, fc2, bA2, bc2, dA2, dc2, lA2, lc2⟩, eA, en, ec, ps, rfl, rfl, rfl, hd' hev⟩
 case rest =>
  obtain ⟨z, v2, eA, en, ec, ps, rfl, rfl, rfl, HEV⟩ := hcut; obtain ⟨tA2, tc2, fA2, fc2, bA2, bc2, dA2, dc2, lA2, lc2⟩ := v2
  rename World => wx
  have hcl := emL_calls HST.out.pgm.check HST.out.rc HO.out HEV.out.pok; have hxf := (emL_keep HST.out.pgm.check HST.out.rc HO.out).funcs; rw [HXE.out] at hcl hxf; have HCL := hd' hcl; have HXF := hd' hxf; clear m0 m1 m2 m3 m4 m5 f0 f1 f2 HSHY HEMY hcl hxf; obtain ⟨T2, hT2⟩ := ex' x.text.length
  obtain ⟨nf2, hnf2⟩ := ex' x.funcs.length
  obtain ⟨nb2, hnb2⟩ := ex' x.tables.length
  obtain ⟨nd2, hnd2⟩ := ex' x.data.length
  obtain ⟨nl2, hnl2⟩ := ex' x.lines.length
  have HT2 := hd' hT2; have HBW : Hid (∀ W, Below wx.heap.size wx W → Below w1.heap.size w1 W) := hd' fun W hW => (HWY.out.trans (HEV.out.bel.mono HWY.out.size)).trans (hW.mono (Nat.le_trans HWY.out.size HEV.out.bel.size))
  have HTB : Hid (∀ W, Below wx.heap.size wx W → Tabs W) := hd' fun W hW => HT.out.below (HB1.out.trans ((HBW.out W hW).mono HB1.out.size))
  have HX0 : Hid (Blk wx z 42 [.slice tA2 T2 tc2, .slice fA2 nf2 fc2, .slice bA2 nb2 bc2, .slice dA2 nd2 dc2, .slice lA2 nl2 lc2, .int .i64 x.entry]) := hd' (by
   have h := HEV.out.blk; simp only [hT2, hnf2, hnb2, hnd2, hnl2] at h
   exact h)
  have HMX := hd' (HMY.out.keep HEV.out.bel)
  have HD1 : Hid (∀ (p : Int) (i : Ins) (s : Int) W, decB m.text p = (i, s, 0) → Below wx.heap.size wx W → Calls Tryd.prog 17 #[.slice tA T tc, .int .i64 p] W fun e w' => e = .returned (.tuple #[.agg #[.int .i64 i.k, .int .i64 i.d, .int .i64 i.a, .int .i64 i.b, .int .i64 i.n, .bool i.l], .int .i64 s, .int .i64 0]) ∧ Below W.heap.size W w') := hd' fun p i s W hp hW => by
   have hs := HST.out.below (HBW.out W hW); have hdc := decode_any m.text tA T tc p W (HTB.out W hW) HTE.out.symm (rdg_bytes hs.img.text hs.ok.tb) (by have h1 := HTXT.out; have h2 := HTE.out; omega) (by rw [← HTE.out]; exact hs.ok.tc); rw [hp] at hdc; exact hdc
  have HD2 : Hid (∀ (p : Int) (i : Ins) (s : Int) W, decB x.text p = (i, s, 0) → Below wx.heap.size wx W → Calls Tryd.prog 17 #[.slice tA2 T2 tc2, .int .i64 p] W fun e w' => e = .returned (.tuple #[.agg #[.int .i64 i.k, .int .i64 i.d, .int .i64 i.a, .int .i64 i.b, .int .i64 i.n, .bool i.l], .int .i64 s, .int .i64 0]) ∧ Below W.heap.size W w') := hd' fun p i s W hp hW => by
   have hdc := decode_any x.text tA2 T2 tc2 p W (HTB.out W hW) hT2.symm (rdg_bytes ((HEV.out.img.text.below hW).more hW.size) HBY.out) (by have h1 := HTXT.out; have h2 := HFWX.out; omega) (by have h := HEV.out.cap; rw [hT2] at h; exact h); rw [hp] at hdc; exact hdc
  have HL1 : Hid (∀ (a : Int) (R : ByteArray) W, nmF m.funcs a = R → Below wx.heap.size wx W → Calls Tryd.prog 21 #[.agg #[.slice tA T tc, .slice fA NF fc, .slice bA nb bc, .slice dA nd dc, .slice lA nl lc, .int .i64 m.entry], .int .i64 a] W fun e w' => e = .returned (.string R) ∧ Below W.heap.size W w') := hd' fun a R W hR hW => by
   have hs := HST.out.below (HBW.out W hW); have h := nm_any m ⟨tA, tc, fA, fc, bA, bc, dA, dc, lA, lc⟩ a W hs.img hs.ok.fl hs.ok.fc; unfold Img.val at h; simp only [HTE.out, HNF.out, HN5.out.1, HN5.out.2.1, HN5.out.2.2] at h; rw [hR] at h; exact h
  have HL2 : Hid (∀ (a : Int) (R : ByteArray) W, nmF x.funcs a = R → Below wx.heap.size wx W → Calls Tryd.prog 21 #[.agg #[.slice tA2 T2 tc2, .slice fA2 nf2 fc2, .slice bA2 nb2 bc2, .slice dA2 nd2 dc2, .slice lA2 nl2 lc2, .int .i64 x.entry], .int .i64 a] W fun e w' => e = .returned (.string R) ∧ Below W.heap.size W w') := hd' fun a R W hR hW => by
   have h := nm_any x ⟨tA2, tc2, fA2, fc2, bA2, bc2, dA2, dc2, lA2, lc2⟩ a W ((HEV.out.img.below hW).more hW.size) (by have h1 := HXF.out; have h2 := HST.out.ok.fl; omega) HEV.out.fcap; unfold Img.val at h; simp only [hT2, hnf2, hnb2, hnd2, hnl2] at h; rw [hR] at h; exact h
  have HEN := hd' HEV.out.len
  have hE64 : en ≤ 3000000 := by
   have h2 := sum_bd (fun b : BlkD => b.ats.length) 1600 d.blocks (blk_len HST.out); have h1 := HST.out.sizes.1; have h4 := (emL_prs HST.out.pgm.check HST.out.rc HO.out HEV.out.pok).cnt.2; have h5 := HEN.out.1; omega
  clear hT2 hnf2 hnb2 hnd2 hnl2
  go_wp2_with fail
  go_loopg [45] en (fun gk s wr => ∃ j : Nat, j ≤ en ∧ s = .int .i64 j ∧ Hid (Below wx.heap.size wx wr) ∧ en - j ≤ gk)
  case atStart => exact ⟨0, Nat.zero_le _, rfl, hd' (Below.refl _ _), Nat.le_refl _⟩
  case round =>
   obtain ⟨j, hj, rfl, HBj, hgk⟩ := hrel
   by_cases hlt : j < en
   · have hltI : (j : Int) < (en : Int) := by omega
     have hec : en ≤ ec := HEN.out.2; have hpj : ps[j]? = some (ps[j]'(by have := HEN.out.1; omega)) := gE' _; generalize ps[j]'(by have := HEN.out.1; omega) = p at hpj; obtain ⟨po, pn⟩ := p; obtain ⟨b, o, hA, hbl, e0, e1⟩ := (HEV.out.prs.below HBj.out).at2 hpj; obtain ⟨⟨ik, id, ia, ib, inn, il⟩, ⟨jk, jd, ja, jb, jnn, jl⟩, s1, s2, d1, d2, p0, p1, p2, p3, hi1, hj1, hcall⟩ := HCL.out (po, pn) (mG' hpj); have hin := (chk_n hi1).1; have hjn := (chk_n hj1).1; simp only at e0 e1 d1 d2 p0 p1 p2 p3 hcall hin hjn; have HKK := hd' hcall
     have HPB := hd' (And.intro p0 (And.intro p1 (And.intro p2 (And.intro p3 (And.intro hin (And.intro hjn (And.intro HTXT.out HFWX.out))))))); have HDJ : Hid (∀ W, Below wx.heap.size wx W → Calls Tryd.prog 17 #[.slice tA T tc, .int .i64 po] W fun e w' => e = .returned (.tuple #[.agg #[.int .i64 ik, .int .i64 id, .int .i64 ia, .int .i64 ib, .int .i64 inn, .bool il], .int .i64 s1, .int .i64 0]) ∧ Below W.heap.size W w') := hd' fun W hW => HD1.out po _ s1 W d1 hW
     have HDK : Hid (∀ W, Below wx.heap.size wx W → Calls Tryd.prog 17 #[.slice tA2 T2 tc2, .int .i64 pn] W fun e w' => e = .returned (.tuple #[.agg #[.int .i64 jk, .int .i64 jd, .int .i64 ja, .int .i64 jb, .int .i64 jnn, .bool jl], .int .i64 s2, .int .i64 0]) ∧ Below W.heap.size W w') := hd' fun W hW => HD2.out pn _ s2 W d2 hW
     subst hA; clear hpj d1 d2 hcall p0 p1 p2 p3 hbl hi1 hj1 hin hjn
     go_upto_region 11 with fail
     obtain ⟨Z, hZ⟩ := ex' (wr.alloc (.cells #[.int .i64 po, .int .i64 pn] 59))
     rw [hZ]; have hz : Blk Z wr.heap.size 59 [.int .i64 po, .int .i64 pn] := by rw [← hZ]; exact Blk.new wr _ _
     have hbZ : Below wr.heap.size wr Z := by rw [← hZ]; exact (Below.refl _ _).alloc lr' _
     obtain ⟨BP, hBP⟩ := ex' wr.heap.size
     have HBZ := hd' (HBj.out.trans (hbZ.mono HBj.out.size)); rw [hBP] at hz ⊢; have HZ := hd' hz; have HMZ := hd' (HMX.out.keep HBZ.out); have k0 := HMZ.out.cell 0 rfl; have kl := HMZ.out.lt; have pz0 := hz.cell 0 rfl; have pzl := hz.lt; clear hZ hz hbZ hBP e0 e1
     go_wp2_with fail
     refine (HDJ.out _ HBZ.out).mono ?_; rintro e w5 ⟨rfl, hb5⟩; have HB5 := hd' hb5; clear hb5 k0 kl pz0 pzl
     go_upto_region 12 with fail
     obtain ⟨Z1, hZ1⟩ := ex' (w5.alloc (.cells #[.int .i64 ik, .int .i64 id, .int .i64 ia, .int .i64 ib, .int .i64 inn, .bool il] 55))
     rw [hZ1]; have hi1 : Blk Z1 w5.heap.size 55 [.int .i64 ik, .int .i64 id, .int .i64 ia, .int .i64 ib, .int .i64 inn, .bool il] := by rw [← hZ1]; exact Blk.new w5 _ _
     have hb1 : Below Z.heap.size Z Z1 := by rw [← hZ1]; exact HB5.out.alloc HB5.out.size _
     have HBZ1 := hd' (HBZ.out.trans (hb1.mono HBZ.out.size)); obtain ⟨BA, hBA⟩ := ex' w5.heap.size
     rw [hBA] at hi1 ⊢; have HI1 := hd' hi1; have HXZ := hd' (HX0.out.keep HBZ1.out); have HZ1P := hd' (HZ.out.keep hb1); have k0 := HXZ.out.cell 0 rfl; have kl := HXZ.out.lt; have pz1 := HZ1P.out.cell 1 rfl; have pzl := HZ1P.out.lt; clear hZ1 hi1 hb1 hBA
     go_wp2_with fail
     refine (HDK.out _ HBZ1.out).mono ?_; rintro e w6 ⟨rfl, hb6⟩; have HB6 := hd' hb6; clear hb6 k0 kl pz1 pzl
     go_upto_region 13 with fail
     obtain ⟨Z2, hZ2⟩ := ex' (w6.alloc (.cells #[.int .i64 jk, .int .i64 jd, .int .i64 ja, .int .i64 jb, .int .i64 jnn, .bool jl] 55))
     rw [hZ2]; have hi2 : Blk Z2 w6.heap.size 55 [.int .i64 jk, .int .i64 jd, .int .i64 ja, .int .i64 jb, .int .i64 jnn, .bool jl] := by rw [← hZ2]; exact Blk.new w6 _ _
     have hb2 : Below Z1.heap.size Z1 Z2 := by rw [← hZ2]; exact HB6.out.alloc HB6.out.size _
     have HBZ2 := hd' (HBZ1.out.trans (hb2.mono HBZ1.out.size)); obtain ⟨BB, hBB⟩ := ex' w6.heap.size
     rw [hBB] at hi2 ⊢; have hia := HI1.out.keep hb2; have HMZ2 := hd' (HMX.out.keep HBZ2.out); have HXZ2 := hd' (HX0.out.keep HBZ2.out); have HZ2P := hd' (HZ1P.out.keep hb2); have g14 := hia.cell 0 rfl; have g15 := hia.cell 4 rfl; have al := hia.lt; have g16 := hi2.cell 4 rfl; have g17 := hi2.cell 0 rfl; have bl2 := hi2.lt; clear hZ2 hi2 hia hb2 hBB HDJ HDK
     by_cases hk : ik = 23
     · obtain ⟨rfl, hne, hnm⟩ := HKK.out hk; subst hk; obtain ⟨R, hR⟩ := ex' (nmF m.funcs (po + inn))
       rw [hR] at hne hnm; obtain ⟨t1, ht1⟩ := ex' (po + inn)
       obtain ⟨t2, ht2⟩ := ex' (pn + jnn)
       rw [ht1] at hR; rw [ht2] at hnm; have qw1 : IntKind.i64.wrap (po + inn) = t1 := by have h := HPB.out; rw [IntWalk.i64_in _ (by omega)]; exact ht1
       have qw2 : IntKind.i64.wrap (pn + jnn) = t2 := by have h := HPB.out; rw [IntWalk.i64_in _ (by omega)]; exact ht2
       have HLA : Hid (∀ W, Below Z2.heap.size Z2 W → _) := hd' fun W hW => HL1.out t1 R W hR (HBZ2.out.trans (hW.mono HBZ2.out.size))
       have HLB : Hid (∀ W, Below Z2.heap.size Z2 W → _) := hd' fun W hW => HL2.out t2 R W hnm (HBZ2.out.trans (hW.mono HBZ2.out.size))
       have qe : R.toList.isEmpty = false := hne; have g0 := HMZ2.out.cell 0 rfl; have g1 := HMZ2.out.cell 1 rfl; have g2 := HMZ2.out.cell 2 rfl; have g3 := HMZ2.out.cell 3 rfl; have g4 := HMZ2.out.cell 4 rfl; have g5 := HMZ2.out.cell 5 rfl; have g6 := HXZ2.out.cell 0 rfl; have g7 := HXZ2.out.cell 1 rfl; have g8 := HXZ2.out.cell 2 rfl; have g9 := HXZ2.out.cell 3 rfl; have g10 := HXZ2.out.cell 4 rfl; have g11 := HXZ2.out.cell 5 rfl; have g12 := HZ2P.out.cell 0 rfl; have g13 := HZ2P.out.cell 1 rfl; have ml := HMZ2.out.lt; have xl := HXZ2.out.lt; have pl := HZ2P.out.lt; clear hR hnm ht1 ht2
       go_upto_region 15 with fail
       go_cut [117] (fun s117 wy => s117 = .bool false ∧ Hid (Below Z2.heap.size Z2 wy))
       case first =>
        refine wp_region_W (fun w' => w'.cell? ⟨BX, 0, none⟩ = some (.slice tA T tc) ∧ w'.cell? ⟨BX, 1, none⟩ = some (.slice fA NF fc) ∧ w'.cell? ⟨BX, 2, none⟩ = some (.slice bA nb bc) ∧ w'.cell? ⟨BX, 3, none⟩ = some (.slice dA nd dc) ∧ w'.cell? ⟨BX, 4, none⟩ = some (.slice lA nl lc) ∧ w'.cell? ⟨BX, 5, none⟩ = some (.int .i64 m.entry) ∧ w'.cell? ⟨z, 0, none⟩ = some (.slice tA2 T2 tc2) ∧ w'.cell? ⟨z, 1, none⟩ = some (.slice fA2 nf2 fc2) ∧ w'.cell? ⟨z, 2, none⟩ = some (.slice bA2 nb2 bc2) ∧ w'.cell? ⟨z, 3, none⟩ = some (.slice dA2 nd2 dc2) ∧ w'.cell? ⟨z, 4, none⟩ = some (.slice lA2 nl2 lc2) ∧ w'.cell? ⟨z, 5, none⟩ = some (.int .i64 x.entry) ∧ w'.cell? ⟨BP, 0, none⟩ = some (.int .i64 po) ∧ w'.cell? ⟨BP, 1, none⟩ = some (.int .i64 pn) ∧ w'.cell? ⟨BA, 0, none⟩ = some (.int .i64 23) ∧ w'.cell? ⟨BA, 4, none⟩ = some (.int .i64 inn) ∧ w'.cell? ⟨BB, 4, none⟩ = some (.int .i64 jnn)) 33 (by kernel_rfl) (by (try dsimp only); go_keep) (fun zH => ?_)
        refine wq 0 zH ?_; refine wq 1 zH ?_; refine wq 2 zH ?_; refine wq 3 zH ?_; refine wq 4 zH ?_; refine wq 5 zH ?_; refine wq 6 zH ?_; refine wq 7 zH ?_; refine wq 8 zH ?_; refine wq 9 zH ?_; refine wq 10 zH ?_; refine wpW_one 11 rfl (by kernel_rfl) (fun K hK => ?_)
        go_simp
        refine (HLA.out _ ((Below.refl _ _).drew)).mono ?_; rintro e w7 ⟨rfl, hb7'⟩; have hb7 : Below Z2.heap.size Z2 w7 := ((Below.refl Z2.heap.size Z2).drew).trans hb7'; have y0 : w7.cell? ⟨BX, 0, none⟩ = some (.slice tA T tc) := (hb7.cell (p := ⟨BX, 0, none⟩) ml).trans g0; have y1 : w7.cell? ⟨BX, 1, none⟩ = some (.slice fA NF fc) := (hb7.cell (p := ⟨BX, 1, none⟩) ml).trans g1; have y2 : w7.cell? ⟨BX, 2, none⟩ = some (.slice bA nb bc) := (hb7.cell (p := ⟨BX, 2, none⟩) ml).trans g2; have y3 : w7.cell? ⟨BX, 3, none⟩ = some (.slice dA nd dc) := (hb7.cell (p := ⟨BX, 3, none⟩) ml).trans g3
        have y4 : w7.cell? ⟨BX, 4, none⟩ = some (.slice lA nl lc) := (hb7.cell (p := ⟨BX, 4, none⟩) ml).trans g4; have y5 : w7.cell? ⟨BX, 5, none⟩ = some (.int .i64 m.entry) := (hb7.cell (p := ⟨BX, 5, none⟩) ml).trans g5; have y6 : w7.cell? ⟨z, 0, none⟩ = some (.slice tA2 T2 tc2) := (hb7.cell (p := ⟨z, 0, none⟩) xl).trans g6; have y7 : w7.cell? ⟨z, 1, none⟩ = some (.slice fA2 nf2 fc2) := (hb7.cell (p := ⟨z, 1, none⟩) xl).trans g7; have y8 : w7.cell? ⟨z, 2, none⟩ = some (.slice bA2 nb2 bc2) := (hb7.cell (p := ⟨z, 2, none⟩) xl).trans g8
        have y9 : w7.cell? ⟨z, 3, none⟩ = some (.slice dA2 nd2 dc2) := (hb7.cell (p := ⟨z, 3, none⟩) xl).trans g9; have y10 : w7.cell? ⟨z, 4, none⟩ = some (.slice lA2 nl2 lc2) := (hb7.cell (p := ⟨z, 4, none⟩) xl).trans g10; have y11 : w7.cell? ⟨z, 5, none⟩ = some (.int .i64 x.entry) := (hb7.cell (p := ⟨z, 5, none⟩) xl).trans g11; have y12 : w7.cell? ⟨BP, 0, none⟩ = some (.int .i64 po) := (hb7.cell (p := ⟨BP, 0, none⟩) pl).trans g12; have y13 : w7.cell? ⟨BP, 1, none⟩ = some (.int .i64 pn) := (hb7.cell (p := ⟨BP, 1, none⟩) pl).trans g13
        have y14 : w7.cell? ⟨BA, 0, none⟩ = some (.int .i64 23) := (hb7.cell (p := ⟨BA, 0, none⟩) al).trans g14; have y15 : w7.cell? ⟨BA, 4, none⟩ = some (.int .i64 inn) := (hb7.cell (p := ⟨BA, 4, none⟩) al).trans g15; have y16 : w7.cell? ⟨BB, 4, none⟩ = some (.int .i64 jnn) := (hb7.cell (p := ⟨BB, 4, none⟩) bl2).trans g16; refine hK.out _ _ (by (try dsimp only); exact ⟨y0, y1, y2, y3, y4, y5, y6, y7, y8, y9, y10, y11, y12, y13, y14, y15, y16⟩) (fun zH => ?_); clear hK K; (try simp only [putE]); refine wq 12 zH ?_; refine wq 13 zH ?_
        refine wq 14 zH ?_; refine wq 15 zH ?_; refine wq 16 zH ?_; refine wq 17 zH ?_; refine wq 18 zH ?_; refine wq 19 zH ?_; refine wq 20 zH ?_; refine wq 22 zH ?_; refine wq 23 zH ?_; refine wq 24 zH ?_; refine wq 25 zH ?_; refine wq 26 zH ?_; refine wq 27 zH ?_; refine wq 28 zH ?_; refine wpW_one 21 rfl (by kernel_rfl) (fun K hK => ?_)
        go_simp
        refine (HLA.out _ hb7).mono ?_; rintro e w8 ⟨rfl, hb8'⟩; have hb8 : Below Z2.heap.size Z2 w8 := hb7.trans (hb8'.mono hb7.size); have z0 : w8.cell? ⟨BX, 0, none⟩ = some (.slice tA T tc) := (hb8.cell (p := ⟨BX, 0, none⟩) ml).trans g0; have z1 : w8.cell? ⟨BX, 1, none⟩ = some (.slice fA NF fc) := (hb8.cell (p := ⟨BX, 1, none⟩) ml).trans g1; have z2 : w8.cell? ⟨BX, 2, none⟩ = some (.slice bA nb bc) := (hb8.cell (p := ⟨BX, 2, none⟩) ml).trans g2; have z3 : w8.cell? ⟨BX, 3, none⟩ = some (.slice dA nd dc) := (hb8.cell (p := ⟨BX, 3, none⟩) ml).trans g3
        have z4 : w8.cell? ⟨BX, 4, none⟩ = some (.slice lA nl lc) := (hb8.cell (p := ⟨BX, 4, none⟩) ml).trans g4; have z5 : w8.cell? ⟨BX, 5, none⟩ = some (.int .i64 m.entry) := (hb8.cell (p := ⟨BX, 5, none⟩) ml).trans g5; have z6 : w8.cell? ⟨z, 0, none⟩ = some (.slice tA2 T2 tc2) := (hb8.cell (p := ⟨z, 0, none⟩) xl).trans g6; have z7 : w8.cell? ⟨z, 1, none⟩ = some (.slice fA2 nf2 fc2) := (hb8.cell (p := ⟨z, 1, none⟩) xl).trans g7; have z8 : w8.cell? ⟨z, 2, none⟩ = some (.slice bA2 nb2 bc2) := (hb8.cell (p := ⟨z, 2, none⟩) xl).trans g8
        have z9 : w8.cell? ⟨z, 3, none⟩ = some (.slice dA2 nd2 dc2) := (hb8.cell (p := ⟨z, 3, none⟩) xl).trans g9; have z10 : w8.cell? ⟨z, 4, none⟩ = some (.slice lA2 nl2 lc2) := (hb8.cell (p := ⟨z, 4, none⟩) xl).trans g10; have z11 : w8.cell? ⟨z, 5, none⟩ = some (.int .i64 x.entry) := (hb8.cell (p := ⟨z, 5, none⟩) xl).trans g11; have z12 : w8.cell? ⟨BP, 0, none⟩ = some (.int .i64 po) := (hb8.cell (p := ⟨BP, 0, none⟩) pl).trans g12; have z13 : w8.cell? ⟨BP, 1, none⟩ = some (.int .i64 pn) := (hb8.cell (p := ⟨BP, 1, none⟩) pl).trans g13
        have z14 : w8.cell? ⟨BA, 0, none⟩ = some (.int .i64 23) := (hb8.cell (p := ⟨BA, 0, none⟩) al).trans g14; have z15 : w8.cell? ⟨BA, 4, none⟩ = some (.int .i64 inn) := (hb8.cell (p := ⟨BA, 4, none⟩) al).trans g15; have z16 : w8.cell? ⟨BB, 4, none⟩ = some (.int .i64 jnn) := (hb8.cell (p := ⟨BB, 4, none⟩) bl2).trans g16; refine hK.out _ _ (by (try dsimp only); exact ⟨z0, z1, z2, z3, z4, z5, z6, z7, z8, z9, z10, z11, z12, z13, z14, z15, z16⟩) (fun zH => ?_); clear hK K; (try simp only [putE]); refine wpW_one 29 rfl (by kernel_rfl) (fun K hK => ?_)
        go_simp
        refine (HLB.out _ hb8).mono ?_; rintro e w9 ⟨rfl, hb9'⟩; have hb9 : Below Z2.heap.size Z2 w9 := hb8.trans (hb9'.mono hb8.size); have t0 : w9.cell? ⟨BX, 0, none⟩ = some (.slice tA T tc) := (hb9.cell (p := ⟨BX, 0, none⟩) ml).trans g0; have t1 : w9.cell? ⟨BX, 1, none⟩ = some (.slice fA NF fc) := (hb9.cell (p := ⟨BX, 1, none⟩) ml).trans g1; have t2 : w9.cell? ⟨BX, 2, none⟩ = some (.slice bA nb bc) := (hb9.cell (p := ⟨BX, 2, none⟩) ml).trans g2; have t3 : w9.cell? ⟨BX, 3, none⟩ = some (.slice dA nd dc) := (hb9.cell (p := ⟨BX, 3, none⟩) ml).trans g3
        have t4 : w9.cell? ⟨BX, 4, none⟩ = some (.slice lA nl lc) := (hb9.cell (p := ⟨BX, 4, none⟩) ml).trans g4; have t5 : w9.cell? ⟨BX, 5, none⟩ = some (.int .i64 m.entry) := (hb9.cell (p := ⟨BX, 5, none⟩) ml).trans g5; have t6 : w9.cell? ⟨z, 0, none⟩ = some (.slice tA2 T2 tc2) := (hb9.cell (p := ⟨z, 0, none⟩) xl).trans g6; have t7 : w9.cell? ⟨z, 1, none⟩ = some (.slice fA2 nf2 fc2) := (hb9.cell (p := ⟨z, 1, none⟩) xl).trans g7; have t8 : w9.cell? ⟨z, 2, none⟩ = some (.slice bA2 nb2 bc2) := (hb9.cell (p := ⟨z, 2, none⟩) xl).trans g8
        have t9 : w9.cell? ⟨z, 3, none⟩ = some (.slice dA2 nd2 dc2) := (hb9.cell (p := ⟨z, 3, none⟩) xl).trans g9; have t10 : w9.cell? ⟨z, 4, none⟩ = some (.slice lA2 nl2 lc2) := (hb9.cell (p := ⟨z, 4, none⟩) xl).trans g10; have t11 : w9.cell? ⟨z, 5, none⟩ = some (.int .i64 x.entry) := (hb9.cell (p := ⟨z, 5, none⟩) xl).trans g11; have t12 : w9.cell? ⟨BP, 0, none⟩ = some (.int .i64 po) := (hb9.cell (p := ⟨BP, 0, none⟩) pl).trans g12; have t13 : w9.cell? ⟨BP, 1, none⟩ = some (.int .i64 pn) := (hb9.cell (p := ⟨BP, 1, none⟩) pl).trans g13
        have t14 : w9.cell? ⟨BA, 0, none⟩ = some (.int .i64 23) := (hb9.cell (p := ⟨BA, 0, none⟩) al).trans g14; have t15 : w9.cell? ⟨BA, 4, none⟩ = some (.int .i64 inn) := (hb9.cell (p := ⟨BA, 4, none⟩) al).trans g15; have t16 : w9.cell? ⟨BB, 4, none⟩ = some (.int .i64 jnn) := (hb9.cell (p := ⟨BB, 4, none⟩) bl2).trans g16; refine hK.out _ _ (by (try dsimp only); exact ⟨t0, t1, t2, t3, t4, t5, t6, t7, t8, t9, t10, t11, t12, t13, t14, t15, t16⟩) (fun zH => ?_); clear hK K; (try simp only [putE]); refine wq 30 zH ?_; refine wq 31 zH ?_
        refine wq 32 zH ?_; refine wpW_done (by kernel_rfl) ?_ _
        go_wp2
        go_meet
        exact ⟨rfl, hd' hb9⟩
       case rest =>
        obtain ⟨rfl, HBY⟩ := hcut; have HBY2 := hd' (HBZ2.out.trans (HBY.out.mono HBZ2.out.size)); clear g0 g1 g2 g3 g4 g5 g6 g7 g8 g9 g10 g11 g12 g13 g14 g15 g16 g17 ml xl pl al bl2
        go_wp2_with fail
        go_roundg (en - (j + 1))
        case measure => omega
        case rel => exact ⟨j + 1, by omega, (by go_num), HBY2, Nat.le_refl _⟩
     · have q1 : (ik == 23) = false := by simpa using hk
       obtain ⟨kk2, hkk2⟩ := ex' ((ik == jk))
       rcases kk2 with _ | _
       · have q2 : (ik != jk) = true := by simpa [bne] using hkk2
         go_upto_region 15 with fail
         refine wp_region_W (fun w' => w'.cell? ⟨BA, 0, none⟩ = some (.int .i64 ik)) 33 (by kernel_rfl) (by (try dsimp only); go_keep) (fun zH => ?_); refine wq 0 zH ?_; refine wq 1 zH ?_; refine wq 2 zH ?_; refine wq 3 zH ?_; refine wo 4 zH ?_; refine wo 5 zH ?_; refine wo 6 zH ?_; refine wo 7 zH ?_; refine wo 8 zH ?_; refine wo 9 zH ?_; refine wo 10 zH ?_; refine wo 11 zH ?_; refine wo 12 zH ?_; refine wo 13 zH ?_; refine wo 14 zH ?_
         refine wo 15 zH ?_; refine wo 16 zH ?_; refine wo 17 zH ?_; refine wo 18 zH ?_; refine wo 19 zH ?_; refine wo 20 zH ?_; refine wo 21 zH ?_; refine wo 22 zH ?_; refine wo 23 zH ?_; refine wo 24 zH ?_; refine wo 25 zH ?_; refine wo 26 zH ?_; refine wo 27 zH ?_; refine wo 28 zH ?_; refine wo 29 zH ?_; refine wo 30 zH ?_; refine wo 31 zH ?_; refine wq 32 zH ?_; refine wpW_done (by kernel_rfl) ?_ _; have HBY2 := hd' HBZ2.out.drew
         go_wp2
         go_roundg (en - (j + 1))
         case measure => omega
         case rel => exact ⟨j + 1, by omega, (by go_num), HBY2, Nat.le_refl _⟩
       · have q2 : (ik != jk) = false := by simpa [bne] using hkk2
         go_upto_region 15 with fail
         refine wp_region_W (fun w' => w'.cell? ⟨BA, 0, none⟩ = some (.int .i64 ik)) 33 (by kernel_rfl) (by (try dsimp only); go_keep) (fun zH => ?_); refine wq 0 zH ?_; refine wq 1 zH ?_; refine wq 2 zH ?_; refine wq 3 zH ?_; refine wo 4 zH ?_; refine wo 5 zH ?_; refine wo 6 zH ?_; refine wo 7 zH ?_; refine wo 8 zH ?_; refine wo 9 zH ?_; refine wo 10 zH ?_; refine wo 11 zH ?_; refine wo 12 zH ?_; refine wo 13 zH ?_; refine wo 14 zH ?_
         refine wo 15 zH ?_; refine wo 16 zH ?_; refine wo 17 zH ?_; refine wo 18 zH ?_; refine wo 19 zH ?_; refine wo 20 zH ?_; refine wo 21 zH ?_; refine wo 22 zH ?_; refine wo 23 zH ?_; refine wo 24 zH ?_; refine wo 25 zH ?_; refine wo 26 zH ?_; refine wo 27 zH ?_; refine wo 28 zH ?_; refine wo 29 zH ?_; refine wo 30 zH ?_; refine wo 31 zH ?_; refine wq 32 zH ?_; refine wpW_done (by kernel_rfl) ?_ _; have HBY2 := hd' HBZ2.out.drew
         go_wp2
         go_roundg (en - (j + 1))
         case measure => omega
         case rel => exact ⟨j + 1, by omega, (by go_num), HBY2, Nat.le_refl _⟩
   · obtain rfl : en = j := by omega
     have hltI : ¬ (en : Int) < (en : Int) := by omega
     have HBE := hd' (HB1.out.trans ((HBW.out _ HBj.out).mono HB1.out.size))
     go_wp2_with fail
     go_ret
     exact ⟨by simp, HBE.out⟩
set_option maxRecDepth 100000 in
theorem emitCalls_contract (H : Type) (enc : TypeId × Value → H) (W : World) (base : Nat) (args : Array Value) (ds gs : List (DataW H)) (before : List MemPlace)
 (hval : ∀ (j : Nat) t v, Tryd.f7.params[j]? = some t → args[j]? = some v → Value.okWide Tryd.prog W .any base t v)
 (hW : DataW.Whole enc Tryd.prog Tryd.f7.params.toList Rows.emitCallsSpec.vars false W args.toList ds gs before) (hL : laidMetH Tryd.prog Rows.emitCallsRow.laid W)
 (hz : (DataW.weightsEach Tryd.prog (Tryd.f7.params.toList ++ (OpenSpec.ofChange Rows.emitCallsSpec).bare.plain.varTypes Tryd.prog) (ds ++ gs)).all (· ≤ reachBytes) = true) :
 Calls Tryd.prog 7 args W fun e W' => ∃ v, e = .returned v ∧ Rows.emitCallsSpec.post enc Tryd.prog Tryd.f7 false true false false W args v W' := by
 have hT : Tabs W := tabs_of_laid5 hL; have hW0 := hW; obtain ⟨p, q, hA0, hV, rfl, hfz, hnd⟩ := hW; have hA : DataW.TrodAll enc Tryd.prog W 0 (fun _ => true) true Tryd.f7.params.toList args.toList ds p := hA0; rw [Tryd.params7] at hA hval; obtain ⟨v0, vs0, d0, ds0, p0, q0, hargs, rfl, rfl, h0, r0⟩ := trodAll_cons hA; obtain ⟨v1, vs1, d1, ds1, p1, q1, rfl, rfl, rfl, h1, r1⟩ := trodAll_cons r0; obtain ⟨rfl, rfl, rfl⟩ := trodAll_nil r1; obtain rfl : args = #[v0, v1] := by cases args; simp_all
 obtain ⟨rfl, rfl⟩ := trodVars_none hV; clear hA0; obtain ⟨A, cap, L, rfl, hcap, hcm, hR, hd⟩ := open_raws (hval 0 22 v0 rfl rfl) h0; obtain ⟨iA, icap, IL, rfl, hicap, hicm, hI64, hIR, hid⟩ := open_nums (hval 1 35 v1 rfl rfl) h1
 have hL2 : L.length ≤ 140737488355328 := by
  rcases hd with ⟨-, rfl, -⟩ | ⟨elems, spare, rfl, hl⟩
  · exact Nat.zero_le _
  · have h1 := sized_slice hz (j := 0) (t := 22) (by rw [Tryd.params7]; rfl) rfl Tryd.underlying22; have h2 : Tryd.prog.bytesOf 26 = 32 := by kernel_rfl
    have h3 := reachBytes_lt; rw [h2, hl] at h1; omega
 have hIL : IL.length ≤ 140737488355328 := by
  rcases hid with ⟨-, rfl, -⟩ | ⟨elems, spare, rfl, hl⟩
  · exact Nat.zero_le _
  · have h1 := sized_slice hz (j := 1) (t := 35) (by rw [Tryd.params7]; rfl) rfl Tryd.underlying35; have h2 : Tryd.prog.bytesOf 3 = 8 := by kernel_rfl
    have h3 := reachBytes_lt; rw [h2, hl] at h1; omega
 refine (emitCalls_walk L A cap IL iA icap W hT hR hL2 hcap hI64 hIR hIL hicap).mono fun e W' ⟨he, hb⟩ => ?_
 subst he; exact ⟨_, rfl, law_post hW0 rfl rfl (by kernel_rfl) (by kernel_rfl) hb⟩
set_option maxRecDepth 100000 in
theorem emitCalls_met (os : Os) : laidMet Tryd.prog Rows.emitCallsRow.laid ((laidWorld5 os).forCall (fun _ _ => 0) ⟨#[], #[.slice none 0 0, .slice none 0 0], []⟩).memory :=
 laidMet_of_run' 8 (by kernel_rfl) (by kernel_rfl)
set_option maxRecDepth 100000 in
theorem emitCalls_reads (os : Os) {H : Type} (enc : TypeId × Value → H) : ∃ places, DataW.whole enc Tryd.prog ((laidWorld5 os).forCall (fun _ _ => 0) ⟨#[], #[.slice none 0 0, .slice none 0 0], []⟩).memory Tryd.f7.params.toList Rows.emitCallsSpec.vars false (#[.slice none 0 0, .slice none 0 0] : Array Value).toList 8 = some ([.nil, .nil], [], places) :=
 ⟨[], by kernel_rfl⟩
set_option maxRecDepth 100000 in
theorem emitCalls_lifted (os : Os) (started : os.Started) (H : Type) (enc : TypeId × Value → H) (F : Stop.Interp) :
 ReturnsInHanded {} Tryd.checked os 7 .any ((OpenSpec.ofChange Rows.emitCallsSpec).preRow enc Tryd.prog Tryd.f7 Rows.emitCallsRow.domain false Rows.emitCallsRow.laid) (((OpenSpec.ofChange Rows.emitCallsSpec).at F).post enc Tryd.prog Tryd.f7 false true false false) := by
 obtain ⟨places, hx⟩ := emitCalls_reads os enc
 refine returnsInHanded_of_row (C := Tryd.checked) (s := OpenSpec.ofChange Rows.emitCallsSpec) ownP started (by kernel_rfl) Tryd.func7
  (witness_row_at (enc := enc) (C := Tryd.checked) false (laidWorld5 os) #[.slice none 0 0, .slice none 0 0] rfl (by kernel_rfl) (by kernel_rfl) (by kernel_rfl)
   (OpenSpec.preRow_of_cond 8 hx (by kernel_rfl) (fun k hk => by cases hk) (by kernel_rfl) (emitCalls_met os))) ?_
 intro W base args ds gs before hval hW _ _ hreach hL _ _; exact emitCalls_contract H enc W base args ds gs before hval hW hL hreach
set_option maxRecDepth 100000 in
theorem emitCalls_said : Rows.EmitCallsSaid :=
 OpenClaim.holds_of_cond 7 Tryd.f7 rfl rfl rfl rfl rfl rfl rfl ⟨rfl, rfl, rfl, rfl, rfl⟩ rfl rfl rfl rfl rfl (by kernel_rfl) Tryd.func7 (by kernel_rfl)
  (of_decide_eq_true (by kernel_rfl)) (by unfold Func.isWrapper; first | (rw [if_pos (by decide +kernel)]; kernel_rfl) | (rw [if_neg (by decide +kernel)]; exact ⟨rfl, rfl⟩))
  (fun os started H enc _ F => by rw [OpenClaim.pre_eq_preRow]; exact emitCalls_lifted os started H enc F)
set_option maxRecDepth 100000 in
theorem emitCalls_plain (f : FuncId) (fn : Func) (hf : Tryd.pinned.checked.prog.funcNamed "bolthole/boltholekeep.EmitCalls" = some f) (hfn : Tryd.pinned.checked.prog.funcs[f]? = some fn) :
 ∀ (j : Nat) t, fn.params[j]? = some t → Tryd.pinned.checked.prog.wantsStandIn t = false := by
 obtain rfl : f = 7 := Option.some.inj ((show Tryd.prog.funcNamed "bolthole/boltholekeep.EmitCalls" = some 7 by kernel_rfl).symm.trans hf) |>.symm; obtain rfl : fn = Tryd.f7 := (Option.some.inj (Tryd.func7.symm.trans hfn)).symm; intro j t ht
 have hall : ∀ t ∈ Tryd.f7.params, Tryd.prog.wantsStandIn t = false := by
  rw [Tryd.params7]; intro t ht; simp only [List.mem_toArray, List.mem_cons, List.not_mem_nil, or_false] at ht; rcases ht with rfl | rfl
  all_goals kernel_rfl
 exact hall t (Array.mem_of_getElem? ht)
set_option maxRecDepth 100000 in
theorem emitCalls_card : Rows.EmitCallsCardSaid :=
 Claim7.holds_tied_plain_at .later [] _ _ _ _ emitCalls_said (fun _ h => by cases h) (by kernel_rfl) (fun _ h => by cases h) emitCalls_row_tie rfl ⟨rfl, rfl⟩ (by kernel_rfl) rfl (fun f fn hf hfn => ⟨by kernel_rfl, emitCalls_plain f fn hf hfn⟩) (by kernel_rfl)
end Go.Proofs.YtcafhoobeggmeaaDoor
