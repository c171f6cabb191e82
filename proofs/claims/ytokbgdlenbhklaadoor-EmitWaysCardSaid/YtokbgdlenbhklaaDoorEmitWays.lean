/- EmitWays, proved. -/
import Derived.Test.YtokbgdlenbhklaaDoorLawS
import Derived.Test.YtokbgdlenbhklaaDoorEmV
import Derived.Test.YtokbgdlenbhklaaDoorEmWu
import Derived.Deep.DeepCutAuto
import Derived.Deep.CutBlock
import Derived.Deep.LoopGhost
import Derived.Deep.QuietTactic
import Derived.BigQuiet
import Derived.IntWalk
import Derived.WalkLawsBesides
namespace Go.Proofs.YtokbgdlenbhklaaDoor
open Go.ChangeShapes Go.WideShapes Go.ChangeAt Go.RowKit Go.Joins
open Go.ChangeMaps (open_string)
set_option maxHeartbeats 8000000 in
set_option maxRecDepth 100000 in
theorem emitWays_walk (l : List RawI) (A : Option Addr) (c : Nat) (Ls : List Int) (oA : Option Addr) (oc : Nat) (w : World) (hT : Tabs w) (hR : RdR w w.heap.size A l) (hl : l.length ≤ 140737488355328) (hc : l.length ≤ c) (hN : ∀ x ∈ Ls, N64 x) (hR2 : RdG w w.heap.size oA (intsV .i64 Ls)) (hl2 : Ls.length ≤ 140737488355328) (hc2 : Ls.length ≤ oc) :
 Calls Tryd.prog 11 #[.slice A l.length c, .slice oA Ls.length oc] w fun e w' => e = .returned (.bool true) ∧ Below w.heap.size w w' := by
 have HTL := Lib.hid (emitTells_any w hT); have HFW : Hid (∀ W, Below w.heap.size w W → Calls Tryd.prog 16 #[.slice A l.length c] W (FlwPost W l)) := Lib.hid fun W hW => flowed_any l A c W (hT.below hW) ((hR.below hW).more hW.size) hc hl
 have HT := Lib.hid hT; have HR2 := Lib.hid hR2; have HN := Lib.hid hN; have HLC := Lib.hid (And.intro hl2 hc2); obtain ⟨ll, hll⟩ : ∃ z, l.length = z := ⟨_, rfl⟩
 obtain ⟨lo, hlo⟩ : ∃ z, Ls.length = z := ⟨_, rfl⟩
 rw [hll] at HFW ⊢; rw [hlo]; have HLO := Lib.hid hlo; clear hT hR hl hc hll hlo hN hR2 hl2 hc2
 go_enter Tryd.func11, Tryd.ntmps11
 go_wp2_with fail
 refine HTL.out.mono ?_; rintro e w0 ⟨rfl, hb0⟩; have HB0 := Lib.hid hb0; clear hb0 HTL
 go_wp2_with fail
 refine (HFW.out _ HB0.out).mono ?_; rintro e w1 ⟨hb1, m, v, d, xA, yA, zA, xc, yc, zc, rfl, hst⟩; have hb1w : Below w.heap.size w w1 := (HB0.out.trans (hb1.mono HB0.out.size))
 have HB1 := Lib.hid hb1w; have HST := Lib.hid hst; have HTXT := Lib.hid hst.pgm.text; obtain ⟨P, hP⟩ : ∃ z, shL d Ls = z := ⟨_, rfl⟩
 have ho := shL_good hst.sizes.2.2.2.2 Ls; rw [hP] at ho; obtain ⟨x, hx⟩ : ∃ z, emL m d P = z := ⟨_, rfl⟩
 have HPE := Lib.hid hP; have HXE := Lib.hid hx; have HO := Lib.hid ho; obtain ⟨tA, tc, fA, fc, bA, bc, dA, dc, lA, lc⟩ := v; unfold Img.val flowV; simp only; obtain ⟨T, hTe⟩ : ∃ z, m.text.length = z := ⟨_, rfl⟩
 obtain ⟨NF, hNF⟩ : ∃ z, m.funcs.length = z := ⟨_, rfl⟩
 obtain ⟨nb, hnb⟩ : ∃ z, m.tables.length = z := ⟨_, rfl⟩
 obtain ⟨nd, hnd⟩ : ∃ z, m.data.length = z := ⟨_, rfl⟩
 obtain ⟨nl, hnl⟩ : ∃ z, m.lines.length = z := ⟨_, rfl⟩
 obtain ⟨NB, hNB⟩ : ∃ z, d.blocks.length = z := ⟨_, rfl⟩
 obtain ⟨nt, hnt⟩ : ∃ z, d.tables.length = z := ⟨_, rfl⟩
 obtain ⟨nz, hnz⟩ : ∃ z, d.firsts.length = z := ⟨_, rfl⟩
 obtain ⟨NP, hNP⟩ : ∃ z, P.length = z := ⟨_, rfl⟩
 have HSH : Hid (∀ W, Below w1.heap.size w1 W → Calls Tryd.prog 19 #[.agg #[.slice xA NB xc, .slice yA nt yc, .slice zA nz zc], .slice oA lo oc] W (ShfPost W d Ls)) := Lib.hid fun W hW => by
  have h := shuf_st (hst.below hW) Ls oA oc ((HR2.out.below (hb1w.trans (hW.mono hb1w.size))).more (Nat.le_trans hb1w.size hW.size)) HLC.out.2 HLC.out.1 HN.out; unfold flowV at h; rw [hNB, hnt, hnz, HLO.out] at h; exact h
 have HEM : Hid (∀ W A c, Below w1.heap.size w1 W → PartsRd W A c P → Calls Tryd.prog 22 #[.agg #[.slice tA T tc, .slice fA NF fc, .slice bA nb bc, .slice dA nd dc, .slice lA nl lc, .int .i64 m.entry], .slice A NP c] W (EmPost W m d P)) := Lib.hid fun W A c hW hq => by
  have h := emit_st (hst.below hW) (HT.out.below (hb1w.trans (hW.mono hb1w.size))) hq ho; unfold Img.val at h; simp only at h; rw [hTe, hNF, hnb, hnd, hnl, hNP] at h; exact h
 rw [hTe, hNF, hnb, hnd, hnl, hNB, hnt, hnz]; have HNP := Lib.hid hNP; have HTE := Lib.hid hTe; clear hTe hnl hnb hnd hNB hnt hnz hNF hNP hst hP hx ho hb1 hb1w; obtain ⟨N, M, p, q, i, j, htw⟩ := emL_two HST.out.pgm.check HST.out.rc HO.out; rw [HXE.out] at htw; have hcode := emL_code HST.out.pgm.check HST.out.rc HO.out; have hby := hcode.bytes; have hfw := hcode.few; rw [HXE.out] at hby hfw; have HTW := Lib.hid htw; have HBY := Lib.hid hby; have HFWX := Lib.hid hfw
 have hbm : bS i brN N ≤ 100000 := by
  have h1 := bS_le i brN (fun k => by unfold brN; split <;> omega) N; have h2 := htw.x.ge N (Nat.le_refl _); have h3 := htw.x.e; have h4 := HTXT.out; omega
 clear htw hcode hby hfw HFW HB0 HR2 HN HLC HLO
 go_upto_region 4 with fail
 obtain ⟨X, hX⟩ : ∃ X, w1.alloc (.cells #[.slice tA T tc, .slice fA NF fc, .slice bA nb bc, .slice dA nd dc, .slice lA nl lc, .int .i64 m.entry] 41) = X := ⟨_, rfl⟩
 rw [hX]; have hm1 : Blk X w1.heap.size 41 [.slice tA T tc, .slice fA NF fc, .slice bA nb bc, .slice dA nd dc, .slice lA nl lc, .int .i64 m.entry] := by rw [← hX]; exact Blk.new w1 _ _
 have hbX : Below w1.heap.size w1 X := by rw [← hX]; exact (Below.refl _ _).alloc (Nat.le_refl _) _
 have hxs : X.heap.size = w1.heap.size + 1 := by rw [← hX]; simp
 obtain ⟨Y, hY⟩ : ∃ Y, X.alloc (.cells #[.slice xA NB xc, .slice yA nt yc, .slice zA nz zc] 44) = Y := ⟨_, rfl⟩
 rw [hY]; have hfY : Blk Y (w1.heap.size + 1) 44 [.slice xA NB xc, .slice yA nt yc, .slice zA nz zc] := by rw [← hY, ← hxs]; exact Blk.new X _ _
 have hbY : Below X.heap.size X Y := by rw [← hY]; exact (Below.refl _ _).alloc (Nat.le_refl _) _
 have hmY := hm1.keep hbY; have hbWY := hbX.trans (hbY.mono hbX.size); obtain ⟨BX, hBX⟩ : ∃ z, w1.heap.size = z := ⟨_, rfl⟩
 have HWY := Lib.hid hbWY; rw [hBX] at hfY hmY ⊢; have HMY := Lib.hid hmY; have HFY := Lib.hid hfY; have HSHY : Hid (∀ W, Below Y.heap.size Y W → _) := Lib.hid fun W hW => HSH.out W (hbWY.trans (hW.mono hbWY.size))
 have HEMY : Hid (∀ W A c, Below Y.heap.size Y W → _) := Lib.hid fun W A c hW => HEM.out W A c (hbWY.trans (hW.mono hbWY.size))
 have m0 := hmY.cell 0 rfl; have m1 := hmY.cell 1 rfl; have m2 := hmY.cell 2 rfl; have m3 := hmY.cell 3 rfl; have m4 := hmY.cell 4 rfl; have m5 := hmY.cell 5 rfl; have f0 := hfY.cell 0 rfl; have f1 := hfY.cell 1 rfl; have f2 := hfY.cell 2 rfl; clear hX hY hm1 hbX hbY hmY hbWY hxs hBX hfY HSH HEM
 go_cut [8, 9, 10] (fun s8 s9 s10 wx => ∃ (z : Nat) (v2 : ImgV) (eA : Option Addr) (en ec : Nat) (ps : List (Int × Int)), s8 = .pointer (some ⟨z, 0, none⟩) ∧ s9 = .slice eA en ec ∧ s10 = .int .i64 0 ∧ Hid (EmVar Y wx z x (emIts d P) v2 eA en ec ps))
 case first =>
  refine wp_region_W (fun w' => w'.cell? ⟨BX, 0, none⟩ = some (.slice tA T tc) ∧ w'.cell? ⟨BX, 1, none⟩ = some (.slice fA NF fc) ∧ w'.cell? ⟨BX, 2, none⟩ = some (.slice bA nb bc) ∧ w'.cell? ⟨BX, 3, none⟩ = some (.slice dA nd dc) ∧ w'.cell? ⟨BX, 4, none⟩ = some (.slice lA nl lc) ∧ w'.cell? ⟨BX, 5, none⟩ = some (.int .i64 m.entry) ∧ w'.cell? ⟨BX + 1, 0, none⟩ = some (.slice xA NB xc) ∧ w'.cell? ⟨BX + 1, 1, none⟩ = some (.slice yA nt yc) ∧ w'.cell? ⟨BX + 1, 2, none⟩ = some (.slice zA nz zc)) 13 (by kernel_rfl) (by (try dsimp only); go_keep) (fun hHeld => ?_)
  have hbD : Below Y.heap.size Y Y.drew := (Below.refl _ _).drew; refine wpW_q 0 hHeld ?_; (try simp only [putE]); refine wpW_q 1 hHeld ?_; (try simp only [putE]); refine wpW_q 2 hHeld ?_; (try simp only [putE]); refine wpW_all [3, 9] (by kernel_rfl) (by simp) ?_; refine AllW.cons (i := 3) rfl (fun K hK => ?_) ?_
  · skip
    go_simp
    refine (HSHY.out Y.drew hbD).mono ?_; rintro e w3 ⟨hb3, pA, pc, lv, rfl, hlv, hpr, hpb⟩; rw [HPE.out] at hlv; have hpt := shf_parts hlv hpr hpb; rw [show lv.length = NP by rw [← HNP.out, ← hlv, List.length_map]]; clear hpr hpb hlv; have hbX3 : Below Y.heap.size Y w3 := hbD.trans (hb3.mono hbD.size); obtain ⟨y3_0, y3_1, y3_2, y3_3, y3_4, y3_5, y3_6, y3_7, y3_8⟩ := mf_keep hbX3 HMY.out HFY.out; refine hK.out _ _ (by (try dsimp only); go_keep) (fun hHeld => ?_); clear hK K; (try simp only [putE]); refine wpW_all [4, 9] (by kernel_rfl) (by simp) ?_
    refine AllW.cons (i := 4) rfl (fun K hK => ?_) ?_
    · skip
      go_simp
      have hpe := hpt; refine (HEMY.out w3 pA pc hbX3 hpe).mono ?_; rintro e w4 ⟨hb4, ⟨tA2, tc2, fA2, fc2, bA2, bc2, dA2, dc2, lA2, lc2⟩, eA, en, ec, ps, rfl, hown, hpl, hprs, hpk⟩; rw [HXE.out] at hown ⊢; unfold Img.val; simp only; have hbX4 : Below Y.heap.size Y w4 := hbX3.trans (hb4.mono hbX3.size); obtain ⟨y4_0, y4_1, y4_2, y4_3, y4_4, y4_5, y4_6, y4_7, y4_8⟩ := mf_keep hbX4 HMY.out HFY.out; refine hK.out _ _ (by (try dsimp only); go_keep) (fun hHeld => ?_); clear hK K; (try simp only [putE]); refine wpW_q 5 hHeld ?_; (try simp only [putE]); refine wpW_q 6 hHeld ?_; (try simp only [putE])
      refine wpW_q 7 hHeld ?_; (try simp only [putE]); refine wpW_q 8 hHeld ?_; (try simp only [putE]); refine wpW_one 9 rfl (by kernel_rfl) (fun K hK => ?_)
      go_simp
      have zb0 : Blk (w4.alloc (.cells #[.slice none 0 0, .slice none 0 0, .slice none 0 0, .slice none 0 0, .slice none 0 0, .int .i64 0] 41)) (w4.heap.size) 41 [.slice none 0 0, .slice none 0 0, .slice none 0 0, .slice none 0 0, .slice none 0 0, .int .i64 0] := Blk.new w4 _ _; have hbA : Below Y.heap.size Y (w4.alloc (.cells #[.slice none 0 0, .slice none 0 0, .slice none 0 0, .slice none 0 0, .slice none 0 0, .int .i64 0] 41)) := hbX4.alloc (hbX4.size) _; have hneA0 : ¬ w4.heap.size = BX := by have h1 := hbX4.size; have h2 := HMY.out.lt; omega
      have hneA1 : ¬ w4.heap.size = BX + 1 := by have h1 := hbX4.size; have h2 := HFY.out.lt; omega
      refine hK.out _ _ (by (try dsimp only); go_keep) (fun hHeld => ?_); clear hK K; (try simp only [putE]); refine wpW_one 10 rfl (by kernel_rfl) (fun K hK => ?_)
      go_simp
      refine hK.out _ _ (by (try dsimp only); go_keep) (fun hHeld => ?_); clear hK K; (try simp only [putE]); refine wpW_q 11 hHeld ?_; (try simp only [putE]); refine wpW_q 12 hHeld ?_; (try simp only [putE]); refine wpW_done (by kernel_rfl) ?_ _; have hev := emVar_new (v := ⟨tA2, tc2, fA2, fc2, bA2, bc2, dA2, dc2, lA2, lc2⟩) hbX4 hown hpl hprs hpk
      dsimp only at hev
      go_wp2
      go_meet
      exact ⟨_, ⟨tA2, tc2, fA2, fc2, bA2, bc2, dA2, dc2, lA2, lc2⟩, eA, en, ec, ps, rfl, rfl, rfl, Lib.hid hev⟩
    refine AllW.cons (i := 9) rfl (fun K hK => ?_) AllW.nil
    go_simp
    have zb0 : Blk (w3.alloc (.cells #[.slice none 0 0, .slice none 0 0, .slice none 0 0, .slice none 0 0, .slice none 0 0, .int .i64 0] 41)) (w3.heap.size) 41 [.slice none 0 0, .slice none 0 0, .slice none 0 0, .slice none 0 0, .slice none 0 0, .int .i64 0] := Blk.new w3 _ _; have hbA : Below Y.heap.size Y (w3.alloc (.cells #[.slice none 0 0, .slice none 0 0, .slice none 0 0, .slice none 0 0, .slice none 0 0, .int .i64 0] 41)) := hbX3.alloc (hbX3.size) _; have hneA0 : ¬ w3.heap.size = BX := by have h1 := hbX3.size; have h2 := HMY.out.lt; omega
    have hneA1 : ¬ w3.heap.size = BX + 1 := by have h1 := hbX3.size; have h2 := HFY.out.lt; omega
    refine hK.out _ _ (by (try dsimp only); go_keep) (fun hHeld => ?_); clear hK K; (try simp only [putE]); refine wpW_one 4 rfl (by kernel_rfl) (fun K hK => ?_)
    go_simp
    have hpe : PartsRd (w3.alloc (.cells #[.slice none 0 0, .slice none 0 0, .slice none 0 0, .slice none 0 0, .slice none 0 0, .int .i64 0] 41)) pA pc P := hpt.below ((Below.refl w3.heap.size w3).alloc (Nat.le_refl _) _); refine (HEMY.out (w3.alloc (.cells #[.slice none 0 0, .slice none 0 0, .slice none 0 0, .slice none 0 0, .slice none 0 0, .int .i64 0] 41)) pA pc hbA hpe).mono ?_; rintro e w4 ⟨hb4, ⟨tA2, tc2, fA2, fc2, bA2, bc2, dA2, dc2, lA2, lc2⟩, eA, en, ec, ps, rfl, hown, hpl, hprs, hpk⟩; rw [HXE.out] at hown ⊢; unfold Img.val; simp only
    have hbX4 : Below Y.heap.size Y w4 := hbA.trans (hb4.mono hbA.size); obtain ⟨y4_0, y4_1, y4_2, y4_3, y4_4, y4_5, y4_6, y4_7, y4_8⟩ := mf_keep hbX4 HMY.out HFY.out; have zb5 := zb0.keep hb4; have zc4_0 := zb5.cell 0 rfl; have zf4_0 := zb5.free 0; have zc4_1 := zb5.cell 1 rfl; have zf4_1 := zb5.free 1; have zc4_2 := zb5.cell 2 rfl; have zf4_2 := zb5.free 2; have zc4_3 := zb5.cell 3 rfl; have zf4_3 := zb5.free 3; have zc4_4 := zb5.cell 4 rfl; have zf4_4 := zb5.free 4; have zc4_5 := zb5.cell 5 rfl; have zf4_5 := zb5.free 5; have zl4 := zb5.lt
    refine hK.out _ _ (by (try dsimp only); go_keep) (fun hHeld => ?_); clear hK K; (try simp only [putE]); refine wpW_q 5 hHeld ?_; (try simp only [putE]); refine wpW_q 6 hHeld ?_; (try simp only [putE]); refine wpW_q 7 hHeld ?_; (try simp only [putE]); refine wpW_q 8 hHeld ?_; (try simp only [putE]); refine wpW_one 10 rfl (by kernel_rfl) (fun K hK => ?_)
    go_simp
    refine hK.out _ _ (by (try dsimp only); go_keep) (fun hHeld => ?_); clear hK K; (try simp only [putE]); refine wpW_q 11 hHeld ?_; (try simp only [putE]); refine wpW_q 12 hHeld ?_; (try simp only [putE]); refine wpW_done (by kernel_rfl) ?_ _; have hev := emVar_old (v := ⟨tA2, tc2, fA2, fc2, bA2, bc2, dA2, dc2, lA2, lc2⟩) zb5 hbX4 hbX3.size zb0.lt hown hpl hprs hpk
    dsimp only at hev
    go_wp2
    go_meet
    exact ⟨_, ⟨tA2, tc2, fA2, fc2, bA2, bc2, dA2, dc2, lA2, lc2⟩, eA, en, ec, ps, rfl, rfl, rfl, Lib.hid hev⟩
  refine AllW.cons (i := 9) rfl (fun K hK => ?_) AllW.nil
  go_simp
  have zb0 : Blk (Y.alloc (.cells #[.slice none 0 0, .slice none 0 0, .slice none 0 0, .slice none 0 0, .slice none 0 0, .int .i64 0] 41)).drew (Y.heap.size) 41 [.slice none 0 0, .slice none 0 0, .slice none 0 0, .slice none 0 0, .slice none 0 0, .int .i64 0] := Blk.drew (Blk.new Y _ _); have hbA : Below Y.heap.size Y (Y.alloc (.cells #[.slice none 0 0, .slice none 0 0, .slice none 0 0, .slice none 0 0, .slice none 0 0, .int .i64 0] 41)).drew := ((Below.refl _ _).alloc (Nat.le_refl _) _).drew
  have hneA0 : ¬ Y.heap.size = BX := by have h1 := hbD.size; have h2 := HMY.out.lt; omega
  have hneA1 : ¬ Y.heap.size = BX + 1 := by have h1 := hbD.size; have h2 := HFY.out.lt; omega
  refine hK.out _ _ (by (try dsimp only); go_keep) (fun hHeld => ?_); clear hK K; (try simp only [putE]); refine wpW_one 3 rfl (by kernel_rfl) (fun K hK => ?_)
  go_simp
  refine (HSHY.out (Y.alloc (.cells #[.slice none 0 0, .slice none 0 0, .slice none 0 0, .slice none 0 0, .slice none 0 0, .int .i64 0] 41)).drew hbA).mono ?_; rintro e w3 ⟨hb3, pA, pc, lv, rfl, hlv, hpr, hpb⟩; rw [HPE.out] at hlv; have hpt := shf_parts hlv hpr hpb; rw [show lv.length = NP by rw [← HNP.out, ← hlv, List.length_map]]; clear hpr hpb hlv; have hbX3 : Below Y.heap.size Y w3 := hbA.trans (hb3.mono hbA.size); obtain ⟨y3_0, y3_1, y3_2, y3_3, y3_4, y3_5, y3_6, y3_7, y3_8⟩ := mf_keep hbX3 HMY.out HFY.out; have zb4 := zb0.keep hb3; have zc3_0 := zb4.cell 0 rfl
  have zf3_0 := zb4.free 0; have zc3_1 := zb4.cell 1 rfl; have zf3_1 := zb4.free 1; have zc3_2 := zb4.cell 2 rfl; have zf3_2 := zb4.free 2; have zc3_3 := zb4.cell 3 rfl; have zf3_3 := zb4.free 3; have zc3_4 := zb4.cell 4 rfl; have zf3_4 := zb4.free 4; have zc3_5 := zb4.cell 5 rfl; have zf3_5 := zb4.free 5; have zl3 := zb4.lt; refine hK.out _ _ (by (try dsimp only); go_keep) (fun hHeld => ?_); clear hK K; (try simp only [putE]); refine wpW_one 4 rfl (by kernel_rfl) (fun K hK => ?_)
  go_simp
  have hpe := hpt; refine (HEMY.out w3 pA pc hbX3 hpe).mono ?_; rintro e w4 ⟨hb4, ⟨tA2, tc2, fA2, fc2, bA2, bc2, dA2, dc2, lA2, lc2⟩, eA, en, ec, ps, rfl, hown, hpl, hprs, hpk⟩; rw [HXE.out] at hown ⊢; unfold Img.val; simp only; have hbX4 : Below Y.heap.size Y w4 := hbX3.trans (hb4.mono hbX3.size); obtain ⟨y4_0, y4_1, y4_2, y4_3, y4_4, y4_5, y4_6, y4_7, y4_8⟩ := mf_keep hbX4 HMY.out HFY.out; have zb5 := zb4.keep hb4; have zc4_0 := zb5.cell 0 rfl; have zf4_0 := zb5.free 0; have zc4_1 := zb5.cell 1 rfl; have zf4_1 := zb5.free 1; have zc4_2 := zb5.cell 2 rfl; have zf4_2 := zb5.free 2
  have zc4_3 := zb5.cell 3 rfl; have zf4_3 := zb5.free 3; have zc4_4 := zb5.cell 4 rfl; have zf4_4 := zb5.free 4; have zc4_5 := zb5.cell 5 rfl; have zf4_5 := zb5.free 5; have zl4 := zb5.lt; refine hK.out _ _ (by (try dsimp only); go_keep) (fun hHeld => ?_); clear hK K; (try simp only [putE]); refine wpW_q 5 hHeld ?_; (try simp only [putE]); refine wpW_q 6 hHeld ?_; (try simp only [putE]); refine wpW_q 7 hHeld ?_; (try simp only [putE]); refine wpW_q 8 hHeld ?_; (try simp only [putE]); refine wpW_one 10 rfl (by kernel_rfl) (fun K hK => ?_)
  go_simp
  refine hK.out _ _ (by (try dsimp only); go_keep) (fun hHeld => ?_); clear hK K; (try simp only [putE]); refine wpW_q 11 hHeld ?_; (try simp only [putE]); refine wpW_q 12 hHeld ?_; (try simp only [putE]); refine wpW_done (by kernel_rfl) ?_ _; have hev := emVar_old (v := ⟨tA2, tc2, fA2, fc2, bA2, bc2, dA2, dc2, lA2, lc2⟩) zb5 hbX4 (Nat.le_refl _) zb4.lt hown hpl hprs hpk
  dsimp only at hev
  go_wp2
  go_meet
  exact ⟨_, ⟨tA2, tc2, fA2, fc2, bA2, bc2, dA2, dc2, lA2, lc2⟩, eA, en, ec, ps, rfl, rfl, rfl, Lib.hid hev⟩
 case rest =>
  obtain ⟨z, v2, eA, en, ec, ps, rfl, rfl, rfl, HEV⟩ := hcut; obtain ⟨tA2, tc2, fA2, fc2, bA2, bc2, dA2, dc2, lA2, lc2⟩ := v2
  rename World => wx
  clear m0 m1 m2 m3 m4 m5 f0 f1 f2 HSHY HEMY; obtain ⟨T2, hT2⟩ : ∃ z, x.text.length = z := ⟨_, rfl⟩
  have HT2 := Lib.hid hT2; have HBW : Hid (∀ W, Below wx.heap.size wx W → Below w1.heap.size w1 W) := Lib.hid fun W hW => (HWY.out.trans (HEV.out.bel.mono HWY.out.size)).trans (hW.mono (Nat.le_trans HWY.out.size HEV.out.bel.size))
  have HTB : Hid (∀ W, Below wx.heap.size wx W → Tabs W) := Lib.hid fun W hW => HT.out.below (HB1.out.trans ((HBW.out W hW).mono HB1.out.size))
  have HX0 : Hid (Blk wx z 41 [.slice tA2 T2 tc2, .slice fA2 x.funcs.length fc2, .slice bA2 x.tables.length bc2, .slice dA2 x.data.length dc2, .slice lA2 x.lines.length lc2, .int .i64 x.entry]) := Lib.hid (by
   have h := HEV.out.blk; simp only [hT2] at h
   exact h)
  have HMX := Lib.hid (HMY.out.keep HEV.out.bel)
  have HCM : Hid (∀ W, Below wx.heap.size wx W → Calls Tryd.prog 27 #[.slice tA T tc] W fun e w' => e = .returned (.tuple #[.int .i64 (bS i brN N : Nat), .int .i64 (bS i otN N : Nat)]) ∧ Below W.heap.size W w') := Lib.hid fun W hW => by
   have hs := HST.out.below (HBW.out W hW); have h := ways_any m.text tA T tc M q j W (HTB.out W hW) HTE.out.symm (rdg_bytes hs.img.text hs.ok.tb) (by have h1 := HTXT.out; have h2 := HTE.out; omega) (by rw [← HTE.out]; exact hs.ok.tc) HTW.out.m; rw [← HTW.out.br, ← HTW.out.ot] at h; exact h
  have HCX : Hid (∀ W, Below wx.heap.size wx W → Calls Tryd.prog 27 #[.slice tA2 T2 tc2] W fun e w' => e = .returned (.tuple #[.int .i64 (bS i brN N : Nat), .int .i64 (bS i otN N : Nat)]) ∧ Below W.heap.size W w') := Lib.hid fun W hW =>
   ways_any x.text tA2 T2 tc2 N p i W (HTB.out W hW) hT2.symm (rdg_bytes ((HEV.out.img.text.below hW).more hW.size) HBY.out) (by have h1 := HTXT.out; have h2 := HFWX.out; omega) (by have h := HEV.out.cap; rw [hT2] at h; exact h) HTW.out.x
  obtain ⟨cb, hcb⟩ : ∃ z, bS i brN N = z := ⟨_, rfl⟩
  obtain ⟨co, hco⟩ : ∃ z, bS i otN N = z := ⟨_, rfl⟩
  rw [hcb, hco] at HCM HCX; have k0 := HMX.out.cell 0 rfl; have kl := HMX.out.lt; clear hT2 hbm hcb hco
  go_wp2_with fail
  refine (HCM.out _ (Below.refl _ _)).mono ?_; rintro e w5 ⟨rfl, hb5⟩; have x0 := (HX0.out.keep hb5).cell 0 rfl; have xl := (HX0.out.keep hb5).lt; have HB5 := Lib.hid hb5; clear hb5 k0 kl
  go_wp2_with fail
  refine (HCX.out _ HB5.out).mono ?_; rintro e w6 ⟨rfl, hb6⟩; have HBE := Lib.hid (HB1.out.trans ((HBW.out _ (HB5.out.trans (hb6.mono HB5.out.size))).mono HB1.out.size)); clear hb6 x0 xl; have q1 : ((cb : Int) == (cb : Int)) = true := by simp
  have q2 : ((co : Int) == (co : Int)) = true := by simp
  have q3 : decide ((cb : Int) ≥ 0) = true := decide_eq_true (by omega); have q4 : decide ((0 : Int) ≤ (cb : Int)) = true := decide_eq_true (by omega); have q5 : (cb : Int) ≥ 0 := by omega
  go_wp2_with fail
  go_ret
  exact ⟨by simp, HBE.out⟩
set_option maxRecDepth 100000 in
theorem emitWays_contract (H : Type) (enc : TypeId × Value → H) (W : World) (base : Nat) (args : Array Value) (ds gs : List (DataW H)) (before : List MemPlace)
 (hval : ∀ (j : Nat) t v, Tryd.f11.params[j]? = some t → args[j]? = some v → Value.okWide Tryd.prog W .any base t v)
 (hW : DataW.Whole enc Tryd.prog Tryd.f11.params.toList Rows.emitWaysSpec.vars false W args.toList ds gs before) (hL : laidMetH Tryd.prog Rows.emitWaysRow.laid W)
 (hz : (DataW.weightsEach Tryd.prog (Tryd.f11.params.toList ++ (OpenSpec.ofChange Rows.emitWaysSpec).bare.plain.varTypes Tryd.prog) (ds ++ gs)).all (· ≤ reachBytes) = true) :
 Calls Tryd.prog 11 args W fun e W' => ∃ v, e = .returned v ∧ Rows.emitWaysSpec.post enc Tryd.prog Tryd.f11 false true false false W args v W' := by
 have hT : Tabs W := tabs_of_laid5 hL; have hW0 := hW; obtain ⟨p, q, hA0, hV, rfl, hfz, hnd⟩ := hW; have hA : DataW.TrodAll enc Tryd.prog W 0 (fun _ => true) true Tryd.f11.params.toList args.toList ds p := hA0; rw [Tryd.params11] at hA hval; obtain ⟨v0, vs0, d0, ds0, p0, q0, hargs, rfl, rfl, h0, r0⟩ := trodAll_cons hA; obtain ⟨v1, vs1, d1, ds1, p1, q1, rfl, rfl, rfl, h1, r1⟩ := trodAll_cons r0; obtain ⟨rfl, rfl, rfl⟩ := trodAll_nil r1; obtain rfl : args = #[v0, v1] := by cases args; simp_all
 obtain ⟨rfl, rfl⟩ := trodVars_none hV; clear hA0; obtain ⟨A, cap, L, rfl, hcap, hcm, hR, hd⟩ := open_raws (hval 0 22 v0 rfl rfl) h0; obtain ⟨iA, icap, IL, rfl, hicap, hicm, hI64, hIR, hid⟩ := open_nums (hval 1 38 v1 rfl rfl) h1
 have hL2 : L.length ≤ 140737488355328 := by
  rcases hd with ⟨-, rfl, -⟩ | ⟨elems, spare, rfl, hl⟩
  · exact Nat.zero_le _
  · have h1 := sized_slice hz (j := 0) (t := 22) (by rw [Tryd.params11]; rfl) rfl Tryd.underlying22; have h2 : Tryd.prog.bytesOf 26 = 32 := by kernel_rfl
    have h3 := reachBytes_lt; rw [h2, hl] at h1; omega
 have hIL : IL.length ≤ 140737488355328 := by
  rcases hid with ⟨-, rfl, -⟩ | ⟨elems, spare, rfl, hl⟩
  · exact Nat.zero_le _
  · have h1 := sized_slice hz (j := 1) (t := 38) (by rw [Tryd.params11]; rfl) rfl Tryd.underlying38; have h2 : Tryd.prog.bytesOf 3 = 8 := by kernel_rfl
    have h3 := reachBytes_lt; rw [h2, hl] at h1; omega
 refine (emitWays_walk L A cap IL iA icap W hT hR hL2 hcap hI64 hIR hIL hicap).mono fun e W' ⟨he, hb⟩ => ?_
 subst he; exact ⟨_, rfl, law_post hW0 rfl rfl (by kernel_rfl) (by kernel_rfl) hb⟩
set_option maxRecDepth 100000 in
theorem emitWays_met (os : Os) : laidMet Tryd.prog Rows.emitWaysRow.laid ((laidWorld5 os).forCall (fun _ _ => 0) ⟨#[], #[.slice none 0 0, .slice none 0 0], []⟩).memory :=
 laidMet_of_run' 8 (by kernel_rfl) (by kernel_rfl)
set_option maxRecDepth 100000 in
theorem emitWays_reads (os : Os) {H : Type} (enc : TypeId × Value → H) : ∃ places, DataW.whole enc Tryd.prog ((laidWorld5 os).forCall (fun _ _ => 0) ⟨#[], #[.slice none 0 0, .slice none 0 0], []⟩).memory Tryd.f11.params.toList Rows.emitWaysSpec.vars false (#[.slice none 0 0, .slice none 0 0] : Array Value).toList 8 = some ([.nil, .nil], [], places) :=
 ⟨[], by kernel_rfl⟩
set_option maxRecDepth 100000 in
theorem emitWays_lifted (os : Os) (started : os.Started) (H : Type) (enc : TypeId × Value → H) (F : Stop.Interp) :
 ReturnsInHanded {} Tryd.checked os 11 .any ((OpenSpec.ofChange Rows.emitWaysSpec).preRow enc Tryd.prog Tryd.f11 Rows.emitWaysRow.domain false Rows.emitWaysRow.laid) (((OpenSpec.ofChange Rows.emitWaysSpec).at F).post enc Tryd.prog Tryd.f11 false true false false) := by
 obtain ⟨places, hx⟩ := emitWays_reads os enc
 refine returnsInHanded_of_row (C := Tryd.checked) (s := OpenSpec.ofChange Rows.emitWaysSpec) ownP started (by kernel_rfl) Tryd.func11
  (witness_row_at (enc := enc) (C := Tryd.checked) false (laidWorld5 os) #[.slice none 0 0, .slice none 0 0] rfl (by kernel_rfl) (by kernel_rfl) (by kernel_rfl)
   (OpenSpec.preRow_of_cond 8 hx (by kernel_rfl) (fun k hk => by cases hk) (by kernel_rfl) (emitWays_met os))) ?_
 intro W base args ds gs before hval hW _ _ hreach hL _ _; exact emitWays_contract H enc W base args ds gs before hval hW hL hreach
set_option maxRecDepth 100000 in
theorem emitWays_said : Rows.EmitWaysSaid :=
 OpenClaim.holds_of_cond 11 Tryd.f11 rfl rfl rfl rfl rfl rfl rfl ⟨rfl, rfl, rfl, rfl, rfl⟩ rfl rfl rfl rfl rfl (by kernel_rfl) Tryd.func11 (by kernel_rfl)
  (of_decide_eq_true (by kernel_rfl)) (by unfold Func.isWrapper; first | (rw [if_pos (by decide +kernel)]; kernel_rfl) | (rw [if_neg (by decide +kernel)]; exact ⟨rfl, rfl⟩))
  (fun os started H enc _ F => by rw [OpenClaim.pre_eq_preRow]; exact emitWays_lifted os started H enc F)
set_option maxRecDepth 100000 in
theorem emitWays_plain (f : FuncId) (fn : Func) (hf : Tryd.pinned.checked.prog.funcNamed "bolthole/boltholekeep.EmitWays" = some f) (hfn : Tryd.pinned.checked.prog.funcs[f]? = some fn) :
 ∀ (j : Nat) t, fn.params[j]? = some t → Tryd.pinned.checked.prog.wantsStandIn t = false := by
 obtain rfl : f = 11 := Option.some.inj ((show Tryd.prog.funcNamed "bolthole/boltholekeep.EmitWays" = some 11 by kernel_rfl).symm.trans hf) |>.symm; obtain rfl : fn = Tryd.f11 := (Option.some.inj (Tryd.func11.symm.trans hfn)).symm; intro j t ht
 have hall : ∀ t ∈ Tryd.f11.params, Tryd.prog.wantsStandIn t = false := by
  rw [Tryd.params11]; intro t ht; simp only [List.mem_toArray, List.mem_cons, List.not_mem_nil, or_false] at ht; rcases ht with rfl | rfl
  all_goals kernel_rfl
 exact hall t (Array.mem_of_getElem? ht)
set_option maxRecDepth 100000 in
theorem emitWays_card : Rows.EmitWaysCardSaid :=
 Claim7.holds_tied_plain_at .later [] _ _ _ _ emitWays_said (fun _ h => by cases h) (by kernel_rfl) (fun _ h => by cases h) emitWays_row_tie rfl ⟨rfl, rfl⟩ (by kernel_rfl) rfl (fun f fn hf hfn => ⟨by kernel_rfl, emitWays_plain f fn hf hfn⟩) (by kernel_rfl)
end Go.Proofs.YtokbgdlenbhklaaDoor
