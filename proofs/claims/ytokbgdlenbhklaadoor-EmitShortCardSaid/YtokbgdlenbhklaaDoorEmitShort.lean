/- EmitShort, proved. -/
import Derived.Test.YtokbgdlenbhklaaDoorLawS
import Derived.Test.YtokbgdlenbhklaaDoorEmV
import Derived.Test.YtokbgdlenbhklaaDoorEmSh
import Derived.Deep.DeepCutAuto
import Derived.Deep.CutBlock
import Derived.Deep.LoopGhost
import Derived.Deep.QuietTactic
import Derived.BigQuiet
import Derived.IntWalk
import Derived.WalkLawsBesides
namespace Go.Proofs.YtokbgdlenbhklaaDoor
open Go.ChangeShapes Go.WideShapes Go.ChangeAt Go.RowKit Go.Joins
open Go.ChangeMaps (open_string)
set_option maxHeartbeats 8000000 in
set_option maxRecDepth 100000 in
theorem emitShort_walk (l : List RawI) (A : Option Addr) (c : Nat) (Ls : List Int) (oA : Option Addr) (oc : Nat) (w : World) (hT : Tabs w) (hR : RdR w w.heap.size A l) (hl : l.length ≤ 140737488355328) (hc : l.length ≤ c) (hN : ∀ x ∈ Ls, N64 x) (hR2 : RdG w w.heap.size oA (intsV .i64 Ls)) (hl2 : Ls.length ≤ 140737488355328) (hc2 : Ls.length ≤ oc) :
 Calls Tryd.prog 6 #[.slice A l.length c, .slice oA Ls.length oc] w fun e w' => e = .returned (.bool true) ∧ Below w.heap.size w w' := by
 have HTL := Lib.hid (emitTells_any w hT); have HFW : Hid (∀ W, Below w.heap.size w W → Calls Tryd.prog 16 #[.slice A l.length c] W (FlwPost W l)) := Lib.hid fun W hW => flowed_any l A c W (hT.below hW) ((hR.below hW).more hW.size) hc hl
 have HT := Lib.hid hT; have HR2 := Lib.hid hR2; have HN := Lib.hid hN; have HLC := Lib.hid (And.intro hl2 hc2); obtain ⟨ll, hll⟩ : ∃ z, l.length = z := ⟨_, rfl⟩
 obtain ⟨lo, hlo⟩ : ∃ z, Ls.length = z := ⟨_, rfl⟩
 rw [hll] at HFW ⊢; rw [hlo]; have HLO := Lib.hid hlo; clear hT hR hl hc hll hlo hN hR2 hl2 hc2
 go_enter Tryd.func6, Tryd.ntmps6
 go_wp2_with fail
 refine HTL.out.mono ?_; rintro e w0 ⟨rfl, hb0⟩; have HB0 := Lib.hid hb0; clear hb0 HTL
 go_wp2_with fail
 refine (HFW.out _ HB0.out).mono ?_; rintro e w1 ⟨hb1, m, v, d, xA, yA, zA, xc, yc, zc, rfl, hst⟩; have hb1w : Below w.heap.size w w1 := (HB0.out.trans (hb1.mono HB0.out.size))
 have HB1 := Lib.hid hb1w; have HST := Lib.hid hst; have HTXT := Lib.hid hst.pgm.text; obtain ⟨P, hP⟩ : ∃ z, shL d Ls = z := ⟨_, rfl⟩
 have ho := shL_good hst.sizes.2.2.2.2 Ls; rw [hP] at ho; obtain ⟨x, hx⟩ : ∃ z, emL m d P = z := ⟨_, rfl⟩
 have HPE := Lib.hid hP; have HXE := Lib.hid hx; have HO := Lib.hid ho; obtain ⟨tA, tc, fA, fc, bA, bc, dA, dc, lA, lc⟩ := v; unfold Img.val flowV; simp only; obtain ⟨T, hTe⟩ : ∃ z, m.text.length = z := ⟨_, rfl⟩
 obtain ⟨NF, hNF⟩ : ∃ z, m.funcs.length = z := ⟨_, rfl⟩
 obtain ⟨nb, hnb⟩ : ∃ z, m.tables.length = z := ⟨_, rfl⟩
 obtain ⟨nd, hnd⟩ : ∃ z, m.data.length = z := ⟨_, rfl⟩
 obtain ⟨nl, hnl⟩ : ∃ z, m.lines.length = z := ⟨_, rfl⟩
 obtain ⟨NB, hNB⟩ : ∃ z, d.blocks.length = z := ⟨_, rfl⟩
 obtain ⟨nt, hnt⟩ : ∃ z, d.tables.length = z := ⟨_, rfl⟩
 obtain ⟨nz, hnz⟩ : ∃ z, d.firsts.length = z := ⟨_, rfl⟩
 obtain ⟨NP, hNP⟩ : ∃ z, P.length = z := ⟨_, rfl⟩
 have HSH : Hid (∀ W, Below w1.heap.size w1 W → Calls Tryd.prog 19 #[.agg #[.slice xA NB xc, .slice yA nt yc, .slice zA nz zc], .slice oA lo oc] W (ShfPost W d Ls)) := Lib.hid fun W hW => by
  have h := shuf_st (hst.below hW) Ls oA oc ((HR2.out.below (hb1w.trans (hW.mono hb1w.size))).more (Nat.le_trans hb1w.size hW.size)) HLC.out.2 HLC.out.1 HN.out; unfold flowV at h; rw [hNB, hnt, hnz, HLO.out] at h; exact h
 have HEM : Hid (∀ W A c, Below w1.heap.size w1 W → PartsRd W A c P → Calls Tryd.prog 22 #[.agg #[.slice tA T tc, .slice fA NF fc, .slice bA nb bc, .slice dA nd dc, .slice lA nl lc, .int .i64 m.entry], .slice A NP c] W (EmPost W m d P)) := Lib.hid fun W A c hW hq => by
  have h := emit_st (hst.below hW) (HT.out.below (hb1w.trans (hW.mono hb1w.size))) hq ho; unfold Img.val at h; simp only at h; rw [hTe, hNF, hnb, hnd, hnl, hNP] at h; exact h
 rw [hTe, hNF, hnb, hnd, hnl, hNB, hnt, hnz]; have HNP := Lib.hid hNP; clear hTe hnl hnb hnd hNB hnt hnz hNF hNP hst hP hx ho hb1 hb1w; have hcode := emL_code HST.out.pgm.check HST.out.rc HO.out
 have HCD : Hid (((x.text.length : Nat) : Int) = szI (emIts d P) ∧ (∀ (k : Nat) (t : ItD), (emIts d P)[k]? = some t → decB x.text t.pos = (resIt (emIts d P) (mkL d P) t, sizeK t.i.k t.i.l, 0) ∧ t.pos = szI ((emIts d P).take k) ∧ szI ((emIts d P).take (k + 1)) = t.pos + sizeK t.i.k t.i.l ∧ 1 ≤ sizeK t.i.k t.i.l) ∧ (∀ t ∈ emIts d P, t.i.l = true → (resIt (emIts d P) (mkL d P) t).n < -128 ∨ 127 < (resIt (emIts d P) (mkL d P) t).n) ∧ x.text.length ≤ 6400 ∧ ∀ z ∈ x.text, 0 ≤ z ∧ z < 256) := Lib.hid (by
  have h1 := HXE.out; have h2 := hcode.len; have h3 := hcode.dec; have h4 := hcode.few; have h5 := hcode.bytes; rw [h1] at h2 h3 h4 h5; have := HTXT.out
  exact ⟨h2, h3, hcode.far, by omega, h5⟩)
 have HCK : Hid (∀ t ∈ emIts d P, t.i.chk = 0) := Lib.hid hcode.chk; clear hcode HFW HB0 HR2 HN HLC HLO
 go_upto_region 4 with fail
 obtain ⟨X, hX⟩ : ∃ X, w1.alloc (.cells #[.slice tA T tc, .slice fA NF fc, .slice bA nb bc, .slice dA nd dc, .slice lA nl lc, .int .i64 m.entry] 41) = X := ⟨_, rfl⟩
 rw [hX]; have hm1 : Blk X w1.heap.size 41 [.slice tA T tc, .slice fA NF fc, .slice bA nb bc, .slice dA nd dc, .slice lA nl lc, .int .i64 m.entry] := by rw [← hX]; exact Blk.new w1 _ _
 have hbX : Below w1.heap.size w1 X := by rw [← hX]; exact (Below.refl _ _).alloc (Nat.le_refl _) _
 have hxs : X.heap.size = w1.heap.size + 1 := by rw [← hX]; simp
 obtain ⟨Y, hY⟩ : ∃ Y, X.alloc (.cells #[.slice xA NB xc, .slice yA nt yc, .slice zA nz zc] 44) = Y := ⟨_, rfl⟩
 rw [hY]; have hfY : Blk Y (w1.heap.size + 1) 44 [.slice xA NB xc, .slice yA nt yc, .slice zA nz zc] := by rw [← hY, ← hxs]; exact Blk.new X _ _
 have hbY : Below X.heap.size X Y := by rw [← hY]; exact (Below.refl _ _).alloc (Nat.le_refl _) _
 have hmY := hm1.keep hbY; have hbWY := hbX.trans (hbY.mono hbX.size); obtain ⟨BX, hBX⟩ : ∃ z, w1.heap.size = z := ⟨_, rfl⟩
 have HWY := Lib.hid hbWY; rw [hBX] at hfY hmY ⊢; have HMY := Lib.hid hmY; have HFY := Lib.hid hfY; have HSHY : Hid (∀ W, Below Y.heap.size Y W → _) := Lib.hid fun W hW => HSH.out W (hbWY.trans (hW.mono hbWY.size))
 have HEMY : Hid (∀ W A c, Below Y.heap.size Y W → _) := Lib.hid fun W A c hW => HEM.out W A c (hbWY.trans (hW.mono hbWY.size))
 have m0 := hmY.cell 0 rfl; have m1 := hmY.cell 1 rfl; have m2 := hmY.cell 2 rfl; have m3 := hmY.cell 3 rfl; have m4 := hmY.cell 4 rfl; have m5 := hmY.cell 5 rfl; have f0 := hfY.cell 0 rfl; have f1 := hfY.cell 1 rfl; have f2 := hfY.cell 2 rfl; clear hX hY hm1 hbX hbY hmY hbWY hxs hBX hfY HSH HEM
 go_cut [8, 9, 10] (fun s8 s9 s10 wx => ∃ (z : Nat) (v2 : ImgV) (eA : Option Addr) (en ec : Nat) (ps : List (Int × Int)), s8 = .pointer (some ⟨z, 0, none⟩) ∧ s9 = .slice eA en ec ∧ s10 = .int .i64 0 ∧ Hid (EmVar Y wx z x (emIts d P) v2 eA en ec ps))
 case first =>
  refine wp_region_W (fun w' => w'.cell? ⟨BX, 0, none⟩ = some (.slice tA T tc) ∧ w'.cell? ⟨BX, 1, none⟩ = some (.slice fA NF fc) ∧ w'.cell? ⟨BX, 2, none⟩ = some (.slice bA nb bc) ∧ w'.cell? ⟨BX, 3, none⟩ = some (.slice dA nd dc) ∧ w'.cell? ⟨BX, 4, none⟩ = some (.slice lA nl lc) ∧ w'.cell? ⟨BX, 5, none⟩ = some (.int .i64 m.entry) ∧ w'.cell? ⟨BX + 1, 0, none⟩ = some (.slice xA NB xc) ∧ w'.cell? ⟨BX + 1, 1, none⟩ = some (.slice yA nt yc) ∧ w'.cell? ⟨BX + 1, 2, none⟩ = some (.slice zA nz zc)) 13 (by kernel_rfl) (by (try dsimp only); go_keep) (fun hHeld => ?_)
  have hbD : Below Y.heap.size Y Y.drew := (Below.refl _ _).drew; refine wpW_q 0 hHeld ?_; (try simp only [putE]); refine wpW_q 1 hHeld ?_; (try simp only [putE]); refine wpW_q 2 hHeld ?_; (try simp only [putE]); refine wpW_all [3, 9] (by kernel_rfl) (by simp) ?_; refine AllW.cons (i := 3) rfl (fun K hK => ?_) ?_
  · skip
    go_simp
    refine (HSHY.out Y.drew hbD).mono ?_; rintro e w3 ⟨hb3, pA, pc, lv, rfl, hlv, hpr, hpb⟩; rw [HPE.out] at hlv; have hpt := shf_parts hlv hpr hpb; rw [show lv.length = NP by rw [← HNP.out, ← hlv, List.length_map]]; clear hpr hpb hlv; have hbX3 : Below Y.heap.size Y w3 := hbD.trans (hb3.mono hbD.size); have y3_0 := (hbX3.cell (p := ⟨BX, 0, none⟩) HMY.out.lt).trans m0; have y3_1 := (hbX3.cell (p := ⟨BX, 1, none⟩) HMY.out.lt).trans m1; have y3_2 := (hbX3.cell (p := ⟨BX, 2, none⟩) HMY.out.lt).trans m2
    have y3_3 := (hbX3.cell (p := ⟨BX, 3, none⟩) HMY.out.lt).trans m3; have y3_4 := (hbX3.cell (p := ⟨BX, 4, none⟩) HMY.out.lt).trans m4; have y3_5 := (hbX3.cell (p := ⟨BX, 5, none⟩) HMY.out.lt).trans m5; have y3_6 := (hbX3.cell (p := ⟨BX + 1, 0, none⟩) HFY.out.lt).trans f0; have y3_7 := (hbX3.cell (p := ⟨BX + 1, 1, none⟩) HFY.out.lt).trans f1; have y3_8 := (hbX3.cell (p := ⟨BX + 1, 2, none⟩) HFY.out.lt).trans f2
    refine hK.out _ _ (by (try dsimp only); go_keep) (fun hHeld => ?_); clear hK K; (try simp only [putE]); refine wpW_all [4, 9] (by kernel_rfl) (by simp) ?_; refine AllW.cons (i := 4) rfl (fun K hK => ?_) ?_
    · skip
      go_simp
      have hpe := hpt; refine (HEMY.out w3 pA pc hbX3 hpe).mono ?_; rintro e w4 ⟨hb4, ⟨tA2, tc2, fA2, fc2, bA2, bc2, dA2, dc2, lA2, lc2⟩, eA, en, ec, ps, rfl, hown, hpl, hprs, hpk⟩; rw [HXE.out] at hown ⊢; unfold Img.val; simp only; have hbX4 : Below Y.heap.size Y w4 := hbX3.trans (hb4.mono hbX3.size); have y4_0 := (hbX4.cell (p := ⟨BX, 0, none⟩) HMY.out.lt).trans m0; have y4_1 := (hbX4.cell (p := ⟨BX, 1, none⟩) HMY.out.lt).trans m1; have y4_2 := (hbX4.cell (p := ⟨BX, 2, none⟩) HMY.out.lt).trans m2
      have y4_3 := (hbX4.cell (p := ⟨BX, 3, none⟩) HMY.out.lt).trans m3; have y4_4 := (hbX4.cell (p := ⟨BX, 4, none⟩) HMY.out.lt).trans m4; have y4_5 := (hbX4.cell (p := ⟨BX, 5, none⟩) HMY.out.lt).trans m5; have y4_6 := (hbX4.cell (p := ⟨BX + 1, 0, none⟩) HFY.out.lt).trans f0; have y4_7 := (hbX4.cell (p := ⟨BX + 1, 1, none⟩) HFY.out.lt).trans f1; have y4_8 := (hbX4.cell (p := ⟨BX + 1, 2, none⟩) HFY.out.lt).trans f2
      refine hK.out _ _ (by (try dsimp only); go_keep) (fun hHeld => ?_); clear hK K; (try simp only [putE]); refine wpW_q 5 hHeld ?_; (try simp only [putE]); refine wpW_q 6 hHeld ?_; (try simp only [putE]); refine wpW_q 7 hHeld ?_; (try simp only [putE]); refine wpW_q 8 hHeld ?_; (try simp only [putE]); refine wpW_one 9 rfl (by kernel_rfl) (fun K hK => ?_)
      go_simp
      have zb0 : Blk (w4.alloc (.cells #[.slice none 0 0, .slice none 0 0, .slice none 0 0, .slice none 0 0, .slice none 0 0, .int .i64 0] 41)) (w4.heap.size) 41 [.slice none 0 0, .slice none 0 0, .slice none 0 0, .slice none 0 0, .slice none 0 0, .int .i64 0] := Blk.new w4 _ _; have hbA : Below Y.heap.size Y (w4.alloc (.cells #[.slice none 0 0, .slice none 0 0, .slice none 0 0, .slice none 0 0, .slice none 0 0, .int .i64 0] 41)) := hbX4.alloc (hbX4.size) _; have hneA0 : ¬ w4.heap.size = BX := by have h1 := hbX4.size; have h2 := HMY.out.lt; omega
      have hneA1 : ¬ w4.heap.size = BX + 1 := by have h1 := hbX4.size; have h2 := HFY.out.lt; omega
      refine hK.out _ _ (by (try dsimp only); go_keep) (fun hHeld => ?_); clear hK K; (try simp only [putE]); refine wpW_one 10 rfl (by kernel_rfl) (fun K hK => ?_)
      go_simp
      refine hK.out _ _ (by (try dsimp only); go_keep) (fun hHeld => ?_); clear hK K; (try simp only [putE]); refine wpW_q 11 hHeld ?_; (try simp only [putE]); refine wpW_q 12 hHeld ?_; (try simp only [putE]); refine wpW_done (by kernel_rfl) ?_ _; have hev := emVar_new (v := ⟨tA2, tc2, fA2, fc2, bA2, bc2, dA2, dc2, lA2, lc2⟩) hbX4 hown hpl hprs hpk
      dsimp only at hev
      go_wp2
      go_meet
      exact ⟨_, ⟨tA2, tc2, fA2, fc2, bA2, bc2, dA2, dc2, lA2, lc2⟩, eA, en, ec, ps, rfl, rfl, rfl, Lib.hid hev⟩
    refine AllW.cons (i := 9) rfl (fun K hK => ?_) AllW.nil
    go_simp
    have zb0 : Blk (w3.alloc (.cells #[.slice none 0 0, .slice none 0 0, .slice none 0 0, .slice none 0 0, .slice none 0 0, .int .i64 0] 41)) (w3.heap.size) 41 [.slice none 0 0, .slice none 0 0, .slice none 0 0, .slice none 0 0, .slice none 0 0, .int .i64 0] := Blk.new w3 _ _; have hbA : Below Y.heap.size Y (w3.alloc (.cells #[.slice none 0 0, .slice none 0 0, .slice none 0 0, .slice none 0 0, .slice none 0 0, .int .i64 0] 41)) := hbX3.alloc (hbX3.size) _; have hneA0 : ¬ w3.heap.size = BX := by have h1 := hbX3.size; have h2 := HMY.out.lt; omega
    have hneA1 : ¬ w3.heap.size = BX + 1 := by have h1 := hbX3.size; have h2 := HFY.out.lt; omega
    refine hK.out _ _ (by (try dsimp only); go_keep) (fun hHeld => ?_); clear hK K; (try simp only [putE]); refine wpW_one 4 rfl (by kernel_rfl) (fun K hK => ?_)
    go_simp
    have hpe : PartsRd (w3.alloc (.cells #[.slice none 0 0, .slice none 0 0, .slice none 0 0, .slice none 0 0, .slice none 0 0, .int .i64 0] 41)) pA pc P := hpt.below ((Below.refl w3.heap.size w3).alloc (Nat.le_refl _) _); refine (HEMY.out (w3.alloc (.cells #[.slice none 0 0, .slice none 0 0, .slice none 0 0, .slice none 0 0, .slice none 0 0, .int .i64 0] 41)) pA pc hbA hpe).mono ?_; rintro e w4 ⟨hb4, ⟨tA2, tc2, fA2, fc2, bA2, bc2, dA2, dc2, lA2, lc2⟩, eA, en, ec, ps, rfl, hown, hpl, hprs, hpk⟩; rw [HXE.out] at hown ⊢; unfold Img.val; simp only
    have hbX4 : Below Y.heap.size Y w4 := hbA.trans (hb4.mono hbA.size); have y4_0 := (hbX4.cell (p := ⟨BX, 0, none⟩) HMY.out.lt).trans m0; have y4_1 := (hbX4.cell (p := ⟨BX, 1, none⟩) HMY.out.lt).trans m1; have y4_2 := (hbX4.cell (p := ⟨BX, 2, none⟩) HMY.out.lt).trans m2; have y4_3 := (hbX4.cell (p := ⟨BX, 3, none⟩) HMY.out.lt).trans m3; have y4_4 := (hbX4.cell (p := ⟨BX, 4, none⟩) HMY.out.lt).trans m4
    have y4_5 := (hbX4.cell (p := ⟨BX, 5, none⟩) HMY.out.lt).trans m5; have y4_6 := (hbX4.cell (p := ⟨BX + 1, 0, none⟩) HFY.out.lt).trans f0; have y4_7 := (hbX4.cell (p := ⟨BX + 1, 1, none⟩) HFY.out.lt).trans f1; have y4_8 := (hbX4.cell (p := ⟨BX + 1, 2, none⟩) HFY.out.lt).trans f2; have zb5 := zb0.keep hb4; have zc4_0 := zb5.cell 0 rfl; have zf4_0 := zb5.free 0; have zc4_1 := zb5.cell 1 rfl; have zf4_1 := zb5.free 1; have zc4_2 := zb5.cell 2 rfl; have zf4_2 := zb5.free 2
    have zc4_3 := zb5.cell 3 rfl; have zf4_3 := zb5.free 3; have zc4_4 := zb5.cell 4 rfl; have zf4_4 := zb5.free 4; have zc4_5 := zb5.cell 5 rfl; have zf4_5 := zb5.free 5; have zl4 := zb5.lt; refine hK.out _ _ (by (try dsimp only); go_keep) (fun hHeld => ?_); clear hK K; (try simp only [putE]); refine wpW_q 5 hHeld ?_; (try simp only [putE]); refine wpW_q 6 hHeld ?_; (try simp only [putE]); refine wpW_q 7 hHeld ?_; (try simp only [putE]); refine wpW_q 8 hHeld ?_; (try simp only [putE]); refine wpW_one 10 rfl (by kernel_rfl) (fun K hK => ?_)
    go_simp
    refine hK.out _ _ (by (try dsimp only); go_keep) (fun hHeld => ?_); clear hK K; (try simp only [putE]); refine wpW_q 11 hHeld ?_; (try simp only [putE]); refine wpW_q 12 hHeld ?_; (try simp only [putE]); refine wpW_done (by kernel_rfl) ?_ _; have hev := emVar_old (v := ⟨tA2, tc2, fA2, fc2, bA2, bc2, dA2, dc2, lA2, lc2⟩) zb5 hbX4 hbX3.size zb0.lt hown hpl hprs hpk
    dsimp only at hev
    go_wp2
    go_meet
    exact ⟨_, ⟨tA2, tc2, fA2, fc2, bA2, bc2, dA2, dc2, lA2, lc2⟩, eA, en, ec, ps, rfl, rfl, rfl, Lib.hid hev⟩
  refine AllW.cons (i := 9) rfl (fun K hK => ?_) AllW.nil
  go_simp
  have zb0 : Blk (Y.alloc (.cells #[.slice none 0 0, .slice none 0 0, .slice none 0 0, .slice none 0 0, .slice none 0 0, .int .i64 0] 41)).drew (Y.heap.size) 41 [.slice none 0 0, .slice none 0 0, .slice none 0 0, .slice none 0 0, .slice none 0 0, .int .i64 0] := Blk.drew (Blk.new Y _ _); have hbA : Below Y.heap.size Y (Y.alloc (.cells #[.slice none 0 0, .slice none 0 0, .slice none 0 0, .slice none 0 0, .slice none 0 0, .int .i64 0] 41)).drew := ((Below.refl _ _).alloc (Nat.le_refl _) _).drew
  have hneA0 : ¬ Y.heap.size = BX := by have h1 := hbD.size; have h2 := HMY.out.lt; omega
  have hneA1 : ¬ Y.heap.size = BX + 1 := by have h1 := hbD.size; have h2 := HFY.out.lt; omega
  refine hK.out _ _ (by (try dsimp only); go_keep) (fun hHeld => ?_); clear hK K; (try simp only [putE]); refine wpW_one 3 rfl (by kernel_rfl) (fun K hK => ?_)
  go_simp
  refine (HSHY.out (Y.alloc (.cells #[.slice none 0 0, .slice none 0 0, .slice none 0 0, .slice none 0 0, .slice none 0 0, .int .i64 0] 41)).drew hbA).mono ?_; rintro e w3 ⟨hb3, pA, pc, lv, rfl, hlv, hpr, hpb⟩; rw [HPE.out] at hlv; have hpt := shf_parts hlv hpr hpb; rw [show lv.length = NP by rw [← HNP.out, ← hlv, List.length_map]]; clear hpr hpb hlv; have hbX3 : Below Y.heap.size Y w3 := hbA.trans (hb3.mono hbA.size); have y3_0 := (hbX3.cell (p := ⟨BX, 0, none⟩) HMY.out.lt).trans m0
  have y3_1 := (hbX3.cell (p := ⟨BX, 1, none⟩) HMY.out.lt).trans m1; have y3_2 := (hbX3.cell (p := ⟨BX, 2, none⟩) HMY.out.lt).trans m2; have y3_3 := (hbX3.cell (p := ⟨BX, 3, none⟩) HMY.out.lt).trans m3; have y3_4 := (hbX3.cell (p := ⟨BX, 4, none⟩) HMY.out.lt).trans m4; have y3_5 := (hbX3.cell (p := ⟨BX, 5, none⟩) HMY.out.lt).trans m5; have y3_6 := (hbX3.cell (p := ⟨BX + 1, 0, none⟩) HFY.out.lt).trans f0
  have y3_7 := (hbX3.cell (p := ⟨BX + 1, 1, none⟩) HFY.out.lt).trans f1; have y3_8 := (hbX3.cell (p := ⟨BX + 1, 2, none⟩) HFY.out.lt).trans f2; have zb4 := zb0.keep hb3; have zc3_0 := zb4.cell 0 rfl; have zf3_0 := zb4.free 0; have zc3_1 := zb4.cell 1 rfl; have zf3_1 := zb4.free 1; have zc3_2 := zb4.cell 2 rfl; have zf3_2 := zb4.free 2; have zc3_3 := zb4.cell 3 rfl; have zf3_3 := zb4.free 3; have zc3_4 := zb4.cell 4 rfl; have zf3_4 := zb4.free 4; have zc3_5 := zb4.cell 5 rfl; have zf3_5 := zb4.free 5; have zl3 := zb4.lt
  refine hK.out _ _ (by (try dsimp only); go_keep) (fun hHeld => ?_); clear hK K; (try simp only [putE]); refine wpW_one 4 rfl (by kernel_rfl) (fun K hK => ?_)
  go_simp
  have hpe := hpt; refine (HEMY.out w3 pA pc hbX3 hpe).mono ?_; rintro e w4 ⟨hb4, ⟨tA2, tc2, fA2, fc2, bA2, bc2, dA2, dc2, lA2, lc2⟩, eA, en, ec, ps, rfl, hown, hpl, hprs, hpk⟩; rw [HXE.out] at hown ⊢; unfold Img.val; simp only; have hbX4 : Below Y.heap.size Y w4 := hbX3.trans (hb4.mono hbX3.size); have y4_0 := (hbX4.cell (p := ⟨BX, 0, none⟩) HMY.out.lt).trans m0; have y4_1 := (hbX4.cell (p := ⟨BX, 1, none⟩) HMY.out.lt).trans m1; have y4_2 := (hbX4.cell (p := ⟨BX, 2, none⟩) HMY.out.lt).trans m2
  have y4_3 := (hbX4.cell (p := ⟨BX, 3, none⟩) HMY.out.lt).trans m3; have y4_4 := (hbX4.cell (p := ⟨BX, 4, none⟩) HMY.out.lt).trans m4; have y4_5 := (hbX4.cell (p := ⟨BX, 5, none⟩) HMY.out.lt).trans m5; have y4_6 := (hbX4.cell (p := ⟨BX + 1, 0, none⟩) HFY.out.lt).trans f0; have y4_7 := (hbX4.cell (p := ⟨BX + 1, 1, none⟩) HFY.out.lt).trans f1; have y4_8 := (hbX4.cell (p := ⟨BX + 1, 2, none⟩) HFY.out.lt).trans f2
  have zb5 := zb4.keep hb4; have zc4_0 := zb5.cell 0 rfl; have zf4_0 := zb5.free 0; have zc4_1 := zb5.cell 1 rfl; have zf4_1 := zb5.free 1; have zc4_2 := zb5.cell 2 rfl; have zf4_2 := zb5.free 2; have zc4_3 := zb5.cell 3 rfl; have zf4_3 := zb5.free 3; have zc4_4 := zb5.cell 4 rfl; have zf4_4 := zb5.free 4; have zc4_5 := zb5.cell 5 rfl; have zf4_5 := zb5.free 5; have zl4 := zb5.lt; refine hK.out _ _ (by (try dsimp only); go_keep) (fun hHeld => ?_); clear hK K; (try simp only [putE]); refine wpW_q 5 hHeld ?_; (try simp only [putE]); refine wpW_q 6 hHeld ?_; (try simp only [putE])
  refine wpW_q 7 hHeld ?_; (try simp only [putE]); refine wpW_q 8 hHeld ?_; (try simp only [putE]); refine wpW_one 10 rfl (by kernel_rfl) (fun K hK => ?_)
  go_simp
  refine hK.out _ _ (by (try dsimp only); go_keep) (fun hHeld => ?_); clear hK K; (try simp only [putE]); refine wpW_q 11 hHeld ?_; (try simp only [putE]); refine wpW_q 12 hHeld ?_; (try simp only [putE]); refine wpW_done (by kernel_rfl) ?_ _; have hev := emVar_old (v := ⟨tA2, tc2, fA2, fc2, bA2, bc2, dA2, dc2, lA2, lc2⟩) zb5 hbX4 (Nat.le_refl _) zb4.lt hown hpl hprs hpk
  dsimp only at hev
  go_wp2
  go_meet
  exact ⟨_, ⟨tA2, tc2, fA2, fc2, bA2, bc2, dA2, dc2, lA2, lc2⟩, eA, en, ec, ps, rfl, rfl, rfl, Lib.hid hev⟩
 case rest =>
  obtain ⟨z, v2, eA, en, ec, ps, rfl, rfl, rfl, HEV⟩ := hcut; obtain ⟨tA2, tc2, fA2, fc2, bA2, bc2, dA2, dc2, lA2, lc2⟩ := v2
  rename World => wx
  clear m0 m1 m2 m3 m4 m5 f0 f1 f2 HSHY HEMY HMY HFY; obtain ⟨T2, hT2⟩ : ∃ z, x.text.length = z := ⟨_, rfl⟩
  have HT2 := Lib.hid hT2; have hT26 : T2 ≤ 6400 := by have := HCD.out.2.2.2.1; omega
  have HTB : Hid (∀ W, Below wx.heap.size wx W → Tabs W) := Lib.hid fun W hW => HT.out.below (HB1.out.trans (((HWY.out.trans (HEV.out.bel.mono HWY.out.size)).trans (hW.mono (Nat.le_trans HWY.out.size HEV.out.bel.size))).mono HB1.out.size))
  have HBW : Hid (∀ W, Below wx.heap.size wx W → Below w.heap.size w W) := Lib.hid fun W hW => HB1.out.trans (((HWY.out.trans (HEV.out.bel.mono HWY.out.size)).trans (hW.mono (Nat.le_trans HWY.out.size HEV.out.bel.size))).mono HB1.out.size)
  obtain ⟨N, hNe⟩ : ∃ z, (emIts d P).length = z := ⟨_, rfl⟩
  have HNE := Lib.hid hNe
  have HX0 : Hid (Blk wx z 41 [.slice tA2 T2 tc2, .slice fA2 x.funcs.length fc2, .slice bA2 x.tables.length bc2, .slice dA2 x.data.length dc2, .slice lA2 x.lines.length lc2, .int .i64 x.entry]) := Lib.hid (by
   have h := HEV.out.blk; simp only [hT2] at h
   exact h)
  have HDC : Hid (∀ (k : Nat) (t : ItD) W, (emIts d P)[k]? = some t → Below wx.heap.size wx W → Calls Tryd.prog 23 #[.slice tA2 T2 tc2, .int .i64 t.pos] W fun e w' => e = .returned (.tuple #[.agg #[.int .i64 (resIt (emIts d P) (mkL d P) t).k, .int .i64 (resIt (emIts d P) (mkL d P) t).d, .int .i64 (resIt (emIts d P) (mkL d P) t).a, .int .i64 (resIt (emIts d P) (mkL d P) t).b, .int .i64 (resIt (emIts d P) (mkL d P) t).n, .bool (resIt (emIts d P) (mkL d P) t).l], .int .i64 (sizeK t.i.k t.i.l), .int .i64 0]) ∧ Below W.heap.size W w') := Lib.hid fun k t W hk hW => by
   have hdc := decode_any x.text tA2 T2 tc2 t.pos W (HTB.out W hW) hT2.symm (rdg_bytes ((HEV.out.img.text.below hW).more hW.size) HCD.out.2.2.2.2) (by omega) (by have h := HEV.out.cap; rw [hT2] at h; exact h); rw [(HCD.out.2.1 k t hk).1] at hdc; exact hdc
  clear hT2 hNe
  go_wp2_with fail
  go_loopg [11] N (fun gk s wr => ∃ (k : Nat) (at_ : Int), k ≤ N ∧ s = .int .i64 at_ ∧ Hid (at_ = szI ((emIts d P).take k)) ∧ Hid (Below wx.heap.size wx wr) ∧ N - k ≤ gk)
  case atStart => exact ⟨0, 0, Nat.zero_le _, rfl, Lib.hid rfl, Lib.hid (Below.refl _ _), Nat.le_refl _⟩
  case round =>
   obtain ⟨k, at_, hk, rfl, HAT, HB, hgk⟩ := hrel; have x0 := (HX0.out.keep HB.out).cell 0 rfl; have xl := (HX0.out.keep HB.out).lt
   by_cases hlt : k < N
   · have hkt : (emIts d P)[k]? = some ((emIts d P)[k]'(by have := HNE.out; omega)) := List.getElem?_eq_getElem _; generalize (emIts d P)[k]'(by have := HNE.out; omega) = t at hkt; obtain ⟨-, d2, d3, d4⟩ := HCD.out.2.1 k t hkt; have hfar := HCD.out.2.2.1 t (List.mem_of_getElem? hkt); have hle : szI ((emIts d P).take (k + 1)) ≤ (T2 : Int) := (by have h1 := HCD.out.1; have h2 := szI_nn (emIts d P) HCK.out (k + 1) ((emIts d P).length - (k + 1)); rw [List.take_of_length_le (l := emIts d P) (i := k + 1 + ((emIts d P).length - (k + 1))) (by omega)] at h2; have h3 := HT2.out; omega)
     have hDK := HDC.out k t wr hkt HB.out; have ha0 : 0 ≤ t.pos := (by have h2 := szI_nn (emIts d P) HCK.out 0 k; rw [Nat.zero_add] at h2; have h3 : szI ((emIts d P).take 0) = 0 := rfl; omega)
     obtain rfl : at_ = t.pos := by rw [HAT.out, d2]
     obtain ⟨sz, hsz⟩ : ∃ z, sizeK t.i.k t.i.l = z := ⟨_, rfl⟩
     obtain ⟨p, hp⟩ : ∃ z, t.pos = z := ⟨_, rfl⟩
     obtain ⟨⟨ik, id, ia, ib, inn, il⟩, hi⟩ : ∃ z, resIt (emIts d P) (mkL d P) t = z := ⟨_, rfl⟩
     have hkl := (resIt_kl (emIts d P) (mkL d P) t).2; rw [hi] at hkl hfar hDK; simp only at hkl hfar hDK; rw [← hkl] at hfar; rw [d3] at hle; rw [hsz] at d3 d4 hDK hle; rw [hp] at d3 hDK ha0 hle ⊢; obtain ⟨nx, hnx⟩ : ∃ z, p + sz = z := ⟨_, rfl⟩
     have qw : IntKind.i64.wrap (p + sz) = nx := by rw [IntWalk.i64_in _ (by omega)]; exact hnx
     have hpT : p < (T2 : Int) := by omega
     have HNX : Hid (nx = szI ((emIts d P).take (k + 1))) := Lib.hid (by rw [d3, hnx]); have HDK := Lib.hid hDK; clear d2 d3 d4 hle hsz hp hi hkl hnx hkt hDK HAT
     go_wp2_with fail
     refine HDK.out.mono ?_; rintro e w5 ⟨rfl, hb5⟩; have HB5 := Lib.hid (HB.out.trans (hb5.mono HB.out.size)); clear hb5 HDK x0 xl; rcases il with _ | _
     · clear hfar
       go_wp2_with fail
       go_roundg (N - (k + 1))
       case measure => omega
       case rel => exact ⟨k + 1, nx, by omega, rfl, HNX, Lib.hid (HB5.out.alloc HB5.out.size _), Nat.le_refl _⟩
     · rcases hfar rfl with hf | hf
       · have q1 : decide (inn ≥ -128) = false := decide_eq_false (by omega); have q2 : decide (-128 ≤ inn) = false := decide_eq_false (by omega); have q3 : ¬ inn ≥ -128 := by omega
         clear hfar
         go_wp2_with fail
         go_roundg (N - (k + 1))
         case measure => omega
         case rel => exact ⟨k + 1, nx, by omega, rfl, HNX, Lib.hid (HB5.out.alloc HB5.out.size _), Nat.le_refl _⟩
       · have q1 : decide (inn ≥ -128) = true := decide_eq_true (by omega); have q2 : decide (-128 ≤ inn) = true := decide_eq_true (by omega); have q3 : inn ≥ -128 := by omega
         have q4 : decide (inn ≤ 127) = false := decide_eq_false (by omega); have q5 : ¬ inn ≤ 127 := by omega
         clear hfar
         go_wp2_with fail
         go_roundg (N - (k + 1))
         case measure => omega
         case rel => exact ⟨k + 1, nx, by omega, rfl, HNX, Lib.hid (HB5.out.alloc HB5.out.size _), Nat.le_refl _⟩
   · obtain rfl : k = N := by omega
     have hat : at_ = (T2 : Int) := by
      rw [HAT.out, List.take_of_length_le (by have := HNE.out; omega), ← HCD.out.1, HT2.out]
     subst hat; have hnl : ¬ (T2 : Int) < (T2 : Int) := by omega
     have HBE := Lib.hid (HBW.out _ HB.out)
     go_wp2_with fail
     go_ret
     exact ⟨by simp, HBE.out⟩
set_option maxRecDepth 100000 in
theorem emitShort_contract (H : Type) (enc : TypeId × Value → H) (W : World) (base : Nat) (args : Array Value) (ds gs : List (DataW H)) (before : List MemPlace)
 (hval : ∀ (j : Nat) t v, Tryd.f6.params[j]? = some t → args[j]? = some v → Value.okWide Tryd.prog W .any base t v)
 (hW : DataW.Whole enc Tryd.prog Tryd.f6.params.toList Rows.emitShortSpec.vars false W args.toList ds gs before) (hL : laidMetH Tryd.prog Rows.emitShortRow.laid W)
 (hz : (DataW.weightsEach Tryd.prog (Tryd.f6.params.toList ++ (OpenSpec.ofChange Rows.emitShortSpec).bare.plain.varTypes Tryd.prog) (ds ++ gs)).all (· ≤ reachBytes) = true) :
 Calls Tryd.prog 6 args W fun e W' => ∃ v, e = .returned v ∧ Rows.emitShortSpec.post enc Tryd.prog Tryd.f6 false true false false W args v W' := by
 have hT : Tabs W := tabs_of_laid5 hL; have hW0 := hW; obtain ⟨p, q, hA0, hV, rfl, hfz, hnd⟩ := hW; have hA : DataW.TrodAll enc Tryd.prog W 0 (fun _ => true) true Tryd.f6.params.toList args.toList ds p := hA0; rw [Tryd.params6] at hA hval; obtain ⟨v0, vs0, d0, ds0, p0, q0, hargs, rfl, rfl, h0, r0⟩ := trodAll_cons hA; obtain ⟨v1, vs1, d1, ds1, p1, q1, rfl, rfl, rfl, h1, r1⟩ := trodAll_cons r0; obtain ⟨rfl, rfl, rfl⟩ := trodAll_nil r1; obtain rfl : args = #[v0, v1] := by cases args; simp_all
 obtain ⟨rfl, rfl⟩ := trodVars_none hV; clear hA0; obtain ⟨A, cap, L, rfl, hcap, hcm, hR, hd⟩ := open_raws (hval 0 22 v0 rfl rfl) h0; obtain ⟨iA, icap, IL, rfl, hicap, hicm, hI64, hIR, hid⟩ := open_nums (hval 1 38 v1 rfl rfl) h1
 have hL2 : L.length ≤ 140737488355328 := by
  rcases hd with ⟨-, rfl, -⟩ | ⟨elems, spare, rfl, hl⟩
  · exact Nat.zero_le _
  · have h1 := sized_slice hz (j := 0) (t := 22) (by rw [Tryd.params6]; rfl) rfl Tryd.underlying22; have h2 : Tryd.prog.bytesOf 26 = 32 := by kernel_rfl
    have h3 := reachBytes_lt; rw [h2, hl] at h1; omega
 have hIL : IL.length ≤ 140737488355328 := by
  rcases hid with ⟨-, rfl, -⟩ | ⟨elems, spare, rfl, hl⟩
  · exact Nat.zero_le _
  · have h1 := sized_slice hz (j := 1) (t := 38) (by rw [Tryd.params6]; rfl) rfl Tryd.underlying38; have h2 : Tryd.prog.bytesOf 3 = 8 := by kernel_rfl
    have h3 := reachBytes_lt; rw [h2, hl] at h1; omega
 refine (emitShort_walk L A cap IL iA icap W hT hR hL2 hcap hI64 hIR hIL hicap).mono fun e W' ⟨he, hb⟩ => ?_
 subst he; exact ⟨_, rfl, law_post hW0 rfl rfl (by kernel_rfl) (by kernel_rfl) hb⟩
set_option maxRecDepth 100000 in
theorem emitShort_met (os : Os) : laidMet Tryd.prog Rows.emitShortRow.laid ((laidWorld5 os).forCall (fun _ _ => 0) ⟨#[], #[.slice none 0 0, .slice none 0 0], []⟩).memory :=
 laidMet_of_run' 8 (by kernel_rfl) (by kernel_rfl)
set_option maxRecDepth 100000 in
theorem emitShort_reads (os : Os) {H : Type} (enc : TypeId × Value → H) : ∃ places, DataW.whole enc Tryd.prog ((laidWorld5 os).forCall (fun _ _ => 0) ⟨#[], #[.slice none 0 0, .slice none 0 0], []⟩).memory Tryd.f6.params.toList Rows.emitShortSpec.vars false (#[.slice none 0 0, .slice none 0 0] : Array Value).toList 8 = some ([.nil, .nil], [], places) :=
 ⟨[], by kernel_rfl⟩
set_option maxRecDepth 100000 in
theorem emitShort_lifted (os : Os) (started : os.Started) (H : Type) (enc : TypeId × Value → H) (F : Stop.Interp) :
 ReturnsInHanded {} Tryd.checked os 6 .any ((OpenSpec.ofChange Rows.emitShortSpec).preRow enc Tryd.prog Tryd.f6 Rows.emitShortRow.domain false Rows.emitShortRow.laid) (((OpenSpec.ofChange Rows.emitShortSpec).at F).post enc Tryd.prog Tryd.f6 false true false false) := by
 obtain ⟨places, hx⟩ := emitShort_reads os enc
 refine returnsInHanded_of_row (C := Tryd.checked) (s := OpenSpec.ofChange Rows.emitShortSpec) ownP started (by kernel_rfl) Tryd.func6
  (witness_row_at (enc := enc) (C := Tryd.checked) false (laidWorld5 os) #[.slice none 0 0, .slice none 0 0] rfl (by kernel_rfl) (by kernel_rfl) (by kernel_rfl)
   (OpenSpec.preRow_of_cond 8 hx (by kernel_rfl) (fun k hk => by cases hk) (by kernel_rfl) (emitShort_met os))) ?_
 intro W base args ds gs before hval hW _ _ hreach hL _ _; exact emitShort_contract H enc W base args ds gs before hval hW hL hreach
set_option maxRecDepth 100000 in
theorem emitShort_said : Rows.EmitShortSaid :=
 OpenClaim.holds_of_cond 6 Tryd.f6 rfl rfl rfl rfl rfl rfl rfl ⟨rfl, rfl, rfl, rfl, rfl⟩ rfl rfl rfl rfl rfl (by kernel_rfl) Tryd.func6 (by kernel_rfl)
  (of_decide_eq_true (by kernel_rfl)) (by unfold Func.isWrapper; first | (rw [if_pos (by decide +kernel)]; kernel_rfl) | (rw [if_neg (by decide +kernel)]; exact ⟨rfl, rfl⟩))
  (fun os started H enc _ F => by rw [OpenClaim.pre_eq_preRow]; exact emitShort_lifted os started H enc F)
set_option maxRecDepth 100000 in
theorem emitShort_plain (f : FuncId) (fn : Func) (hf : Tryd.pinned.checked.prog.funcNamed "bolthole/boltholekeep.EmitShort" = some f) (hfn : Tryd.pinned.checked.prog.funcs[f]? = some fn) :
 ∀ (j : Nat) t, fn.params[j]? = some t → Tryd.pinned.checked.prog.wantsStandIn t = false := by
 obtain rfl : f = 6 := Option.some.inj ((show Tryd.prog.funcNamed "bolthole/boltholekeep.EmitShort" = some 6 by kernel_rfl).symm.trans hf) |>.symm; obtain rfl : fn = Tryd.f6 := (Option.some.inj (Tryd.func6.symm.trans hfn)).symm; intro j t ht
 have hall : ∀ t ∈ Tryd.f6.params, Tryd.prog.wantsStandIn t = false := by
  rw [Tryd.params6]; intro t ht; simp only [List.mem_toArray, List.mem_cons, List.not_mem_nil, or_false] at ht; rcases ht with rfl | rfl
  all_goals kernel_rfl
 exact hall t (Array.mem_of_getElem? ht)
set_option maxRecDepth 100000 in
theorem emitShort_card : Rows.EmitShortCardSaid :=
 Claim7.holds_tied_plain_at .later [] _ _ _ _ emitShort_said (fun _ h => by cases h) (by kernel_rfl) (fun _ h => by cases h) emitShort_row_tie rfl ⟨rfl, rfl⟩ (by kernel_rfl) rfl (fun f fn hf hfn => ⟨by kernel_rfl, emitShort_plain f fn hf hfn⟩) (by kernel_rfl)
end Go.Proofs.YtokbgdlenbhklaaDoor
