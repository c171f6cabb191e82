/- The given statement on EmitKeeps, proved: data, names and tables stay; each function is there, and the entry is the same one. No condition of its own. -/
import Derived.Test.YtokbgdlenbhklaaDoorLawS
import Derived.Test.YtokbgdlenbhklaaDoorEmW
import Derived.Test.YtokbgdlenbhklaaDoorEqI
import Derived.Deep.DeepCutAuto
import Derived.Deep.CutBlock
import Derived.Deep.LoopGhost
import Derived.Deep.QuietTactic
import Derived.BigQuiet
import Derived.IntWalk
import Derived.WalkLawsBesides
namespace Go.Proofs.YtokbgdlenbhklaaDoor
open Go.ChangeShapes Go.WideShapes Go.ChangeAt Go.RowKit Go.Joins
open Go.ChangeMaps (open_string)
set_option maxHeartbeats 8000000 in
set_option maxRecDepth 100000 in
theorem emitKeeps_walk (l : List RawI) (A : Option Addr) (c : Nat) (Ls : List Int) (oA : Option Addr) (oc : Nat) (w : World) (hT : Tabs w) (hR : RdR w w.heap.size A l) (hl : l.length ≤ 140737488355328) (hc : l.length ≤ c) (hN : ∀ x ∈ Ls, N64 x) (hR2 : RdG w w.heap.size oA (intsV .i64 Ls)) (hl2 : Ls.length ≤ 140737488355328) (hc2 : Ls.length ≤ oc) :
 Calls Tryd.prog 8 #[.slice A l.length c, .slice oA Ls.length oc] w fun e w' => e = .returned (.bool true) ∧ Below w.heap.size w w' := by
 have HFW : Hid (Calls Tryd.prog 16 #[.slice A l.length c] w (FlwPost w l)) := Lib.hid (flowed_any l A c w hT hR hc hl); have HT := Lib.hid hT; have HR2 := Lib.hid hR2; have HN := Lib.hid hN; have HLC := Lib.hid (And.intro hl2 hc2); obtain ⟨ll, hll⟩ : ∃ z, l.length = z := ⟨_, rfl⟩
 obtain ⟨lo, hlo⟩ : ∃ z, Ls.length = z := ⟨_, rfl⟩
 rw [hll] at HFW ⊢; rw [hlo]; have HLO := Lib.hid hlo; clear hT hR hl hc hll hlo hN hR2 hl2 hc2
 go_enter Tryd.func8, Tryd.ntmps8
 go_wp2_with fail
 refine HFW.out.mono ?_; rintro e w1 ⟨hb1, m, v, d, xA, yA, zA, xc, yc, zc, rfl, hst⟩
 have HSH : Hid (∀ W, Below w1.heap.size w1 W → Calls Tryd.prog 19 #[.agg (flowV d xA yA zA xc yc zc), .slice oA Ls.length oc] W (ShfPost W d Ls)) := Lib.hid fun W hW =>
  shuf_st (hst.below hW) Ls oA oc ((HR2.out.below (hb1.trans (hW.mono hb1.size))).more (Nat.le_trans hb1.size hW.size)) HLC.out.2 HLC.out.1 HN.out
 have HEM : Hid (∀ W A c, Below w1.heap.size w1 W → PartsRd W A c (shL d Ls) → Calls Tryd.prog 22 #[.agg (m.val v), .slice A (shL d Ls).length c] W (EmPost W m d (shL d Ls))) := Lib.hid fun W A c hW hP =>
  emit_st (hst.below hW) (HT.out.below (hb1.trans (hW.mono hb1.size))) hP (shL_good hst.sizes.2.2.2.2 Ls)
 obtain ⟨P, hP⟩ : ∃ z, shL d Ls = z := ⟨_, rfl⟩
 obtain ⟨x, hx⟩ : ∃ z, emL m d P = z := ⟨_, rfl⟩
 have hkp := emL_keep hst.pgm.check hst.rc (shL_good hst.sizes.2.2.2.2 Ls); rw [hP] at hkp HEM; rw [hx] at hkp; have HPE := Lib.hid hP; have HXE := Lib.hid hx; have HB1 := Lib.hid hb1; have HST := Lib.hid hst; have HKP := Lib.hid hkp; obtain ⟨xe, me, fx, fm, exe, eme, hfx, hfm, hnm⟩ := hkp.entry; obtain ⟨nm1, s1, z1⟩ := fx; obtain ⟨nm2, s2, z2⟩ := fm; obtain rfl : nm1 = nm2 := hnm; have HXN := Lib.hid exe; have HFX := Lib.hid hfx; have HFM := Lib.hid hfm; have hml := (List.getElem?_eq_some_iff.1 hfm).1; have hxl := (List.getElem?_eq_some_iff.1 hfx).1
 obtain ⟨tA, tc, fA, fc, bA, bc, dA, dc, lA, lc⟩ := v; unfold Img.val at HEM; unfold flowV at HSH; unfold Img.val flowV; simp only [eme] at HEM ⊢; have hfl := HKP.out.funcs; obtain ⟨T, hTe⟩ : ∃ z, m.text.length = z := ⟨_, rfl⟩
 obtain ⟨NF, hNF⟩ : ∃ z, m.funcs.length = z := ⟨_, rfl⟩
 obtain ⟨nb, hnb⟩ : ∃ z, m.tables.length = z := ⟨_, rfl⟩
 obtain ⟨nd, hnd⟩ : ∃ z, m.data.length = z := ⟨_, rfl⟩
 obtain ⟨nl, hnl⟩ : ∃ z, m.lines.length = z := ⟨_, rfl⟩
 obtain ⟨NB, hNB⟩ : ∃ z, d.blocks.length = z := ⟨_, rfl⟩
 obtain ⟨nt, hnt⟩ : ∃ z, d.tables.length = z := ⟨_, rfl⟩
 obtain ⟨nz, hnz⟩ : ∃ z, d.firsts.length = z := ⟨_, rfl⟩
 rw [hNB, hnt, hnz, HLO.out] at HSH; rw [hTe, hNF, hnb, hnd, hnl] at HEM; rw [hTe, hNF, hnb, hnd, hnl, hNB, hnt, hnz]; rw [hNF] at hml; rw [hfl, hNF] at hxl; have HNF := Lib.hid hNF; have HNB5 := Lib.hid (And.intro hnb hnd); clear hTe hnl hnb hnd hNB hnt hnz hst hkp hfx hfm hb1 HFW HR2 HN HLC HLO HT hP hx hfl exe eme hNF
 go_upto_region 2 with fail
 obtain ⟨X, hX⟩ : ∃ X, w1.alloc (.cells #[.slice tA T tc, .slice fA NF fc, .slice bA nb bc, .slice dA nd dc, .slice lA nl lc, .int .i64 (me : Int)] 41) = X := ⟨_, rfl⟩
 rw [hX]; have hm1 : Blk X w1.heap.size 41 [.slice tA T tc, .slice fA NF fc, .slice bA nb bc, .slice dA nd dc, .slice lA nl lc, .int .i64 (me : Int)] := by rw [← hX]; exact Blk.new w1 _ _
 have hbX : Below w1.heap.size w1 X := by rw [← hX]; exact (Below.refl _ _).alloc (Nat.le_refl _) _
 have hxs : X.heap.size = w1.heap.size + 1 := by rw [← hX]; simp
 obtain ⟨Y, hY⟩ : ∃ Y, X.alloc (.cells #[.slice xA NB xc, .slice yA nt yc, .slice zA nz zc] 44) = Y := ⟨_, rfl⟩
 rw [hY]; have hfY : Blk Y (w1.heap.size + 1) 44 [.slice xA NB xc, .slice yA nt yc, .slice zA nz zc] := by rw [← hY, ← hxs]; exact Blk.new X _ _
 have hbY : Below X.heap.size X Y := by rw [← hY]; exact (Below.refl _ _).alloc (Nat.le_refl _) _
 have hmY := hm1.keep hbY; have hbWY := hbX.trans (hbY.mono hbX.size); obtain ⟨BX, hBX⟩ : ∃ z, w1.heap.size = z := ⟨_, rfl⟩
 have HBX := Lib.hid hBX; have HWY := Lib.hid hbWY; rw [hBX] at hfY hmY ⊢; have HMY := Lib.hid hmY; have f0 := hfY.cell 0 rfl; have f1 := hfY.cell 1 rfl; have f2 := hfY.cell 2 rfl; have fl := hfY.lt; clear hX hY hm1 hbX hbY hmY hbWY hxs hBX hfY
 go_wp2_with fail
 refine (HSH.out _ HWY.out).mono ?_; rintro e w2 ⟨hb2, pA, pc, lv, rfl, hlv, hpr, hpb⟩; rw [HPE.out] at hlv; have HPR := Lib.hid (shf_parts hlv hpr hpb); have HPO := Lib.hid hpr; obtain ⟨NP, hNP⟩ : ∃ z, lv.length = z := ⟨_, rfl⟩
 have hNP2 : P.length = NP := by rw [← hlv, List.length_map, hNP]
 obtain rfl : NF = NP := by rw [← hNP2, HKP.out.len, HNF.out]
 have HLV := Lib.hid hlv; have HNP := Lib.hid hNP2; have HW2 := Lib.hid (HWY.out.trans (hb2.mono HWY.out.size)); have HM2 := Lib.hid (HMY.out.keep hb2); rw [hNP]; clear hlv hpr hpb hNP hNP2 hb2 f0 f1 f2 fl HSH HMY HWY; have m0 := HM2.out.cell 0 rfl; have m1 := HM2.out.cell 1 rfl; have m2 := HM2.out.cell 2 rfl; have m3 := HM2.out.cell 3 rfl; have m4 := HM2.out.cell 4 rfl; have m5 := HM2.out.cell 5 rfl; have ml := HM2.out.lt
 have HEM3 : Hid (Calls Tryd.prog 22 #[.agg #[.slice tA T tc, .slice fA NF fc, .slice bA nb bc, .slice dA nd dc, .slice lA nl lc, .int .i64 (me : Int)], .slice pA NF pc] w2 (EmPost w2 m d P)) := Lib.hid (by
  have h := HEM.out w2 pA pc HW2.out HPR.out; rw [HNP.out] at h
  exact h)
 go_wp2_with fail
 refine HEM3.out.mono ?_; rintro e w3 ⟨hb3, ⟨tA2, tc2, fA2, fc2, bA2, bc2, dA2, dc2, lA2, lc2⟩, eA, en, ec, ps, rfl, hown, -, -, -⟩; rw [HXE.out] at hown ⊢; have HIX := Lib.hid hown.rd; obtain ⟨T2, hT2⟩ : ∃ z, x.text.length = z := ⟨_, rfl⟩
 obtain ⟨nl2, hnl2⟩ : ∃ z, x.lines.length = z := ⟨_, rfl⟩
 unfold Img.val; simp only [hT2, HKP.out.funcs, HNF.out, HKP.out.tables, HNB5.out.1, HKP.out.data, HNB5.out.2, hnl2, HXN.out]; clear hT2 hnl2 hown HEM3 HEM; have hb3 := hb3; have HW3 := Lib.hid (HW2.out.trans (hb3.mono HW2.out.size)); have HM3 := Lib.hid (HM2.out.keep hb3); have HPR3 := Lib.hid (HPR.out.below hb3); clear m0 m1 m2 m3 m4 m5 ml hb3 HM2 HPR HXE HPE
 go_upto_region 4 with fail
 obtain ⟨Z, hZ⟩ : ∃ Z, w3.alloc (.cells #[.slice tA2 T2 tc2, .slice fA2 NF fc2, .slice bA2 nb bc2, .slice dA2 nd dc2, .slice lA2 nl2 lc2, .int .i64 (xe : Int)] 41) = Z := ⟨_, rfl⟩
 rw [hZ]; have hxZ : Blk Z w3.heap.size 41 [.slice tA2 T2 tc2, .slice fA2 NF fc2, .slice bA2 nb bc2, .slice dA2 nd dc2, .slice lA2 nl2 lc2, .int .i64 (xe : Int)] := by rw [← hZ]; exact Blk.new w3 _ _
 have hbZ : Below w3.heap.size w3 Z := by rw [← hZ]; exact (Below.refl _ _).alloc (Nat.le_refl _) _
 have HWZ := Lib.hid (HW3.out.trans (hbZ.mono HW3.out.size)); have HMZ := Lib.hid (HM3.out.keep hbZ); have HPRZ := Lib.hid (HPR3.out.below hbZ); have HIXZ := Lib.hid ((HIX.out.below hbZ).more hbZ.size); have HIMZ := Lib.hid (HST.out.below HWZ.out).img; obtain ⟨BZ, hBZ⟩ : ∃ z, w3.heap.size = z := ⟨_, rfl⟩
 rw [hBZ] at hxZ ⊢; have HXZ := Lib.hid hxZ; clear hZ hxZ hbZ hBZ HM3 HPR3 HIX HW3; obtain ⟨fb, fo, rfl, hfb, y_m, -, -⟩ := HIMZ.out.funcs.at3 HFM.out; obtain ⟨fb2, fo2, rfl, hfb2, y_x, -, -⟩ := HIXZ.out.funcs.at3 HFX.out; simp only at y_m y_x
 have HEQ : Hid (∀ W, Below Z.heap.size Z W → Calls Tryd.prog 25 #[.slice dA nd dc, .slice dA2 nd dc2] W fun e w' => e = .returned (.bool true) ∧ Below W.heap.size W w') := Lib.hid fun W hW => by
  have hd : RdG Z Z.heap.size dA2 (intsV .i64 m.data) := by have h := HIXZ.out.data; rw [HKP.out.data] at h; exact h
  refine (eqi_any m.data m.data dA dA2 nd dc nd dc2 W ((HIMZ.out.data.below hW).more hW.size) ((hd.below hW).more hW.size) HNB5.out.2.symm HNB5.out.2.symm (by have := (check_tile HST.out.pgm.check).2.2.2.2.2.2.2; have := HNB5.out.2; omega)).mono ?_; rintro e w' ⟨rfl, q, rfl⟩; exact ⟨by simp, below_dN (Below.refl _ _) q⟩
 have k1 := HMZ.out.cell 1 rfl; have k2 := HMZ.out.cell 2 rfl; have k3 := HMZ.out.cell 3 rfl; have k5 := HMZ.out.cell 5 rfl; have kl := HMZ.out.lt; have j1 := HXZ.out.cell 1 rfl; have j2 := HXZ.out.cell 2 rfl; have j3 := HXZ.out.cell 3 rfl; have j5 := HXZ.out.cell 5 rfl; have jl := HXZ.out.lt; have hm0 : (0 : Int) ≤ (me : Int) := by omega
 have hmI : (me : Int) < (NF : Int) := by omega
 have hx0 : (0 : Int) ≤ (xe : Int) := by omega
 have hxI : (xe : Int) < (NF : Int) := by omega
 have qf : ((NF : Int) != (NF : Int)) = false := by simp
 have qb : ((nb : Int) != (nb : Int)) = false := by simp
 refine wp_region_W (fun w' => w'.cell? ⟨BX, 1, none⟩ = some (.slice (some ⟨fb, fo, none⟩) NF fc) ∧ w'.cell? ⟨BX, 2, none⟩ = some (.slice bA nb bc) ∧ w'.cell? ⟨BX, 3, none⟩ = some (.slice dA nd dc) ∧ w'.cell? ⟨BX, 5, none⟩ = some (.int .i64 (me : Int)) ∧ w'.cell? ⟨BZ, 1, none⟩ = some (.slice (some ⟨fb2, fo2, none⟩) NF fc2) ∧ w'.cell? ⟨BZ, 2, none⟩ = some (.slice bA2 nb bc2) ∧ w'.cell? ⟨BZ, 3, none⟩ = some (.slice dA2 nd dc2) ∧ w'.cell? ⟨BZ, 5, none⟩ = some (.int .i64 (xe : Int)) ∧ w'.cell? ⟨fb, fo + me * 3, none⟩ = some (.string nm1) ∧ w'.cell? ⟨fb2, fo2 + xe * 3, none⟩ = some (.string nm1)) 49 (by kernel_rfl) (by (try dsimp only); go_keep) (fun hHeld => ?_)
 refine wpW_q 0 hHeld ?_; (try simp only [putE]); refine wpW_q 1 hHeld ?_; (try simp only [putE]); refine wpW_q 2 hHeld ?_; (try simp only [putE]); refine wpW_q 3 hHeld ?_; (try simp only [putE]); refine wpW_q 4 hHeld ?_; (try simp only [putE]); refine wpW_q 5 hHeld ?_; (try simp only [putE]); refine wpW_q 6 hHeld ?_; (try simp only [putE]); refine wpW_q 7 hHeld ?_; (try simp only [putE]); refine wpW_q 8 hHeld ?_; (try simp only [putE]); refine wpW_q 9 hHeld ?_; (try simp only [putE]); refine wpW_q 10 hHeld ?_; (try simp only [putE]); refine wpW_one 11 rfl (by kernel_rfl) (fun K hK => ?_)
 go_simp
 refine (HEQ.out _ ((Below.refl _ _).drew)).mono ?_; rintro e w4 ⟨rfl, hb4'⟩; have hb4 : Below Z.heap.size Z w4 := ((Below.refl Z.heap.size Z).drew).trans hb4'; have x0 : w4.cell? ⟨BX, 1, none⟩ = some (.slice (some ⟨fb, fo, none⟩) NF fc) := (hb4.cell (p := ⟨BX, 1, none⟩) kl).trans k1; have x1 : w4.cell? ⟨BX, 2, none⟩ = some (.slice bA nb bc) := (hb4.cell (p := ⟨BX, 2, none⟩) kl).trans k2; have x2 : w4.cell? ⟨BX, 3, none⟩ = some (.slice dA nd dc) := (hb4.cell (p := ⟨BX, 3, none⟩) kl).trans k3
 have x3 : w4.cell? ⟨BX, 5, none⟩ = some (.int .i64 (me : Int)) := (hb4.cell (p := ⟨BX, 5, none⟩) kl).trans k5; have x4 : w4.cell? ⟨BZ, 1, none⟩ = some (.slice (some ⟨fb2, fo2, none⟩) NF fc2) := (hb4.cell (p := ⟨BZ, 1, none⟩) jl).trans j1; have x5 : w4.cell? ⟨BZ, 2, none⟩ = some (.slice bA2 nb bc2) := (hb4.cell (p := ⟨BZ, 2, none⟩) jl).trans j2; have x6 : w4.cell? ⟨BZ, 3, none⟩ = some (.slice dA2 nd dc2) := (hb4.cell (p := ⟨BZ, 3, none⟩) jl).trans j3; have x7 : w4.cell? ⟨BZ, 5, none⟩ = some (.int .i64 (xe : Int)) := (hb4.cell (p := ⟨BZ, 5, none⟩) jl).trans j5
 have x8 : w4.cell? ⟨fb, fo + me * 3, none⟩ = some (.string nm1) := (hb4.cell (p := ⟨fb, fo + me * 3, none⟩) hfb).trans y_m; have x9 : w4.cell? ⟨fb2, fo2 + xe * 3, none⟩ = some (.string nm1) := (hb4.cell (p := ⟨fb2, fo2 + xe * 3, none⟩) hfb2).trans y_x; refine hK.out _ _ (by (try dsimp only); exact ⟨x0, x1, x2, x3, x4, x5, x6, x7, x8, x9⟩) (fun hHeld => ?_); clear hK K; (try simp only [putE]); refine wpW_q 12 hHeld ?_; (try simp only [putE]); refine wpW_q 13 hHeld ?_; (try simp only [putE]); refine wpW_q 14 hHeld ?_; (try simp only [putE]); refine wpW_q 15 hHeld ?_; (try simp only [putE])
 refine wpW_q 16 hHeld ?_; (try simp only [putE]); refine wpW_q 17 hHeld ?_; (try simp only [putE]); refine wpW_q 18 hHeld ?_; (try simp only [putE]); refine wpW_q 19 hHeld ?_; (try simp only [putE]); refine wpW_q 20 hHeld ?_; (try simp only [putE]); refine wpW_q 21 hHeld ?_; (try simp only [putE]); refine wpW_q 22 hHeld ?_; (try simp only [putE]); refine wpW_q 23 hHeld ?_; (try simp only [putE]); refine wpW_q 24 hHeld ?_; (try simp only [putE]); refine wpW_q 25 hHeld ?_; (try simp only [putE]); refine wpW_q 26 hHeld ?_; (try simp only [putE]); refine wpW_q 27 hHeld ?_; (try simp only [putE])
 refine wpW_q 28 hHeld ?_; (try simp only [putE]); refine wpW_q 29 hHeld ?_; (try simp only [putE]); refine wpW_q 30 hHeld ?_; (try simp only [putE]); refine wpW_q 31 hHeld ?_; (try simp only [putE]); refine wpW_q 32 hHeld ?_; (try simp only [putE]); refine wpW_q 33 hHeld ?_; (try simp only [putE]); refine wpW_q 34 hHeld ?_; (try simp only [putE]); refine wpW_q 35 hHeld ?_; (try simp only [putE]); refine wpW_q 36 hHeld ?_; (try simp only [putE]); refine wpW_q 37 hHeld ?_; (try simp only [putE]); refine wpW_q 38 hHeld ?_; (try simp only [putE]); refine wpW_q 39 hHeld ?_; (try simp only [putE])
 refine wpW_q 40 hHeld ?_; (try simp only [putE]); refine wpW_q 41 hHeld ?_; (try simp only [putE]); refine wpW_q 42 hHeld ?_; (try simp only [putE]); refine wpW_q 43 hHeld ?_; (try simp only [putE]); refine wpW_q 44 hHeld ?_; (try simp only [putE]); refine wpW_q 45 hHeld ?_; (try simp only [putE]); refine wpW_q 46 hHeld ?_; (try simp only [putE]); refine wpW_q 47 hHeld ?_; (try simp only [putE]); refine wpW_q 48 hHeld ?_; (try simp only [putE]); refine wpW_done (by kernel_rfl) ?_ _; have HB4 := Lib.hid hb4
 have hNF40 : NF ≤ 40 := by have := (check_tile HST.out.pgm.check).2.2.2.2.2.1; have := HNF.out; omega
 have hnb20 : nb ≤ 20 := by have := (check_tile HST.out.pgm.check).2.2.2.2.2.2.1; have := HNB5.out.1; omega
 have hNF0 : P[0]? = some (P[0]'(by have := HNP.out; omega)) := List.getElem?_eq_getElem _; obtain ⟨pg, po, -, -, rfl, hpg, -, -, -, -⟩ := HPRZ.out.at hNF0; clear x0 x1 x2 x3 x4 x5 x6 x7 x8 x9 hb4' hHeld k1 k2 k3 k5 j1 j2 j3 j5 hm0 hmI hx0 hxI qf qb y_m y_x HEQ hNF0 hb4
 go_wp2_with fail
 go_loopg [83] NF (fun gk s wr => ∃ i : Nat, i ≤ NF ∧ s = .int .i64 i ∧ Hid (Below Z.heap.size Z wr) ∧ NF - i ≤ gk)
 case atStart => exact ⟨0, Nat.zero_le _, rfl, HB4, Nat.le_refl _⟩
 case round =>
  obtain ⟨i, hi, rfl, HB, hgk⟩ := hrel
  by_cases hlt : i < NF
  · have hltI : (i : Int) < (NF : Int) := by omega
    have hi0 : (0 : Int) ≤ (i : Int) := by omega
    have hpi : P[i]? = some (P[i]'(by have := HNP.out; omega)) := List.getElem?_eq_getElem _; obtain ⟨g', o', bA', bc', e', hgl, c0, c1, -, -⟩ := (HPRZ.out.below HB.out).at hpi; obtain ⟨k, f, g, hk, hf, hg, hn⟩ := HKP.out.name i _ hpi; injection e' with e'; injection e' with e1 e2; subst e1 e2; generalize P[i]'(by have := HNP.out; omega) = p at hpi c0 c1 hk; obtain ⟨pfn, pbs⟩ := p; simp only at c0 c1 hk; subst hk; obtain ⟨nm, s3, z3⟩ := f; obtain ⟨nm', s4, z4⟩ := g; obtain rfl : nm = nm' := hn; have hkl := (List.getElem?_eq_some_iff.1 hg).1; rw [HNF.out] at hkl
    have hkI : (k : Int) < (NF : Int) := by omega
    have hk0 : (0 : Int) ≤ (k : Int) := by omega
    obtain ⟨q1, q2, e3, -, y_m, -, -⟩ := (HIMZ.out.below HB.out).funcs.at3 hg; obtain ⟨q3, q4, e4, -, y_x, -, -⟩ := (HIXZ.out.below HB.out).funcs.at3 hf; injection e3 with e3; injection e3 with e5 e6; subst e5 e6; injection e4 with e4; injection e4 with e7 e8; subst e7 e8; obtain ⟨NS, hNS⟩ : ∃ z, pbs.length = z := ⟨_, rfl⟩
    rw [hNS] at c1; have hfb' : fb < wr.heap.size := by have := HB.out.size; omega
    have hfb2' : fb2 < wr.heap.size := by have := HB.out.size; omega
    clear hf hg hpi hNS hkl
    go_upto_region 9 with fail
    obtain ⟨V, hV⟩ : ∃ V, wr.alloc (.cells #[.int .i64 (k : Int), .slice bA' NS bc'] 55) = V := ⟨_, rfl⟩
    rw [hV]; have hpV : Blk V wr.heap.size 55 [.int .i64 (k : Int), .slice bA' NS bc'] := by rw [← hV]; exact Blk.new wr _ _
    have hbV : Below wr.heap.size wr V := by rw [← hV]; exact (Below.refl _ _).alloc (Nat.le_refl _) _
    have hBV := HB.out.trans (hbV.mono HB.out.size); have HBV := Lib.hid hBV; have v0 := hpV.cell 0 rfl; have vl := hpV.lt; have vm := (hbV.cell hfb').trans y_m; have vx := (hbV.cell hfb2').trans y_x; have k1 := (HMZ.out.keep hBV).cell 1 rfl; have kl' := (HMZ.out.keep hBV).lt; have j1 := (HXZ.out.keep hBV).cell 1 rfl; have jl' := (HXZ.out.keep hBV).lt; clear hV hpV hbV hBV y_m y_x c0 c1 hfb' hfb2'
    refine wp_region_W (fun w' => w'.cell? ⟨BX, 1, none⟩ = some (.slice (some ⟨fb, fo, none⟩) NF fc) ∧ w'.cell? ⟨BZ, 1, none⟩ = some (.slice (some ⟨fb2, fo2, none⟩) NF fc2) ∧ w'.cell? ⟨wr.heap.size, 0, none⟩ = some (.int .i64 (k : Int)) ∧ w'.cell? ⟨fb, fo + k * 3, none⟩ = some (.string nm) ∧ w'.cell? ⟨fb2, fo2 + i * 3, none⟩ = some (.string nm)) 14 (by kernel_rfl) (by (try dsimp only); go_keep) (fun hHeld => ?_); refine wpW_q 0 hHeld ?_; (try simp only [putE]); refine wpW_q 1 hHeld ?_; (try simp only [putE]); refine wpW_q 2 hHeld ?_; (try simp only [putE]); refine wpW_q 3 hHeld ?_
    (try simp only [putE]); refine wpW_q 4 hHeld ?_; (try simp only [putE]); refine wpW_q 5 hHeld ?_; (try simp only [putE]); refine wpW_q 6 hHeld ?_; (try simp only [putE]); refine wpW_q 7 hHeld ?_; (try simp only [putE]); refine wpW_q 8 hHeld ?_; (try simp only [putE]); refine wpW_q 9 hHeld ?_; (try simp only [putE]); refine wpW_q 10 hHeld ?_; (try simp only [putE]); refine wpW_q 11 hHeld ?_; (try simp only [putE]); refine wpW_q 12 hHeld ?_; (try simp only [putE]); refine wpW_q 13 hHeld ?_; (try simp only [putE]); refine wpW_done (by kernel_rfl) ?_ _
    go_wp2_with fail
    go_roundg (NF - (i + 1))
    case measure => omega
    case rel => exact ⟨i + 1, by omega, (by go_num), Lib.hid HBV.out.drew, Nat.le_refl _⟩
  · obtain rfl : i = NF := by omega
    have hltI : ¬ (i : Int) < (i : Int) := by omega
    have k2 := (HMZ.out.keep HB.out).cell 2 rfl; have kl' := (HMZ.out.keep HB.out).lt
    go_wp2_with fail
    go_loopg [106] nb (fun gk s wr => ∃ i : Nat, i ≤ nb ∧ s = .int .i64 i ∧ Hid (Below Z.heap.size Z wr) ∧ nb - i ≤ gk)
    case atStart => exact ⟨0, Nat.zero_le _, rfl, HB, Nat.le_refl _⟩
    case round =>
     clear k2 kl' HB; obtain ⟨j, hj, rfl, HB, hgk⟩ := hrel
     by_cases hjt : j < nb
     · have hjI : (j : Int) < (nb : Int) := by omega
       have hj0 : (0 : Int) ≤ (j : Int) := by omega
       have hti : m.tables[j]? = some (m.tables[j]'(by have := HNB5.out.1; omega)) := List.getElem?_eq_getElem _; generalize m.tables[j]'(by have := HNB5.out.1; omega) = t at hti; obtain ⟨t', hti', htl⟩ := HKP.out.tab j t hti; obtain ⟨vs, -, h2, h3⟩ := (HIMZ.out.below HB.out).tables; obtain ⟨a5, c5, h4, -, -, -, -⟩ := h3 j t hti; obtain ⟨b6, o6, e6, hb6, y6⟩ := h2.at h4; obtain ⟨vs', -, h2', h3'⟩ := (HIXZ.out.below HB.out).tables; obtain ⟨a7, c7, h4', -, -, -, -⟩ := h3' j t' hti'; obtain ⟨b8, o8, e8, hb8, y8⟩ := h2'.at h4'; simp only at e6 e8; subst e6 e8; rw [htl] at y8
       obtain ⟨NS, hNS⟩ : ∃ z, t.length = z := ⟨_, rfl⟩
       rw [hNS] at y6 y8; have j2 := (HXZ.out.keep HB.out).cell 2 rfl; have jl' := (HXZ.out.keep HB.out).lt; have qs : ((NS : Int) != (NS : Int)) = false := by simp
       clear hti hti' htl h2 h3 h4 h2' h3' h4' hNS
       go_wp2_with fail
       go_roundg (nb - (j + 1))
       case measure => omega
       case rel => exact ⟨j + 1, by omega, (by go_num), HB, Nat.le_refl _⟩
     · obtain rfl : j = nb := by omega
       have hjI : ¬ (j : Int) < (j : Int) := by omega
       have HBE := Lib.hid (HB1.out.trans ((HWZ.out.trans (HB.out.mono HWZ.out.size)).mono HB1.out.size))
       go_wp2_with fail
       go_ret
       exact ⟨by simp, HBE.out⟩
set_option maxRecDepth 100000 in
theorem emitKeeps_contract (H : Type) (enc : TypeId × Value → H) (W : World) (base : Nat) (args : Array Value) (ds gs : List (DataW H)) (before : List MemPlace)
 (hval : ∀ (j : Nat) t v, Tryd.f8.params[j]? = some t → args[j]? = some v → Value.okWide Tryd.prog W .any base t v)
 (hW : DataW.Whole enc Tryd.prog Tryd.f8.params.toList Rows.emitKeepsSpec.vars false W args.toList ds gs before) (hL : laidMetH Tryd.prog Rows.emitKeepsRow.laid W)
 (hz : (DataW.weightsEach Tryd.prog (Tryd.f8.params.toList ++ (OpenSpec.ofChange Rows.emitKeepsSpec).bare.plain.varTypes Tryd.prog) (ds ++ gs)).all (· ≤ reachBytes) = true) :
 Calls Tryd.prog 8 args W fun e W' => ∃ v, e = .returned v ∧ Rows.emitKeepsSpec.post enc Tryd.prog Tryd.f8 false true false false W args v W' := by
 have hT : Tabs W := tabs_of_laid5 hL; have hW0 := hW; obtain ⟨p, q, hA0, hV, rfl, hfz, hnd⟩ := hW; have hA : DataW.TrodAll enc Tryd.prog W 0 (fun _ => true) true Tryd.f8.params.toList args.toList ds p := hA0; rw [Tryd.params8] at hA hval; obtain ⟨v0, vs0, d0, ds0, p0, q0, hargs, rfl, rfl, h0, r0⟩ := trodAll_cons hA; obtain ⟨v1, vs1, d1, ds1, p1, q1, rfl, rfl, rfl, h1, r1⟩ := trodAll_cons r0; obtain ⟨rfl, rfl, rfl⟩ := trodAll_nil r1; obtain rfl : args = #[v0, v1] := by cases args; simp_all
 obtain ⟨rfl, rfl⟩ := trodVars_none hV; clear hA0; obtain ⟨A, cap, L, rfl, hcap, hcm, hR, hd⟩ := open_raws (hval 0 22 v0 rfl rfl) h0; obtain ⟨iA, icap, IL, rfl, hicap, hicm, hI64, hIR, hid⟩ := open_nums (hval 1 38 v1 rfl rfl) h1
 have hL2 : L.length ≤ 140737488355328 := by
  rcases hd with ⟨-, rfl, -⟩ | ⟨elems, spare, rfl, hl⟩
  · exact Nat.zero_le _
  · have h1 := sized_slice hz (j := 0) (t := 22) (by rw [Tryd.params8]; rfl) rfl Tryd.underlying22; have h2 : Tryd.prog.bytesOf 26 = 32 := by kernel_rfl
    have h3 := reachBytes_lt; rw [h2, hl] at h1; omega
 have hIL : IL.length ≤ 140737488355328 := by
  rcases hid with ⟨-, rfl, -⟩ | ⟨elems, spare, rfl, hl⟩
  · exact Nat.zero_le _
  · have h1 := sized_slice hz (j := 1) (t := 38) (by rw [Tryd.params8]; rfl) rfl Tryd.underlying38; have h2 : Tryd.prog.bytesOf 3 = 8 := by kernel_rfl
    have h3 := reachBytes_lt; rw [h2, hl] at h1; omega
 refine (emitKeeps_walk L A cap IL iA icap W hT hR hL2 hcap hI64 hIR hIL hicap).mono fun e W' ⟨he, hb⟩ => ?_
 subst he; exact ⟨_, rfl, law_post hW0 rfl rfl (by kernel_rfl) (by kernel_rfl) hb⟩
set_option maxRecDepth 100000 in
theorem emitKeeps_met (os : Os) : laidMet Tryd.prog Rows.emitKeepsRow.laid ((laidWorld5 os).forCall (fun _ _ => 0) ⟨#[], #[.slice none 0 0, .slice none 0 0], []⟩).memory :=
 laidMet_of_run' 8 (by kernel_rfl) (by kernel_rfl)
set_option maxRecDepth 100000 in
theorem emitKeeps_reads (os : Os) {H : Type} (enc : TypeId × Value → H) : ∃ places, DataW.whole enc Tryd.prog ((laidWorld5 os).forCall (fun _ _ => 0) ⟨#[], #[.slice none 0 0, .slice none 0 0], []⟩).memory Tryd.f8.params.toList Rows.emitKeepsSpec.vars false (#[.slice none 0 0, .slice none 0 0] : Array Value).toList 8 = some ([.nil, .nil], [], places) :=
 ⟨[], by kernel_rfl⟩
set_option maxRecDepth 100000 in
theorem emitKeeps_lifted (os : Os) (started : os.Started) (H : Type) (enc : TypeId × Value → H) (F : Stop.Interp) :
 ReturnsInHanded {} Tryd.checked os 8 .any ((OpenSpec.ofChange Rows.emitKeepsSpec).preRow enc Tryd.prog Tryd.f8 Rows.emitKeepsRow.domain false Rows.emitKeepsRow.laid) (((OpenSpec.ofChange Rows.emitKeepsSpec).at F).post enc Tryd.prog Tryd.f8 false true false false) := by
 obtain ⟨places, hx⟩ := emitKeeps_reads os enc
 refine returnsInHanded_of_row (C := Tryd.checked) (s := OpenSpec.ofChange Rows.emitKeepsSpec) ownP started (by kernel_rfl) Tryd.func8
  (witness_row_at (enc := enc) (C := Tryd.checked) false (laidWorld5 os) #[.slice none 0 0, .slice none 0 0] rfl (by kernel_rfl) (by kernel_rfl) (by kernel_rfl)
   (OpenSpec.preRow_of_cond 8 hx (by kernel_rfl) (fun k hk => by cases hk) (by kernel_rfl) (emitKeeps_met os))) ?_
 intro W base args ds gs before hval hW _ _ hreach hL _ _; exact emitKeeps_contract H enc W base args ds gs before hval hW hL hreach
set_option maxRecDepth 100000 in
theorem emitKeeps_said : Rows.EmitKeepsSaid :=
 OpenClaim.holds_of_cond 8 Tryd.f8 rfl rfl rfl rfl rfl rfl rfl ⟨rfl, rfl, rfl, rfl, rfl⟩ rfl rfl rfl rfl rfl (by kernel_rfl) Tryd.func8 (by kernel_rfl)
  (of_decide_eq_true (by kernel_rfl)) (by unfold Func.isWrapper; first | (rw [if_pos (by decide +kernel)]; kernel_rfl) | (rw [if_neg (by decide +kernel)]; exact ⟨rfl, rfl⟩))
  (fun os started H enc _ F => by rw [OpenClaim.pre_eq_preRow]; exact emitKeeps_lifted os started H enc F)
set_option maxRecDepth 100000 in
theorem emitKeeps_plain (f : FuncId) (fn : Func) (hf : Tryd.pinned.checked.prog.funcNamed "bolthole/boltholekeep.EmitKeeps" = some f) (hfn : Tryd.pinned.checked.prog.funcs[f]? = some fn) :
 ∀ (j : Nat) t, fn.params[j]? = some t → Tryd.pinned.checked.prog.wantsStandIn t = false := by
 obtain rfl : f = 8 := Option.some.inj ((show Tryd.prog.funcNamed "bolthole/boltholekeep.EmitKeeps" = some 8 by kernel_rfl).symm.trans hf) |>.symm; obtain rfl : fn = Tryd.f8 := (Option.some.inj (Tryd.func8.symm.trans hfn)).symm; intro j t ht
 have hall : ∀ t ∈ Tryd.f8.params, Tryd.prog.wantsStandIn t = false := by
  rw [Tryd.params8]; intro t ht; simp only [List.mem_toArray, List.mem_cons, List.not_mem_nil, or_false] at ht; rcases ht with rfl | rfl
  all_goals kernel_rfl
 exact hall t (Array.mem_of_getElem? ht)
set_option maxRecDepth 100000 in
theorem emitKeeps_card : Rows.EmitKeepsCardSaid :=
 Claim7.holds_tied_plain_at .later [] _ _ _ _ emitKeeps_said (fun _ h => by cases h) (by kernel_rfl) (fun _ h => by cases h) emitKeeps_row_tie rfl ⟨rfl, rfl⟩ (by kernel_rfl) rfl (fun f fn hf hfn => ⟨by kernel_rfl, emitKeeps_plain f fn hf hfn⟩) (by kernel_rfl)
end Go.Proofs.YtokbgdlenbhklaaDoor
