/- The given statement on EmitTables, proved: an address of a table leads to the same code. No condition of its own. -/
import Derived.Test.YtcafhoobeggmeaaDoorLawS
import Derived.Test.YtcafhoobeggmeaaDoorEmV
import Derived.Test.YtcafhoobeggmeaaDoorEmTb
import Derived.Deep.DeepCutAuto
import Derived.Deep.CutBlock
import Derived.Deep.LoopGhost
import Derived.Deep.QuietTactic
import Derived.BigQuiet
import Derived.IntWalk
import Derived.WalkLawsBesides
namespace Go.Proofs.YtcafhoobeggmeaaDoor
open Go.ChangeShapes Go.WideShapes Go.ChangeAt Go.RowKit Go.Joins
open Go.ChangeMaps (open_string)
set_option maxHeartbeats 8000000 in
set_option maxRecDepth 100000 in
theorem emitTables_walk (l : List RawI) (A : Option Addr) (c : Nat) (Ls : List Int) (oA : Option Addr) (oc : Nat) (w : World) (hT : Tabs w) (hR : RdR w w.heap.size A l) (hl : l.length ≤ 140737488355328) (hc : l.length ≤ c) (hN : ∀ x ∈ Ls, N64 x) (hR2 : RdG w w.heap.size oA (intsV .i64 Ls)) (hl2 : Ls.length ≤ 140737488355328) (hc2 : Ls.length ≤ oc) :
 Calls Tryd.prog 6 #[.slice A l.length c, .slice oA Ls.length oc] w fun e w' => e = .returned (.bool true) ∧ Below w.heap.size w w' := by
 have HFW := hd' (flowed_any l A c w hT hR hc hl); have HT := hd' hT; have HR2 := hd' hR2; have HN := hd' hN; have HLC := hd' (And.intro hl2 hc2); obtain ⟨ll, hll⟩ := ex' l.length
 obtain ⟨lo, hlo⟩ := ex' Ls.length
 rw [hll] at HFW ⊢; rw [hlo]; have HLO := hd' hlo; clear hT hR hl hc hll hlo hN hR2 hl2 hc2
 go_enter Tryd.func6, Tryd.ntmps6
 go_wp2_with fail
 refine HFW.out.mono ?_; rintro e w1 ⟨hb1, m, v, d, xA, yA, zA, xc, yc, zc, rfl, hst⟩; have hb1w : Below w.heap.size w w1 := hb1; have HB1 := hd' hb1w; have HST := hd' hst; have HTXT := hd' hst.pgm.text; obtain ⟨P, hP⟩ := ex' (shL d Ls)
 have ho := shL_good hst.sizes.2.2.2.2 Ls; rw [hP] at ho; obtain ⟨x, hx⟩ := ex' (emL m d P)
 have HPE := hd' hP; have HXE := hd' hx; have HO := hd' ho; obtain ⟨tA, tc, fA, fc, bA, bc, dA, dc, lA, lc⟩ := v; unfold Img.val flowV; simp only; obtain ⟨T, hTe⟩ := ex' m.text.length
 obtain ⟨NF, hNF⟩ := ex' m.funcs.length
 obtain ⟨nb, hnb⟩ := ex' m.tables.length
 obtain ⟨nd, hnd⟩ := ex' m.data.length
 obtain ⟨nl, hnl⟩ := ex' m.lines.length
 obtain ⟨NB, hNB⟩ := ex' d.blocks.length
 obtain ⟨nt, hnt⟩ := ex' d.tables.length
 obtain ⟨nz, hnz⟩ := ex' d.firsts.length
 obtain ⟨NP, hNP⟩ := ex' P.length
 have HSH : Hid (∀ W, Below w1.heap.size w1 W → Calls Tryd.prog 16 #[.agg #[.slice xA NB xc, .slice yA nt yc, .slice zA nz zc], .slice oA lo oc] W (ShfPost W d Ls)) := hd' fun W hW => by
  have h := shuf_st (hst.below hW) Ls oA oc ((HR2.out.below (hb1w.trans (hW.mono hb1w.size))).more (Nat.le_trans hb1w.size hW.size)) HLC.out.2 HLC.out.1 HN.out; unfold flowV at h; rw [hNB, hnt, hnz, HLO.out] at h; exact h
 have HEM : Hid (∀ W A c, Below w1.heap.size w1 W → PartsRd W A c P → Calls Tryd.prog 15 #[.agg #[.slice tA T tc, .slice fA NF fc, .slice bA nb bc, .slice dA nd dc, .slice lA nl lc, .int .i64 m.entry], .slice A NP c] W (EmPost W m d P)) := hd' fun W A c hW hq => by
  have h := emit_st (hst.below hW) (HT.out.below (hb1w.trans (hW.mono hb1w.size))) hq ho; unfold Img.val at h; simp only at h; rw [hTe, hNF, hnb, hnd, hnl, hNP] at h; exact h
 rw [hTe, hNF, hnb, hnd, hnl, hNB, hnt, hnz]; have HNP := hd' hNP; have HTE := hd' hTe; have HNF := hd' hNF; have HN5 := hd' (And.intro hnb (And.intro hnd hnl)); have HNB := hd' hNB; clear hTe hnl hnb hnd hNB hnt hnz hNF hNP hst hP hx ho hb1 hb1w; clear HFW HR2 HN HLC HLO
 go_upto_region 2 with fail
 obtain ⟨X, hX⟩ := ex' (w1.alloc (.cells #[.slice tA T tc, .slice fA NF fc, .slice bA nb bc, .slice dA nd dc, .slice lA nl lc, .int .i64 m.entry] 42))
 rw [hX]; have hm1 : Blk X w1.heap.size 42 [.slice tA T tc, .slice fA NF fc, .slice bA nb bc, .slice dA nd dc, .slice lA nl lc, .int .i64 m.entry] := by rw [← hX]; exact Blk.new w1 _ _
 have hbX : Below w1.heap.size w1 X := by rw [← hX]; exact (Below.refl _ _).alloc lr' _
 have hxs : X.heap.size = w1.heap.size + 1 := by rw [← hX]; simp
 obtain ⟨Y, hY⟩ := ex' (X.alloc (.cells #[.slice xA NB xc, .slice yA nt yc, .slice zA nz zc] 45))
 rw [hY]; have hfY : Blk Y (w1.heap.size + 1) 45 [.slice xA NB xc, .slice yA nt yc, .slice zA nz zc] := by rw [← hY, ← hxs]; exact Blk.new X _ _
 have hbY : Below X.heap.size X Y := by rw [← hY]; exact (Below.refl _ _).alloc lr' _
 have hmY := hm1.keep hbY; have hbWY := hbX.trans (hbY.mono hbX.size); obtain ⟨BX, hBX⟩ := ex' w1.heap.size
 have HWY := hd' hbWY; rw [hBX] at hfY hmY ⊢; have HMY := hd' hmY; have HFY := hd' hfY; have HSHY : Hid (∀ W, Below Y.heap.size Y W → _) := hd' fun W hW => HSH.out W (hbWY.trans (hW.mono hbWY.size))
 have HEMY : Hid (∀ W A c, Below Y.heap.size Y W → _) := hd' fun W A c hW => HEM.out W A c (hbWY.trans (hW.mono hbWY.size))
 have m0 := hmY.cell 0 rfl; have m1 := hmY.cell 1 rfl; have m2 := hmY.cell 2 rfl; have m3 := hmY.cell 3 rfl; have m4 := hmY.cell 4 rfl; have m5 := hmY.cell 5 rfl; have f0 := hfY.cell 0 rfl; have f1 := hfY.cell 1 rfl; have f2 := hfY.cell 2 rfl; clear hX hY hm1 hbX hbY hmY hbWY hxs hBX hfY HSH HEM
 go_cut [8, 9, 10] (fun s8 s9 s10 wx => ∃ (z : Nat) (v2 : ImgV) (eA : Option Addr) (en ec : Nat) (ps : List (Int × Int)), s8 = .pointer (some ⟨z, 0, none⟩) ∧ s9 = .slice eA en ec ∧ s10 = .int .i64 0 ∧ Hid (EmVar Y wx z x (emIts d P) v2 eA en ec ps))
 case first =>
  refine wp_region_W (fun w' => w'.cell? ⟨BX, 0, none⟩ = some (.slice tA T tc) ∧ w'.cell? ⟨BX, 1, none⟩ = some (.slice fA NF fc) ∧ w'.cell? ⟨BX, 2, none⟩ = some (.slice bA nb bc) ∧ w'.cell? ⟨BX, 3, none⟩ = some (.slice dA nd dc) ∧ w'.cell? ⟨BX, 4, none⟩ = some (.slice lA nl lc) ∧ w'.cell? ⟨BX, 5, none⟩ = some (.int .i64 m.entry) ∧ w'.cell? ⟨BX + 1, 0, none⟩ = some (.slice xA NB xc) ∧ w'.cell? ⟨BX + 1, 1, none⟩ = some (.slice yA nt yc) ∧ w'.cell? ⟨BX + 1, 2, none⟩ = some (.slice zA nz zc)) 13 (by kernel_rfl) (by (try dsimp only); go_keep) (fun zH => ?_)
  have hbD : Below Y.heap.size Y Y.drew := (Below.refl _ _).drew; refine wq 0 zH ?_; refine wq 1 zH ?_; refine wq 2 zH ?_; refine wpW_all [3, 9] (by kernel_rfl) (by simp) ?_; refine AllW.cons (i := 3) rfl (fun K hK => ?_) ?_
  · skip
    go_simp
    refine (HSHY.out Y.drew hbD).mono ?_; rintro e w3 ⟨hb3, pA, pc, lv, rfl, hlv, hpr, hpb⟩; rw [HPE.out] at hlv; have hpt := shf_parts hlv hpr hpb; rw [show lv.length = NP by rw [← HNP.out, ← hlv, List.length_map]]; clear hpr hpb hlv; have hbX3 : Below Y.heap.size Y w3 := hbD.trans (hb3.mono hbD.size); obtain ⟨y3_0, y3_1, y3_2, y3_3, y3_4, y3_5, y3_6, y3_7, y3_8⟩ := mf_keep hbX3 HMY.out HFY.out; refine hK.out _ _ (by (try dsimp only); go_keep) (fun zH => ?_); clear hK K; (try simp only [putE]); refine wpW_all [4, 9] (by kernel_rfl) (by simp) ?_
    refine AllW.cons (i := 4) rfl (fun K hK => ?_) ?_
    · skip
      go_simp
      have hpe := hpt; refine (HEMY.out w3 pA pc hbX3 hpe).mono ?_; rintro e w4 ⟨hb4, ⟨tA2, tc2, fA2, fc2, bA2, bc2, dA2, dc2, lA2, lc2⟩, eA, en, ec, ps, rfl, hown, hpl, hprs, hpk⟩; rw [HXE.out] at hown ⊢; unfold Img.val; simp only; have hbX4 : Below Y.heap.size Y w4 := hbX3.trans (hb4.mono hbX3.size); obtain ⟨y4_0, y4_1, y4_2, y4_3, y4_4, y4_5, y4_6, y4_7, y4_8⟩ := mf_keep hbX4 HMY.out HFY.out; refine hK.out _ _ (by (try dsimp only); go_keep) (fun zH => ?_); clear hK K; (try simp only [putE]); refine wq 5 zH ?_; refine wq 6 zH ?_
      refine wq 7 zH ?_; refine wq 8 zH ?_; refine wpW_one 9 rfl (by kernel_rfl) (fun K hK => ?_)
      go_simp
      have zb0 : Blk (w4.alloc (.cells #[.slice none 0 0, .slice none 0 0, .slice none 0 0, .slice none 0 0, .slice none 0 0, .int .i64 0] 42)) (w4.heap.size) 42 [.slice none 0 0, .slice none 0 0, .slice none 0 0, .slice none 0 0, .slice none 0 0, .int .i64 0] := Blk.new w4 _ _; have hbA : Below Y.heap.size Y (w4.alloc (.cells #[.slice none 0 0, .slice none 0 0, .slice none 0 0, .slice none 0 0, .slice none 0 0, .int .i64 0] 42)) := hbX4.alloc (hbX4.size) _; have hneA0 : ¬ w4.heap.size = BX := by have h1 := hbX4.size; have h2 := HMY.out.lt; omega
      have hneA1 : ¬ w4.heap.size = BX + 1 := by have h1 := hbX4.size; have h2 := HFY.out.lt; omega
      refine hK.out _ _ (by (try dsimp only); go_keep) (fun zH => ?_); clear hK K; (try simp only [putE]); refine wpW_one 10 rfl (by kernel_rfl) (fun K hK => ?_)
      go_simp
      refine hK.out _ _ (by (try dsimp only); go_keep) (fun zH => ?_); clear hK K; (try simp only [putE]); refine wq 11 zH ?_; refine wq 12 zH ?_; refine wpW_done (by kernel_rfl) ?_ _; have hev := emVar_new (v := ⟨tA2, tc2, fA2, fc2, bA2, bc2, dA2, dc2, lA2, lc2⟩) hbX4 hown hpl hprs hpk
      dsimp only at hev
      go_wp2
      go_meet
      exact ⟨_, ⟨tA2, tc2, fA2, fc2, bA2, bc2, dA2, dc2, lA2, lc2⟩, eA, en, ec, ps, rfl, rfl, rfl, hd' hev⟩
    refine AllW.cons (i := 9) rfl (fun K hK => ?_) AllW.nil
    go_simp
    have zb0 : Blk (w3.alloc (.cells #[.slice none 0 0, .slice none 0 0, .slice none 0 0, .slice none 0 0, .slice none 0 0, .int .i64 0] 42)) (w3.heap.size) 42 [.slice none 0 0, .slice none 0 0, .slice none 0 0, .slice none 0 0, .slice none 0 0, .int .i64 0] := Blk.new w3 _ _; have hbA : Below Y.heap.size Y (w3.alloc (.cells #[.slice none 0 0, .slice none 0 0, .slice none 0 0, .slice none 0 0, .slice none 0 0, .int .i64 0] 42)) := hbX3.alloc (hbX3.size) _; have hneA0 : ¬ w3.heap.size = BX := by have h1 := hbX3.size; have h2 := HMY.out.lt; omega
    have hneA1 : ¬ w3.heap.size = BX + 1 := by have h1 := hbX3.size; have h2 := HFY.out.lt; omega
    refine hK.out _ _ (by (try dsimp only); go_keep) (fun zH => ?_); clear hK K; (try simp only [putE]); refine wpW_one 4 rfl (by kernel_rfl) (fun K hK => ?_)
    go_simp
    have hpe : PartsRd (w3.alloc (.cells #[.slice none 0 0, .slice none 0 0, .slice none 0 0, .slice none 0 0, .slice none 0 0, .int .i64 0] 42)) pA pc P := hpt.below ((Below.refl w3.heap.size w3).alloc lr' _); refine (HEMY.out (w3.alloc (.cells #[.slice none 0 0, .slice none 0 0, .slice none 0 0, .slice none 0 0, .slice none 0 0, .int .i64 0] 42)) pA pc hbA hpe).mono ?_; rintro e w4 ⟨hb4, ⟨tA2, tc2, fA2, fc2, bA2, bc2, dA2, dc2, lA2, lc2⟩, eA, en, ec, ps, rfl, hown, hpl, hprs, hpk⟩; rw [HXE.out] at hown ⊢; unfold Img.val; simp only
    have hbX4 : Below Y.heap.size Y w4 := hbA.trans (hb4.mono hbA.size); obtain ⟨y4_0, y4_1, y4_2, y4_3, y4_4, y4_5, y4_6, y4_7, y4_8⟩ := mf_keep hbX4 HMY.out HFY.out; have zb5 := zb0.keep hb4; have zc4_0 := zb5.cell 0 rfl; have zf4_0 := zb5.free 0; have zc4_1 := zb5.cell 1 rfl; have zf4_1 := zb5.free 1; have zc4_2 := zb5.cell 2 rfl; have zf4_2 := zb5.free 2; have zc4_3 := zb5.cell 3 rfl; have zf4_3 := zb5.free 3; have zc4_4 := zb5.cell 4 rfl; have zf4_4 := zb5.free 4; have zc4_5 := zb5.cell 5 rfl; have zf4_5 := zb5.free 5; have zl4 := zb5.lt
    refine hK.out _ _ (by (try dsimp only); go_keep) (fun zH => ?_); clear hK K; (try simp only [putE]); refine wq 5 zH ?_; refine wq 6 zH ?_; refine wq 7 zH ?_; refine wq 8 zH ?_; refine wpW_one 10 rfl (by kernel_rfl) (fun K hK => ?_)
    go_simp
    refine hK.out _ _ (by (try dsimp only); go_keep) (fun zH => ?_); clear hK K; (try simp only [putE]); refine wq 11 zH ?_; refine wq 12 zH ?_; refine wpW_done (by kernel_rfl) ?_ _; have hev := emVar_old (v := ⟨tA2, tc2, fA2, fc2, bA2, bc2, dA2, dc2, lA2, lc2⟩) zb5 hbX4 hbX3.size zb0.lt hown hpl hprs hpk
    dsimp only at hev
    go_wp2
    go_meet
    exact ⟨_, ⟨tA2, tc2, fA2, fc2, bA2, bc2, dA2, dc2, lA2, lc2⟩, eA, en, ec, ps, rfl, rfl, rfl, hd' hev⟩
  refine AllW.cons (i := 9) rfl (fun K hK => ?_) AllW.nil
  go_simp
  have zb0 : Blk (Y.alloc (.cells #[.slice none 0 0, .slice none 0 0, .slice none 0 0, .slice none 0 0, .slice none 0 0, .int .i64 0] 42)).drew (Y.heap.size) 42 [.slice none 0 0, .slice none 0 0, .slice none 0 0, .slice none 0 0, .slice none 0 0, .int .i64 0] := Blk.drew (Blk.new Y _ _); have hbA : Below Y.heap.size Y (Y.alloc (.cells #[.slice none 0 0, .slice none 0 0, .slice none 0 0, .slice none 0 0, .slice none 0 0, .int .i64 0] 42)).drew := ((Below.refl _ _).alloc lr' _).drew
  have hneA0 : ¬ Y.heap.size = BX := by have h1 := hbD.size; have h2 := HMY.out.lt; omega
  have hneA1 : ¬ Y.heap.size = BX + 1 := by have h1 := hbD.size; have h2 := HFY.out.lt; omega
  refine hK.out _ _ (by (try dsimp only); go_keep) (fun zH => ?_); clear hK K; (try simp only [putE]); refine wpW_one 3 rfl (by kernel_rfl) (fun K hK => ?_)
  go_simp
  refine (HSHY.out (Y.alloc (.cells #[.slice none 0 0, .slice none 0 0, .slice none 0 0, .slice none 0 0, .slice none 0 0, .int .i64 0] 42)).drew hbA).mono ?_; rintro e w3 ⟨hb3, pA, pc, lv, rfl, hlv, hpr, hpb⟩; rw [HPE.out] at hlv; have hpt := shf_parts hlv hpr hpb; rw [show lv.length = NP by rw [← HNP.out, ← hlv, List.length_map]]; clear hpr hpb hlv; have hbX3 : Below Y.heap.size Y w3 := hbA.trans (hb3.mono hbA.size); obtain ⟨y3_0, y3_1, y3_2, y3_3, y3_4, y3_5, y3_6, y3_7, y3_8⟩ := mf_keep hbX3 HMY.out HFY.out; have zb4 := zb0.keep hb3; have zc3_0 := zb4.cell 0 rfl
  have zf3_0 := zb4.free 0; have zc3_1 := zb4.cell 1 rfl; have zf3_1 := zb4.free 1; have zc3_2 := zb4.cell 2 rfl; have zf3_2 := zb4.free 2; have zc3_3 := zb4.cell 3 rfl; have zf3_3 := zb4.free 3; have zc3_4 := zb4.cell 4 rfl; have zf3_4 := zb4.free 4; have zc3_5 := zb4.cell 5 rfl; have zf3_5 := zb4.free 5; have zl3 := zb4.lt; refine hK.out _ _ (by (try dsimp only); go_keep) (fun zH => ?_); clear hK K; (try simp only [putE]); refine wpW_one 4 rfl (by kernel_rfl) (fun K hK => ?_)
  go_simp
  have hpe := hpt; refine (HEMY.out w3 pA pc hbX3 hpe).mono ?_; rintro e w4 ⟨hb4, ⟨tA2, tc2, fA2, fc2, bA2, bc2, dA2, dc2, lA2, lc2⟩, eA, en, ec, ps, rfl, hown, hpl, hprs, hpk⟩; rw [HXE.out] at hown ⊢; unfold Img.val; simp only; have hbX4 : Below Y.heap.size Y w4 := hbX3.trans (hb4.mono hbX3.size); obtain ⟨y4_0, y4_1, y4_2, y4_3, y4_4, y4_5, y4_6, y4_7, y4_8⟩ := mf_keep hbX4 HMY.out HFY.out; have zb5 := zb4.keep hb4; have zc4_0 := zb5.cell 0 rfl; have zf4_0 := zb5.free 0; have zc4_1 := zb5.cell 1 rfl; have zf4_1 := zb5.free 1; have zc4_2 := zb5.cell 2 rfl; have zf4_2 := zb5.free 2
  have zc4_3 := zb5.cell 3 rfl; have zf4_3 := zb5.free 3; have zc4_4 := zb5.cell 4 rfl; have zf4_4 := zb5.free 4; have zc4_5 := zb5.cell 5 rfl; have zf4_5 := zb5.free 5; have zl4 := zb5.lt; refine hK.out _ _ (by (try dsimp only); go_keep) (fun zH => ?_); clear hK K; (try simp only [putE]); refine wq 5 zH ?_; refine wq 6 zH ?_; refine wq 7 zH ?_; refine wq 8 zH ?_; refine wpW_one 10 rfl (by kernel_rfl) (fun K hK => ?_)
  go_simp
  refine hK.out _ _ (by (try dsimp only); go_keep) (fun zH => ?_); clear hK K; (try simp only [putE]); refine wq 11 zH ?_; refine wq 12 zH ?_; refine wpW_done (by kernel_rfl) ?_ _; have hev := emVar_old (v := ⟨tA2, tc2, fA2, fc2, bA2, bc2, dA2, dc2, lA2, lc2⟩) zb5 hbX4 lr' zb4.lt hown hpl hprs hpk
  dsimp only at hev
  go_wp2
  go_meet
  exact ⟨_, ⟨tA2, tc2, fA2, fc2, bA2, bc2, dA2, dc2, lA2, lc2⟩, eA, en, ec, ps, rfl, rfl, rfl, hd' hev⟩
 case rest =>
  obtain ⟨z, v2, eA, en, ec, ps, rfl, rfl, rfl, HEV⟩ := hcut; obtain ⟨tA2, tc2, fA2, fc2, bA2, bc2, dA2, dc2, lA2, lc2⟩ := v2
  rename World => wx
  have hprs := emL_prs HST.out.pgm.check HST.out.rc HO.out HEV.out.pok; have htab := emL_tabs HST.out.pgm.check HST.out.rc HO.out HEV.out.pok; have hcode := emL_code HST.out.pgm.check HST.out.rc HO.out; have hfw := hcode.few; rw [HXE.out] at hprs htab hfw; have HPR := hd' hprs; have HTB := hd' htab; have HFW := hd' hfw; clear m0 m1 m2 m3 m4 m5 f0 f1 f2 HSHY HEMY hprs htab hcode hfw; obtain ⟨T2, hT2⟩ := ex' x.text.length
  obtain ⟨nf2, hnf2⟩ := ex' x.funcs.length
  obtain ⟨nd2, hnd2⟩ := ex' x.data.length
  obtain ⟨nl2, hnl2⟩ := ex' x.lines.length
  have hnb2 : x.tables.length = nb := HTB.out.1.trans HN5.out.1; have HBW : Hid (∀ W, Below wx.heap.size wx W → Below w1.heap.size w1 W) := hd' fun W hW => (HWY.out.trans (HEV.out.bel.mono HWY.out.size)).trans (hW.mono (Nat.le_trans HWY.out.size HEV.out.bel.size))
  have HX0 : Hid (Blk wx z 42 [.slice tA2 T2 tc2, .slice fA2 nf2 fc2, .slice bA2 nb bc2, .slice dA2 nd2 dc2, .slice lA2 nl2 lc2, .int .i64 x.entry]) := hd' (by
   have h := HEV.out.blk; simp only [hT2, hnf2, hnb2, hnd2, hnl2] at h
   exact h)
  have hbc2 : nb ≤ bc2 := by have h := HEV.out.bcap; rw [hnb2] at h; exact h
  have hbc : nb ≤ bc := by have h := HST.out.ok.bc; rw [HN5.out.1] at h; exact h
  have HMX := hd' (HMY.out.keep HEV.out.bel); have HEN := hd' HEV.out.len
  have hE64 : en ≤ 3000000 := by
   have h2 := sum_bd (fun b : BlkD => b.ats.length) 1600 d.blocks (blk_len HST.out); have h1 := HST.out.sizes.1; have h4 := HPR.out.cnt.2; have h5 := HEN.out.1; omega
  have hNB20 : nb ≤ 20 := by have h := (check_tile HST.out.pgm.check).2.2.2.2.2.2.1; have h2 := HN5.out.1; omega
  clear hT2 hnf2 hnd2 hnl2 hnb2; have hmm := @run_makeMap Tryd.prog
  go_upto_region 6 with fail
  clear hmm; obtain ⟨V, hV⟩ := ex' (wx.alloc (.map #[] 0))
  rw [hV]; have hm0 : MapI V wx.heap.size 0 (fun _ => none) := by rw [← hV]; exact MapI.made wx
  have hbV : Below wx.heap.size wx V := by rw [← hV]; exact (Below.refl _ _).alloc lr' _
  obtain ⟨BM, hBM⟩ := ex' wx.heap.size
  rw [hBM] at hm0 ⊢; have HM0 := hd' hm0; have HBM := hd' hBM; have HBV := hd' hbV; clear hV hm0 hbV hBM
  go_wp2_with fail
  go_loopg [44] en (fun gk s wr => ∃ j : Nat, j ≤ en ∧ s = .int .i64 j ∧ Hid (Below wx.heap.size wx wr) ∧ Hid (MapI wr BM j (fM (ps.take j))) ∧ en - j ≤ gk)
  case atStart => exact ⟨0, Nat.zero_le _, rfl, HBV, hd' HM0.out, Nat.le_refl _⟩
  case round =>
   obtain ⟨j, hj, rfl, HBj, HMj, hgk⟩ := hrel
   by_cases hlt : j < en
   · have hltI : (j : Int) < (en : Int) := by omega
     have hec : en ≤ ec := HEN.out.2; have hpj : ps[j]? = some (ps[j]'(by have := HEN.out.1; omega)) := gE' _; generalize ps[j]'(by have := HEN.out.1; omega) = p at hpj; obtain ⟨po, pn⟩ := p; obtain ⟨b, o, hA, hbl, e0, e1⟩ := (HEV.out.prs.below HBj.out).at2 hpj; obtain ⟨-, -, -, -, -, -, -, -, -, -, -, -, p0, p1, p2, p3⟩ := HPR.out.pr (po, pn) (mG' hpj); simp only at e0 e1 p0 p1 p2 p3; have hko : N64 po := by have h := HTXT.out; exact ⟨by omega, by omega⟩
     have hkn : N64 pn := by have h := HTXT.out; have h2 := HFW.out; exact ⟨by omega, by omega⟩
     have HFM : Hid (fM (ps.take (j + 1)) = upF (fM (ps.take j)) po (some pn)) := hd' (fM_step hpj); have HKO := hd' (And.intro hko hkn); subst hA; clear hpj p0 p1 p2 p3 hbl hko hkn
     go_upto_region 9 with fail
     obtain ⟨Z, hZ⟩ := ex' (wr.alloc (.cells #[.int .i64 po, .int .i64 pn] 59))
     rw [hZ]; have hz : Blk Z wr.heap.size 59 [.int .i64 po, .int .i64 pn] := by rw [← hZ]; exact Blk.new wr _ _
     have hbZ : Below wr.heap.size wr Z := by rw [← hZ]; exact (Below.refl _ _).alloc lr' _
     have HMZ := hd' (HMj.out.keep hbZ); have HBZ := hd' (HBj.out.trans (hbZ.mono HBj.out.size)); have z0 := hz.cell 0 rfl; have z1 := hz.cell 1 rfl; have zl := hz.lt; clear hZ hz hbZ e0 e1
     go_wp2_with (first | (refine wpl_upI rfl _ _ _ rfl BM j _ rfl HMZ.out (by omega) po pn rfl rfl HKO.out.1 HKO.out.2 ?a1))
     case a1 =>
      intro w2 hm2 hg2; have HM2 : Hid (MapI w2 BM (j + 1) (fM (ps.take (j + 1)))) := hd' (by rw [HFM.out]; exact hm2); have HB2 := hd' (HBZ.out.grown hg2 HBZ.out.size (fun q e => by injection e with e; have := HBM.out; omega)); clear hm2 hg2 z0 z1 zl
      go_wp2_with fail
      go_roundg (en - (j + 1))
      case measure => omega
      case rel => exact ⟨j + 1, by omega, (by go_num), HB2, HM2, Nat.le_refl _⟩
   · obtain rfl : en = j := by omega
     have hltI : ¬ (en : Int) < (en : Int) := by omega
     have hmp := HMj.out; rw [List.take_of_length_le (by have := HEN.out.1; omega)] at hmp; have HMP := hd' hmp; have hmw := HMX.out.keep HBj.out; have hxw := HX0.out.keep HBj.out; have k2 := hmw.cell 2 rfl; have kl := hmw.lt; have x2 := hxw.cell 2 rfl; have xl := hxw.lt; have HBE := hd' (HB1.out.trans ((HBW.out _ HBj.out).mono HB1.out.size)); have HRM : Hid (RdT wr wr.heap.size bA m.tables) := hd' (HST.out.below (HBW.out _ HBj.out)).img.tables; have HRX : Hid (RdT wr wr.heap.size bA2 x.tables) := hd' ((HEV.out.img.tables.keep HBj.out).more HBj.out.size)
     clear hj hgk hltI hlt HMj hmp hmw hxw
     rename World => wo
     go_wp2_with fail
     go_loopg [57] nb (fun gk s wq => ∃ i : Nat, i ≤ nb ∧ s = .int .i64 i ∧ wq = wo ∧ nb - i ≤ gk)
     case atStart => exact ⟨0, Nat.zero_le _, rfl, rfl, Nat.le_refl _⟩
     case round =>
      obtain ⟨i, hi, rfl, hw, hgk⟩ := hrel; subst hw
      rename World => wo
      by_cases hlt : i < nb
      · have hltI : (i : Int) < (nb : Int) := by omega
        have hti : m.tables[i]? = some (m.tables[i]'(by have := HN5.out.1; omega)) := gE' _; generalize m.tables[i]'(by have := HN5.out.1; omega) = t at hti; obtain ⟨t2, hxi, hl2, hat⟩ := HTB.out.2 i t hti; obtain ⟨b1, o1, a1, c1, hbA, hb1, hc1, hle1, -, -, hr1⟩ := rdT_at HRM.out hti; obtain ⟨b2, o2, a2, c2, hbA2, hb2, hc2, hle2, -, -, hr2⟩ := rdT_at HRX.out hxi; obtain ⟨nt1, hnt1⟩ := ex' t.length
        rw [hl2] at hc2 hle2; rw [hnt1] at hc1 hle1 hc2 hle2 hl2; have HN1 := hd' (And.intro hnt1 hl2); have HAT := hd' hat; have HR1 := hd' hr1; have HR2 := hd' hr2; have hT64 := HST.out.ok.bb t (mG' hti); have HT64 := hd' hT64; have hl20 : nt1 ≤ 20 := by have h := check_tabs0 HST.out.pgm.check t (mG' hti); omega
        subst hbA hbA2; clear hti hxi hat hr1 hr2 hnt1 hl2 hT64
        go_wp2_with fail
        go_loopg [64] nt1 (fun gk2 s2 wq => ∃ k : Nat, k ≤ nt1 ∧ s2 = .int .i64 k ∧ wq = wo ∧ nt1 - k ≤ gk2)
        case atStart => exact ⟨0, Nat.zero_le _, rfl, rfl, Nat.le_refl _⟩
        case round =>
         obtain ⟨k, hk, rfl, hw, hgk2⟩ := hrel; subst hw
         by_cases hlt2 : k < nt1
         · have hltI2 : (k : Int) < (nt1 : Int) := by omega
           have hk1 : t[k]? = some (t[k]'(by have := HN1.out.1; omega)) := gE' _; generalize t[k]'(by have := HN1.out.1; omega) = a at hk1; have hk2 : t2[k]? = some (t2[k]'(by have := HN1.out.2; omega)) := gE' _; generalize t2[k]'(by have := HN1.out.2; omega) = a' at hk2; obtain ⟨b3, o3, ha3, hb3, hc3⟩ := HR1.out.at (intsV_at .i64 hk1); obtain ⟨b4, o4, ha4, hb4, hc4⟩ := HR2.out.at (intsV_at .i64 hk2); have hlk := HMP.out.look_ok (HT64.out a (mG' hk1))
           have hfa : ∀ n, fM ps a = some n → a' = n := fun n hn => by
            have h := HAT.out k a n hk1 (fM_mem hn); rw [hk2] at h; injection h
           subst ha3 ha4; clear hk1 hk2; rcases hf : fM ps a with _ | n
           · rw [hf] at hlk; simp only [Option.getD_none, Option.isSome_none] at hlk; clear hfa hf
             go_wp2_with fail
             go_roundg (nt1 - (k + 1))
             case measure => omega
             case rel => exact ⟨k + 1, by omega, (by go_num), rfl, Nat.le_refl _⟩
           · rw [hf] at hlk; simp only [Option.getD_some, Option.isSome_some] at hlk; have han := hfa n hf; subst han; have qe : (a' == a') = true := by simp
             clear hfa hf
             go_wp2_with fail
             go_roundg (nt1 - (k + 1))
             case measure => omega
             case rel => exact ⟨k + 1, by omega, (by go_num), rfl, Nat.le_refl _⟩
         · obtain rfl : nt1 = k := by omega
           have hltI2 : ¬ (nt1 : Int) < (nt1 : Int) := by omega
           go_wp2_with fail
           go_roundg (nb - (i + 1))
           case measure => omega
           case rel => exact ⟨i + 1, by omega, (by go_num), rfl, Nat.le_refl _⟩
      · obtain rfl : nb = i := by omega
        have hltI : ¬ (nb : Int) < (nb : Int) := by omega
        go_wp2_with fail
        go_ret
        exact ⟨by simp, HBE.out⟩
set_option maxRecDepth 100000 in
theorem emitTables_contract (H : Type) (enc : TypeId × Value → H) (W : World) (base : Nat) (args : Array Value) (ds gs : List (DataW H)) (before : List MemPlace)
 (hval : ∀ (j : Nat) t v, Tryd.f6.params[j]? = some t → args[j]? = some v → Value.okWide Tryd.prog W .any base t v)
 (hW : DataW.Whole enc Tryd.prog Tryd.f6.params.toList Rows.emitTablesSpec.vars false W args.toList ds gs before) (hL : laidMetH Tryd.prog Rows.emitTablesRow.laid W)
 (hz : (DataW.weightsEach Tryd.prog (Tryd.f6.params.toList ++ (OpenSpec.ofChange Rows.emitTablesSpec).bare.plain.varTypes Tryd.prog) (ds ++ gs)).all (· ≤ reachBytes) = true) :
 Calls Tryd.prog 6 args W fun e W' => ∃ v, e = .returned v ∧ Rows.emitTablesSpec.post enc Tryd.prog Tryd.f6 false true false false W args v W' := by
 have hT : Tabs W := tabs_of_laid5 hL; have hW0 := hW; obtain ⟨p, q, hA0, hV, rfl, hfz, hnd⟩ := hW; have hA : DataW.TrodAll enc Tryd.prog W 0 (fun _ => true) true Tryd.f6.params.toList args.toList ds p := hA0; rw [Tryd.params6] at hA hval; obtain ⟨v0, vs0, d0, ds0, p0, q0, hargs, rfl, rfl, h0, r0⟩ := trodAll_cons hA; obtain ⟨v1, vs1, d1, ds1, p1, q1, rfl, rfl, rfl, h1, r1⟩ := trodAll_cons r0; obtain ⟨rfl, rfl, rfl⟩ := trodAll_nil r1; obtain rfl : args = #[v0, v1] := by cases args; simp_all
 obtain ⟨rfl, rfl⟩ := trodVars_none hV; clear hA0; obtain ⟨A, cap, L, rfl, hcap, hcm, hR, hd⟩ := open_raws (hval 0 22 v0 rfl rfl) h0; obtain ⟨iA, icap, IL, rfl, hicap, hicm, hI64, hIR, hid⟩ := open_nums (hval 1 35 v1 rfl rfl) h1
 have hL2 : L.length ≤ 140737488355328 := by
  rcases hd with ⟨-, rfl, -⟩ | ⟨elems, spare, rfl, hl⟩
  · exact Nat.zero_le _
  · have h1 := sized_slice hz (j := 0) (t := 22) (by rw [Tryd.params6]; rfl) rfl Tryd.underlying22; have h2 : Tryd.prog.bytesOf 26 = 32 := by kernel_rfl
    have h3 := reachBytes_lt; rw [h2, hl] at h1; omega
 have hIL : IL.length ≤ 140737488355328 := by
  rcases hid with ⟨-, rfl, -⟩ | ⟨elems, spare, rfl, hl⟩
  · exact Nat.zero_le _
  · have h1 := sized_slice hz (j := 1) (t := 35) (by rw [Tryd.params6]; rfl) rfl Tryd.underlying35; have h2 : Tryd.prog.bytesOf 3 = 8 := by kernel_rfl
    have h3 := reachBytes_lt; rw [h2, hl] at h1; omega
 refine (emitTables_walk L A cap IL iA icap W hT hR hL2 hcap hI64 hIR hIL hicap).mono fun e W' ⟨he, hb⟩ => ?_
 subst he; exact ⟨_, rfl, law_post hW0 rfl rfl (by kernel_rfl) (by kernel_rfl) hb⟩
set_option maxRecDepth 100000 in
theorem emitTables_met (os : Os) : laidMet Tryd.prog Rows.emitTablesRow.laid ((laidWorld5 os).forCall (fun _ _ => 0) ⟨#[], #[.slice none 0 0, .slice none 0 0], []⟩).memory :=
 laidMet_of_run' 8 (by kernel_rfl) (by kernel_rfl)
set_option maxRecDepth 100000 in
theorem emitTables_reads (os : Os) {H : Type} (enc : TypeId × Value → H) : ∃ places, DataW.whole enc Tryd.prog ((laidWorld5 os).forCall (fun _ _ => 0) ⟨#[], #[.slice none 0 0, .slice none 0 0], []⟩).memory Tryd.f6.params.toList Rows.emitTablesSpec.vars false (#[.slice none 0 0, .slice none 0 0] : Array Value).toList 8 = some ([.nil, .nil], [], places) :=
 ⟨[], by kernel_rfl⟩
set_option maxRecDepth 100000 in
theorem emitTables_lifted (os : Os) (started : os.Started) (H : Type) (enc : TypeId × Value → H) (F : Stop.Interp) :
 ReturnsInHanded {} Tryd.checked os 6 .any ((OpenSpec.ofChange Rows.emitTablesSpec).preRow enc Tryd.prog Tryd.f6 Rows.emitTablesRow.domain false Rows.emitTablesRow.laid) (((OpenSpec.ofChange Rows.emitTablesSpec).at F).post enc Tryd.prog Tryd.f6 false true false false) := by
 obtain ⟨places, hx⟩ := emitTables_reads os enc
 refine returnsInHanded_of_row (C := Tryd.checked) (s := OpenSpec.ofChange Rows.emitTablesSpec) ownP started (by kernel_rfl) Tryd.func6
  (witness_row_at (enc := enc) (C := Tryd.checked) false (laidWorld5 os) #[.slice none 0 0, .slice none 0 0] rfl (by kernel_rfl) (by kernel_rfl) (by kernel_rfl)
   (OpenSpec.preRow_of_cond 8 hx (by kernel_rfl) (fun k hk => by cases hk) (by kernel_rfl) (emitTables_met os))) ?_
 intro W base args ds gs before hval hW _ _ hreach hL _ _; exact emitTables_contract H enc W base args ds gs before hval hW hL hreach
set_option maxRecDepth 100000 in
theorem emitTables_said : Rows.EmitTablesSaid :=
 OpenClaim.holds_of_cond 6 Tryd.f6 rfl rfl rfl rfl rfl rfl rfl ⟨rfl, rfl, rfl, rfl, rfl⟩ rfl rfl rfl rfl rfl (by kernel_rfl) Tryd.func6 (by kernel_rfl)
  (of_decide_eq_true (by kernel_rfl)) (by unfold Func.isWrapper; first | (rw [if_pos (by decide +kernel)]; kernel_rfl) | (rw [if_neg (by decide +kernel)]; exact ⟨rfl, rfl⟩))
  (fun os started H enc _ F => by rw [OpenClaim.pre_eq_preRow]; exact emitTables_lifted os started H enc F)
set_option maxRecDepth 100000 in
theorem emitTables_plain (f : FuncId) (fn : Func) (hf : Tryd.pinned.checked.prog.funcNamed "bolthole/boltholekeep.EmitTables" = some f) (hfn : Tryd.pinned.checked.prog.funcs[f]? = some fn) :
 ∀ (j : Nat) t, fn.params[j]? = some t → Tryd.pinned.checked.prog.wantsStandIn t = false := by
 obtain rfl : f = 6 := Option.some.inj ((show Tryd.prog.funcNamed "bolthole/boltholekeep.EmitTables" = some 6 by kernel_rfl).symm.trans hf) |>.symm; obtain rfl : fn = Tryd.f6 := (Option.some.inj (Tryd.func6.symm.trans hfn)).symm; intro j t ht
 have hall : ∀ t ∈ Tryd.f6.params, Tryd.prog.wantsStandIn t = false := by
  rw [Tryd.params6]; intro t ht; simp only [List.mem_toArray, List.mem_cons, List.not_mem_nil, or_false] at ht; rcases ht with rfl | rfl
  all_goals kernel_rfl
 exact hall t (Array.mem_of_getElem? ht)
set_option maxRecDepth 100000 in
theorem emitTables_card : Rows.EmitTablesCardSaid :=
 Claim7.holds_tied_plain_at .later [] _ _ _ _ emitTables_said (fun _ h => by cases h) (by kernel_rfl) (fun _ h => by cases h) emitTables_row_tie rfl ⟨rfl, rfl⟩ (by kernel_rfl) rfl (fun f fn hf hfn => ⟨by kernel_rfl, emitTables_plain f fn hf hfn⟩) (by kernel_rfl)
end Go.Proofs.YtcafhoobeggmeaaDoor
