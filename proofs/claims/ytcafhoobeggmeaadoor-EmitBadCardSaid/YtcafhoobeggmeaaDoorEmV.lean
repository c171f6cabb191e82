/- What Emit leaves as variables; the new program has text; EmitTells walked. -/
import Derived.Test.YtcafhoobeggmeaaDoorEmW
import Derived.Deep.DeepCutAuto
import Derived.Deep.CutBlock
import Derived.Deep.LoopGhost
import Derived.Deep.QuietTactic
import Derived.BigQuiet
import Derived.IntWalk
import Derived.WalkLawsBesides
namespace Go.Proofs.YtcafhoobeggmeaaDoor
open Go.RowKit
structure EmVar (Y wx : World) (z : Nat) (x : Img) (its : List ItD) (v : ImgV) (pA : Option Addr) (pn pc : Nat) (ps : List (Int × Int)) : Prop where
 bel : Below Y.heap.size Y wx
 blk : Blk wx z 42 [.slice v.tA x.text.length v.tc, .slice v.fA x.funcs.length v.fc, .slice v.bA x.tables.length v.bc, .slice v.dA x.data.length v.dc, .slice v.lA x.lines.length v.lc, .int .i64 x.entry]
 ge : Y.heap.size ≤ z
 img : ImgRd wx wx.heap.size x v
 prs : RdG wx wx.heap.size pA (linesV ps)
 len : ps.length = pn ∧ pn ≤ pc
 pok : PairOk its ps
 cap : x.text.length ≤ v.tc
 fcap : x.funcs.length ≤ v.fc
 bcap : x.tables.length ≤ v.bc
theorem ImgOwn.bcap {w : World} {B : Nat} {x : Img} {v : ImgV} (ho : ImgOwn w B x v) : x.tables.length ≤ v.bc := by
 obtain ⟨b0, -, h, -⟩ := ho.tb
 obtain ⟨vs, hv⟩ := h.row
 exact own_capG hv
theorem emVar_new {Y w : World} {B : Nat} {x : Img} {its : List ItD} {v : ImgV} {pA : Option Addr} {pn pc : Nat} {ps : List (Int × Int)} (hb : Below Y.heap.size Y w) (ho : ImgOwn w B x v) (hl : ps.length = pn) (hp : w.ownsRow B 59 2 (.slice pA pn pc) pn (linesV ps)) (hk : PairOk its ps) :
 EmVar Y (w.alloc (.cells #[.slice v.tA x.text.length v.tc, .slice v.fA x.funcs.length v.fc, .slice v.bA x.tables.length v.bc, .slice v.dA x.data.length v.dc, .slice v.lA x.lines.length v.lc, .int .i64 x.entry] 42)) w.heap.size x its v pA pn pc ps :=
 have h := (Below.refl w.heap.size w).alloc lr' (.cells #[.slice v.tA x.text.length v.tc, .slice v.fA x.funcs.length v.fc, .slice v.bA x.tables.length v.bc, .slice v.dA x.data.length v.dc, .slice v.lA x.lines.length v.lc, .int .i64 x.entry] 42)
 ⟨hb.alloc hb.size _, Blk.new _ _ _, hb.size, (ho.rd.below h).more h.size, ((own_rdg hp).below h).more h.size, ⟨hl, own_capG hp⟩, hk, own_capG ho.tx, own_capG ho.fn, ho.bcap⟩
theorem emVar_old {Y w : World} {B b : Nat} {x : Img} {its : List ItD} {v : ImgV} {pA : Option Addr} {pn pc : Nat} {ps : List (Int × Int)} {z0 z1 z2 z3 z4 z5 : Value} (zb : Blk w b 42 [z0, z1, z2, z3, z4, z5]) (hb : Below Y.heap.size Y w) (hge : Y.heap.size ≤ b) (hlt : b < B) (ho : ImgOwn w B x v) (hl : ps.length = pn) (hp : w.ownsRow B 59 2 (.slice pA pn pc) pn (linesV ps)) (hk : PairOk its ps) :
 EmVar Y ((((((w.setCell ⟨b, 0, none⟩ (.slice v.tA x.text.length v.tc)).setCell ⟨b, 1, none⟩ (.slice v.fA x.funcs.length v.fc)).setCell ⟨b, 2, none⟩ (.slice v.bA x.tables.length v.bc)).setCell ⟨b, 3, none⟩ (.slice v.dA x.data.length v.dc)).setCell ⟨b, 4, none⟩ (.slice v.lA x.lines.length v.lc)).setCell ⟨b, 5, none⟩ (.int .i64 x.entry)) b x its v pA pn pc ps := by
 have g := gb_setCell (gb_setCell (gb_setCell (gb_setCell (gb_setCell (gb_setCell (gb_refl w (some b)) 0 (.slice v.tA x.text.length v.tc)) 1 (.slice v.fA x.funcs.length v.fc)) 2 (.slice v.bA x.tables.length v.bc)) 3 (.slice v.dA x.data.length v.dc)) 4 (.slice v.lA x.lines.length v.lc)) 5 (.int .i64 x.entry)
 have hne : (Value.slice pA pn pc).ownBlock ≠ some b := fun e => by
  have := (World.ownsRow.lt hp b e).1; omega
 exact ⟨hb.trans (gb_to_below g hge hb.size), (((((zb.set 0 _).set 1 _).set 2 _).set 3 _).set 4 _).set 5 _, hge, (ho.gb g hlt).rd, own_rdg (own_gb hp g hne), ⟨hl, own_capG hp⟩, hk, own_capG ho.tx, own_capG ho.fn, ho.bcap⟩
theorem mf_keep {Y W : World} {b c : Nat} {t u : TypeId} {a0 a1 a2 a3 a4 a5 e0 e1 e2 : Value} (hb : Below Y.heap.size Y W) (hm : Blk Y b t [a0, a1, a2, a3, a4, a5]) (hf : Blk Y c u [e0, e1, e2]) : W.cell? ⟨b, 0, none⟩ = some a0 ∧ W.cell? ⟨b, 1, none⟩ = some a1 ∧ W.cell? ⟨b, 2, none⟩ = some a2 ∧ W.cell? ⟨b, 3, none⟩ = some a3 ∧ W.cell? ⟨b, 4, none⟩ = some a4 ∧ W.cell? ⟨b, 5, none⟩ = some a5 ∧ W.cell? ⟨c, 0, none⟩ = some e0 ∧ W.cell? ⟨c, 1, none⟩ = some e1 ∧ W.cell? ⟨c, 2, none⟩ = some e2 :=
 have h := hm.keep hb; have k := hf.keep hb
 ⟨h.cell 0 rfl, h.cell 1 rfl, h.cell 2 rfl, h.cell 3 rfl, h.cell 4 rfl, h.cell 5 rfl, k.cell 0 rfl, k.cell 1 rfl, k.cell 2 rfl⟩
theorem flatLen_pos {l : List Ins} (h : ∀ i ∈ l, i.chk = 0) (hn : l ≠ []) : 0 < (l.flatMap Ins.enc).length := by
 obtain ⟨a, r, rfl⟩ := List.exists_cons_of_ne_nil hn; have h1 := enc_len (h a (by simp)); have h2 := (sizeK_bd (h a (by simp))).1; rw [List.flatMap_cons, List.length_append]; omega
theorem emL_text {m : Img} {d : FlowD} {l : List PartD} (hc : checkE m = 0) (hd : recL m = some d) (ho : OrdG d l) : 0 < (emL m d l).text.length := by
 obtain ⟨ld, bm, S, gs, hF, hFN, hTF⟩ := gen_flow3 hc hd; have hg := hF.pgOk hFN hTF hc ho; have h1 := hF.firsts.1; have h2 := (check_tile hc).2.2.2.1; have h3 := (check_tile hc).2.2.2.2.1; obtain ⟨-, -, -, -, -, h4a, h4⟩ := hF.beginIn ho (f := 0) (by omega) (by omega); have h5 := (hF.emF hFN ho).le.1; refine flatLen_pos (fun i hi => ?_) fun e => ?_
 · obtain ⟨t, ht, rfl⟩ := List.mem_map.1 hi; exact hg.chk t ht
 · have h6 := congrArg List.length e; rw [List.length_map] at h6; simp only [List.length_nil] at h6; omega
--@TELLS
set_option maxHeartbeats 8000000 in
set_option maxRecDepth 100000 in
theorem emitTells_any (w : World) (hT : Tabs w) : Calls Tryd.prog 13 #[] w fun e w' => e = .returned (.bool true) ∧ Below w.heap.size w w' := by
 have HFW : Hid (Calls Tryd.prog 14 #[.slice none 0 0] w (FlwPost w [])) := hd' (flowed_any [] none 0 w hT (RdR.nil _ _ _) lr' (Nat.zero_le _)); have HT := hd' hT; clear hT
 go_enter Tryd.func13, Tryd.ntmps13
 go_wp2_with fail
 refine HFW.out.mono ?_; rintro e w1 ⟨hb1, m, v, d, xA, yA, zA, xc, yc, zc, rfl, hst⟩; have hb1w : Below w.heap.size w w1 := hb1; have HB1 := hd' hb1w; have HST := hd' hst; have HTXT := hd' hst.pgm.text; obtain ⟨P, hP⟩ := ex' (shL d ([] : List Int))
 have ho := shL_good hst.sizes.2.2.2.2 ([] : List Int); rw [hP] at ho; obtain ⟨x, hx⟩ := ex' (emL m d P)
 have HPE := hd' hP; have HXE := hd' hx; have HO := hd' ho; obtain ⟨tA, tc, fA, fc, bA, bc, dA, dc, lA, lc⟩ := v; unfold Img.val flowV; simp only; obtain ⟨T, hTe⟩ := ex' m.text.length
 obtain ⟨NF, hNF⟩ := ex' m.funcs.length
 obtain ⟨nb, hnb⟩ := ex' m.tables.length
 obtain ⟨nd, hnd⟩ := ex' m.data.length
 obtain ⟨nl, hnl⟩ := ex' m.lines.length
 obtain ⟨NB, hNB⟩ := ex' d.blocks.length
 obtain ⟨nt, hnt⟩ := ex' d.tables.length
 obtain ⟨nz, hnz⟩ := ex' d.firsts.length
 obtain ⟨NP, hNP⟩ := ex' P.length
 have HSH : Hid (∀ W, Below w1.heap.size w1 W → Calls Tryd.prog 16 #[.agg #[.slice xA NB xc, .slice yA nt yc, .slice zA nz zc], .slice none 0 0] W (ShfPost W d ([] : List Int))) := hd' fun W hW => by
  have h := shuf_st (hst.below hW) [] none 0 (RdG.nil _ _ _) lr' (Nat.zero_le _) (fun x hx => by cases hx); unfold flowV at h; rw [hNB, hnt, hnz] at h; exact h
 have HEM : Hid (∀ W A c, Below w1.heap.size w1 W → PartsRd W A c P → Calls Tryd.prog 15 #[.agg #[.slice tA T tc, .slice fA NF fc, .slice bA nb bc, .slice dA nd dc, .slice lA nl lc, .int .i64 m.entry], .slice A NP c] W (EmPost W m d P)) := hd' fun W A c hW hq => by
  have h := emit_st (hst.below hW) (HT.out.below (hb1w.trans (hW.mono hb1w.size))) hq ho; unfold Img.val at h; simp only at h; rw [hTe, hNF, hnb, hnd, hnl, hNP] at h; exact h
 rw [hTe, hNF, hnb, hnd, hnl, hNB, hnt, hnz]; have HNP := hd' hNP; have HTE := hd' hTe; have HNF := hd' hNF; have HN5 := hd' (And.intro hnb (And.intro hnd hnl)); have HNB := hd' hNB; clear hTe hnl hnb hnd hNB hnt hnz hNF hNP hst hP hx ho hb1 hb1w; have htx := emL_text HST.out.pgm.check HST.out.rc HO.out; rw [HXE.out] at htx; clear HFW
 go_upto_region 2 with fail
 obtain ⟨X, hX⟩ := ex' (w1.alloc (.cells #[.slice tA T tc, .slice fA NF fc, .slice bA nb bc, .slice dA nd dc, .slice lA nl lc, .int .i64 m.entry] 42))
 rw [hX]; have hm1 : Blk X w1.heap.size 42 [.slice tA T tc, .slice fA NF fc, .slice bA nb bc, .slice dA nd dc, .slice lA nl lc, .int .i64 m.entry] := by rw [← hX]; exact Blk.new w1 _ _
 have hbX : Below w1.heap.size w1 X := by rw [← hX]; exact (Below.refl _ _).alloc lr' _
 have hxs : X.heap.size = w1.heap.size + 1 := by rw [← hX]; simp
 obtain ⟨Y, hY⟩ := ex' (X.alloc (.cells #[.slice xA NB xc, .slice yA nt yc, .slice zA nz zc] 45))
 rw [hY]; have hfY : Blk Y (w1.heap.size + 1) 45 [.slice xA NB xc, .slice yA nt yc, .slice zA nz zc] := by rw [← hY, ← hxs]; exact Blk.new X _ _
 have hbY : Below X.heap.size X Y := by rw [← hY]; exact (Below.refl _ _).alloc lr' _
 have hmY := hm1.keep hbY; have hbWY := hbX.trans (hbY.mono hbX.size); obtain ⟨BX, hBX⟩ := ex' w1.heap.size
 have HWY := hd' hbWY; rw [hBX] at hfY hmY ⊢; have HMY := hd' hmY; have HFY := hd' hfY; have HSHY : Hid (∀ W, Below Y.heap.size Y W → _) := hd' fun W hW => HSH.out W (hbWY.trans (hW.mono hbWY.size))
 have HEMY : Hid (∀ W A c, Below Y.heap.size Y W → _) := hd' fun W A c hW => HEM.out W A c (hbWY.trans (hW.mono hbWY.size))
 have m0 := hmY.cell 0 rfl; have m1 := hmY.cell 1 rfl; have m2 := hmY.cell 2 rfl; have m3 := hmY.cell 3 rfl; have m4 := hmY.cell 4 rfl; have m5 := hmY.cell 5 rfl; have f0 := hfY.cell 0 rfl; have f1 := hfY.cell 1 rfl; have f2 := hfY.cell 2 rfl; clear hX hY hm1 hbX hbY hmY hbWY hxs hBX hfY HSH HEM
 go_cut [4, 5, 6] (fun s4 s5 s6 wx => ∃ (z : Nat) (v2 : ImgV) (eA : Option Addr) (en ec : Nat) (ps : List (Int × Int)), s4 = .pointer (some ⟨z, 0, none⟩) ∧ s5 = .slice eA en ec ∧ s6 = .int .i64 0 ∧ Hid (EmVar Y wx z x (emIts d P) v2 eA en ec ps))
 case first =>
  refine wp_region_W (fun w' => w'.cell? ⟨BX, 0, none⟩ = some (.slice tA T tc) ∧ w'.cell? ⟨BX, 1, none⟩ = some (.slice fA NF fc) ∧ w'.cell? ⟨BX, 2, none⟩ = some (.slice bA nb bc) ∧ w'.cell? ⟨BX, 3, none⟩ = some (.slice dA nd dc) ∧ w'.cell? ⟨BX, 4, none⟩ = some (.slice lA nl lc) ∧ w'.cell? ⟨BX, 5, none⟩ = some (.int .i64 m.entry) ∧ w'.cell? ⟨BX + 1, 0, none⟩ = some (.slice xA NB xc) ∧ w'.cell? ⟨BX + 1, 1, none⟩ = some (.slice yA nt yc) ∧ w'.cell? ⟨BX + 1, 2, none⟩ = some (.slice zA nz zc)) 12 (by kernel_rfl) (by (try dsimp only); go_keep) (fun zH => ?_)
  have hbD : Below Y.heap.size Y Y.drew := (Below.refl _ _).drew; refine wq 0 zH ?_; refine wq 1 zH ?_; refine wpW_all [2, 8] (by kernel_rfl) (by simp) ?_; refine AllW.cons (i := 2) rfl (fun K hK => ?_) ?_
  · skip
    go_simp
    refine (HSHY.out Y.drew hbD).mono ?_; rintro e w2 ⟨hb2, pA, pc, lv, rfl, hlv, hpr, hpb⟩; rw [HPE.out] at hlv; have hpt := shf_parts hlv hpr hpb; rw [show lv.length = NP by rw [← HNP.out, ← hlv, List.length_map]]; clear hpr hpb hlv; have hbX2 : Below Y.heap.size Y w2 := hbD.trans (hb2.mono hbD.size); obtain ⟨y2_0, y2_1, y2_2, y2_3, y2_4, y2_5, y2_6, y2_7, y2_8⟩ := mf_keep hbX2 HMY.out HFY.out; refine hK.out _ _ (by (try dsimp only); go_keep) (fun zH => ?_); clear hK K; (try simp only [putE]); refine wpW_all [3, 8] (by kernel_rfl) (by simp) ?_
    refine AllW.cons (i := 3) rfl (fun K hK => ?_) ?_
    · skip
      go_simp
      have hpe := hpt; refine (HEMY.out w2 pA pc hbX2 hpe).mono ?_; rintro e w3 ⟨hb3, ⟨tA2, tc2, fA2, fc2, bA2, bc2, dA2, dc2, lA2, lc2⟩, eA, en, ec, ps, rfl, hown, hpl, hprs, hpk⟩; rw [HXE.out] at hown ⊢; unfold Img.val; simp only; have hbX3 : Below Y.heap.size Y w3 := hbX2.trans (hb3.mono hbX2.size); obtain ⟨y3_0, y3_1, y3_2, y3_3, y3_4, y3_5, y3_6, y3_7, y3_8⟩ := mf_keep hbX3 HMY.out HFY.out; refine hK.out _ _ (by (try dsimp only); go_keep) (fun zH => ?_); clear hK K; (try simp only [putE]); refine wq 4 zH ?_; refine wq 5 zH ?_
      refine wq 6 zH ?_; refine wq 7 zH ?_; refine wpW_one 8 rfl (by kernel_rfl) (fun K hK => ?_)
      go_simp
      have zb0 : Blk (w3.alloc (.cells #[.slice none 0 0, .slice none 0 0, .slice none 0 0, .slice none 0 0, .slice none 0 0, .int .i64 0] 42)) (w3.heap.size) 42 [.slice none 0 0, .slice none 0 0, .slice none 0 0, .slice none 0 0, .slice none 0 0, .int .i64 0] := Blk.new w3 _ _; have hbA : Below Y.heap.size Y (w3.alloc (.cells #[.slice none 0 0, .slice none 0 0, .slice none 0 0, .slice none 0 0, .slice none 0 0, .int .i64 0] 42)) := hbX3.alloc (hbX3.size) _; have hneA0 : ¬ w3.heap.size = BX := by have h1 := hbX3.size; have h2 := HMY.out.lt; omega
      have hneA1 : ¬ w3.heap.size = BX + 1 := by have h1 := hbX3.size; have h2 := HFY.out.lt; omega
      refine hK.out _ _ (by (try dsimp only); go_keep) (fun zH => ?_); clear hK K; (try simp only [putE]); refine wpW_one 9 rfl (by kernel_rfl) (fun K hK => ?_)
      go_simp
      refine hK.out _ _ (by (try dsimp only); go_keep) (fun zH => ?_); clear hK K; (try simp only [putE]); refine wq 10 zH ?_; refine wq 11 zH ?_; refine wpW_done (by kernel_rfl) ?_ _; have hev := emVar_new (v := ⟨tA2, tc2, fA2, fc2, bA2, bc2, dA2, dc2, lA2, lc2⟩) hbX3 hown hpl hprs hpk
      dsimp only at hev
      go_wp2
      go_meet
      exact ⟨_, ⟨tA2, tc2, fA2, fc2, bA2, bc2, dA2, dc2, lA2, lc2⟩, eA, en, ec, ps, rfl, rfl, rfl, hd' hev⟩
    refine AllW.cons (i := 8) rfl (fun K hK => ?_) AllW.nil
    go_simp
    have zb0 : Blk (w2.alloc (.cells #[.slice none 0 0, .slice none 0 0, .slice none 0 0, .slice none 0 0, .slice none 0 0, .int .i64 0] 42)) (w2.heap.size) 42 [.slice none 0 0, .slice none 0 0, .slice none 0 0, .slice none 0 0, .slice none 0 0, .int .i64 0] := Blk.new w2 _ _; have hbA : Below Y.heap.size Y (w2.alloc (.cells #[.slice none 0 0, .slice none 0 0, .slice none 0 0, .slice none 0 0, .slice none 0 0, .int .i64 0] 42)) := hbX2.alloc (hbX2.size) _; have hneA0 : ¬ w2.heap.size = BX := by have h1 := hbX2.size; have h2 := HMY.out.lt; omega
    have hneA1 : ¬ w2.heap.size = BX + 1 := by have h1 := hbX2.size; have h2 := HFY.out.lt; omega
    refine hK.out _ _ (by (try dsimp only); go_keep) (fun zH => ?_); clear hK K; (try simp only [putE]); refine wpW_one 3 rfl (by kernel_rfl) (fun K hK => ?_)
    go_simp
    have hpe : PartsRd (w2.alloc (.cells #[.slice none 0 0, .slice none 0 0, .slice none 0 0, .slice none 0 0, .slice none 0 0, .int .i64 0] 42)) pA pc P := hpt.below ((Below.refl w2.heap.size w2).alloc lr' _); refine (HEMY.out (w2.alloc (.cells #[.slice none 0 0, .slice none 0 0, .slice none 0 0, .slice none 0 0, .slice none 0 0, .int .i64 0] 42)) pA pc hbA hpe).mono ?_; rintro e w3 ⟨hb3, ⟨tA2, tc2, fA2, fc2, bA2, bc2, dA2, dc2, lA2, lc2⟩, eA, en, ec, ps, rfl, hown, hpl, hprs, hpk⟩; rw [HXE.out] at hown ⊢; unfold Img.val; simp only
    have hbX3 : Below Y.heap.size Y w3 := hbA.trans (hb3.mono hbA.size); obtain ⟨y3_0, y3_1, y3_2, y3_3, y3_4, y3_5, y3_6, y3_7, y3_8⟩ := mf_keep hbX3 HMY.out HFY.out; have zb4 := zb0.keep hb3; have zc3_0 := zb4.cell 0 rfl; have zf3_0 := zb4.free 0; have zc3_1 := zb4.cell 1 rfl; have zf3_1 := zb4.free 1; have zc3_2 := zb4.cell 2 rfl; have zf3_2 := zb4.free 2; have zc3_3 := zb4.cell 3 rfl; have zf3_3 := zb4.free 3; have zc3_4 := zb4.cell 4 rfl; have zf3_4 := zb4.free 4; have zc3_5 := zb4.cell 5 rfl; have zf3_5 := zb4.free 5; have zl3 := zb4.lt
    refine hK.out _ _ (by (try dsimp only); go_keep) (fun zH => ?_); clear hK K; (try simp only [putE]); refine wq 4 zH ?_; refine wq 5 zH ?_; refine wq 6 zH ?_; refine wq 7 zH ?_; refine wpW_one 9 rfl (by kernel_rfl) (fun K hK => ?_)
    go_simp
    refine hK.out _ _ (by (try dsimp only); go_keep) (fun zH => ?_); clear hK K; (try simp only [putE]); refine wq 10 zH ?_; refine wq 11 zH ?_; refine wpW_done (by kernel_rfl) ?_ _; have hev := emVar_old (v := ⟨tA2, tc2, fA2, fc2, bA2, bc2, dA2, dc2, lA2, lc2⟩) zb4 hbX3 hbX2.size zb0.lt hown hpl hprs hpk
    dsimp only at hev
    go_wp2
    go_meet
    exact ⟨_, ⟨tA2, tc2, fA2, fc2, bA2, bc2, dA2, dc2, lA2, lc2⟩, eA, en, ec, ps, rfl, rfl, rfl, hd' hev⟩
  refine AllW.cons (i := 8) rfl (fun K hK => ?_) AllW.nil
  go_simp
  have zb0 : Blk (Y.alloc (.cells #[.slice none 0 0, .slice none 0 0, .slice none 0 0, .slice none 0 0, .slice none 0 0, .int .i64 0] 42)).drew (Y.heap.size) 42 [.slice none 0 0, .slice none 0 0, .slice none 0 0, .slice none 0 0, .slice none 0 0, .int .i64 0] := Blk.drew (Blk.new Y _ _); have hbA : Below Y.heap.size Y (Y.alloc (.cells #[.slice none 0 0, .slice none 0 0, .slice none 0 0, .slice none 0 0, .slice none 0 0, .int .i64 0] 42)).drew := ((Below.refl _ _).alloc lr' _).drew
  have hneA0 : ¬ Y.heap.size = BX := by have h1 := hbD.size; have h2 := HMY.out.lt; omega
  have hneA1 : ¬ Y.heap.size = BX + 1 := by have h1 := hbD.size; have h2 := HFY.out.lt; omega
  refine hK.out _ _ (by (try dsimp only); go_keep) (fun zH => ?_); clear hK K; (try simp only [putE]); refine wpW_one 2 rfl (by kernel_rfl) (fun K hK => ?_)
  go_simp
  refine (HSHY.out (Y.alloc (.cells #[.slice none 0 0, .slice none 0 0, .slice none 0 0, .slice none 0 0, .slice none 0 0, .int .i64 0] 42)).drew hbA).mono ?_; rintro e w2 ⟨hb2, pA, pc, lv, rfl, hlv, hpr, hpb⟩; rw [HPE.out] at hlv; have hpt := shf_parts hlv hpr hpb; rw [show lv.length = NP by rw [← HNP.out, ← hlv, List.length_map]]; clear hpr hpb hlv; have hbX2 : Below Y.heap.size Y w2 := hbA.trans (hb2.mono hbA.size); obtain ⟨y2_0, y2_1, y2_2, y2_3, y2_4, y2_5, y2_6, y2_7, y2_8⟩ := mf_keep hbX2 HMY.out HFY.out; have zb3 := zb0.keep hb2; have zc2_0 := zb3.cell 0 rfl
  have zf2_0 := zb3.free 0; have zc2_1 := zb3.cell 1 rfl; have zf2_1 := zb3.free 1; have zc2_2 := zb3.cell 2 rfl; have zf2_2 := zb3.free 2; have zc2_3 := zb3.cell 3 rfl; have zf2_3 := zb3.free 3; have zc2_4 := zb3.cell 4 rfl; have zf2_4 := zb3.free 4; have zc2_5 := zb3.cell 5 rfl; have zf2_5 := zb3.free 5; have zl2 := zb3.lt; refine hK.out _ _ (by (try dsimp only); go_keep) (fun zH => ?_); clear hK K; (try simp only [putE]); refine wpW_one 3 rfl (by kernel_rfl) (fun K hK => ?_)
  go_simp
  have hpe := hpt; refine (HEMY.out w2 pA pc hbX2 hpe).mono ?_; rintro e w3 ⟨hb3, ⟨tA2, tc2, fA2, fc2, bA2, bc2, dA2, dc2, lA2, lc2⟩, eA, en, ec, ps, rfl, hown, hpl, hprs, hpk⟩; rw [HXE.out] at hown ⊢; unfold Img.val; simp only; have hbX3 : Below Y.heap.size Y w3 := hbX2.trans (hb3.mono hbX2.size); obtain ⟨y3_0, y3_1, y3_2, y3_3, y3_4, y3_5, y3_6, y3_7, y3_8⟩ := mf_keep hbX3 HMY.out HFY.out; have zb4 := zb3.keep hb3; have zc3_0 := zb4.cell 0 rfl; have zf3_0 := zb4.free 0; have zc3_1 := zb4.cell 1 rfl; have zf3_1 := zb4.free 1; have zc3_2 := zb4.cell 2 rfl; have zf3_2 := zb4.free 2
  have zc3_3 := zb4.cell 3 rfl; have zf3_3 := zb4.free 3; have zc3_4 := zb4.cell 4 rfl; have zf3_4 := zb4.free 4; have zc3_5 := zb4.cell 5 rfl; have zf3_5 := zb4.free 5; have zl3 := zb4.lt; refine hK.out _ _ (by (try dsimp only); go_keep) (fun zH => ?_); clear hK K; (try simp only [putE]); refine wq 4 zH ?_; refine wq 5 zH ?_; refine wq 6 zH ?_; refine wq 7 zH ?_; refine wpW_one 9 rfl (by kernel_rfl) (fun K hK => ?_)
  go_simp
  refine hK.out _ _ (by (try dsimp only); go_keep) (fun zH => ?_); clear hK K; (try simp only [putE]); refine wq 10 zH ?_; refine wq 11 zH ?_; refine wpW_done (by kernel_rfl) ?_ _; have hev := emVar_old (v := ⟨tA2, tc2, fA2, fc2, bA2, bc2, dA2, dc2, lA2, lc2⟩) zb4 hbX3 lr' zb3.lt hown hpl hprs hpk
  dsimp only at hev
  go_wp2
  go_meet
  exact ⟨_, ⟨tA2, tc2, fA2, fc2, bA2, bc2, dA2, dc2, lA2, lc2⟩, eA, en, ec, ps, rfl, rfl, rfl, hd' hev⟩
 case rest =>
  obtain ⟨z, v2, eA, en, ec, ps, rfl, rfl, rfl, HEV⟩ := hcut; obtain ⟨tA2, tc2, fA2, fc2, bA2, bc2, dA2, dc2, lA2, lc2⟩ := v2
  rename World => wx
  have x0 := HEV.out.blk.cell 0 rfl; have xl := HEV.out.blk.lt; obtain ⟨T2, hT2⟩ := ex' x.text.length
  simp only [hT2] at x0; rw [hT2] at htx; have htI : (0 : Int) < (T2 : Int) := by omega
  have qT : decide ((0 : Int) < (T2 : Int)) = true := decide_eq_true htI; have HBE := hd' (HB1.out.trans ((HWY.out.trans (HEV.out.bel.mono HWY.out.size)).mono HB1.out.size))
  go_wp2_with fail
  go_ret
  exact ⟨by simp, HBE.out⟩
 --@ENDTELLS
end Go.Proofs.YtcafhoobeggmeaaDoor
