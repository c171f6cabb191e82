/- boltholekeep's flowed and FlowTells, walked. -/
import Derived.Test.YtcdlgjhdbmmomaaGreatDoorLawS
import Derived.Test.YtcdlgjhdbmmomaaGreatDoorPgmG
import Derived.Test.YtcdlgjhdbmmomaaGreatDoorFlowU
import Derived.Test.YtcdlgjhdbmmomaaGreatDoorRegX
import Derived.Test.YtcdlgjhdbmmomaaGreatDoorRcvZ
import Derived.Deep.DeepCutAuto
import Derived.Deep.CutBlock
import Derived.Deep.LoopGhost
import Derived.Deep.QuietTactic
import Derived.BigQuiet
import Derived.IntWalk
import Derived.WalkLawsBesides
namespace Go.Proofs.YtcdlgjhdbmmomaaGreatDoor
open Go.RowKit Go.Deep
structure FlwSt (w : World) (l : List RawI) (m : Img) (v : ImgV) (d : FlowD) (xA yA zA : Option Addr) (xc yc zc : Nat) : Prop where
 img : ImgRd w w.heap.size m v
 ok : ImgOk m v
 pgm : IsPgm l m
 rc : recL m = some d
 flow : FlowRd w xA xc yA yc zA zc d
theorem FlwSt.below {w w' : World} {l : List RawI} {m : Img} {v : ImgV} {d : FlowD} {xA yA zA : Option Addr} {xc yc zc : Nat} (h : FlwSt w l m v d xA yA zA xc yc zc) (hb : Below w.heap.size w w') : FlwSt w' l m v d xA yA zA xc yc zc :=
 ⟨(h.img.below hb).more hb.size, h.ok, h.pgm, h.rc, h.flow.below hb⟩
def flowV (d : FlowD) (xA yA zA : Option Addr) (xc yc zc : Nat) : Array Value := #[.slice xA d.blocks.length xc, .slice yA d.tables.length yc, .slice zA d.firsts.length zc]
def FlwPost (w : World) (l : List RawI) (e : Ending) (w' : World) : Prop :=
 Below w.heap.size w w' ∧ ∃ (m : Img) (v : ImgV) (d : FlowD) (xA yA zA : Option Addr) (xc yc zc : Nat), e = .returned (.tuple #[.agg (m.val v), .agg (flowV d xA yA zA xc yc zc), .bool true]) ∧ FlwSt w' l m v d xA yA zA xc yc zc
theorem insR_at {L : List Ins} {j : Nat} {i : Ins} (h : L[j]? = some i) (q : Nat) (u : Value) (hu : (insC i)[q]? = some u) : (insR L)[j * 6 + q]? = some u :=
 flat_at insC 6 (fun _ => rfl) L j i h q u (by have h1 := (List.getElem?_eq_some_iff.1 hu).1; simpa [insC] using h1) hu
def InsVar (X wx : World) (b : Nat) (i : Ins) : Prop := Blk wx b 52 [.int .i64 i.k, .int .i64 i.d, .int .i64 i.a, .int .i64 i.b, .int .i64 i.n, .bool i.l] ∧ Below X.heap.size X wx ∧ X.heap.size ≤ b
theorem insVar_old {X w : World} {b : Nat} {k d a e n : Int} {l : Bool} {z0 z1 z2 z3 z4 z5 : Value} (zb : Blk w b 52 [z0, z1, z2, z3, z4, z5]) (hb : Below X.heap.size X w) (hge : X.heap.size ≤ b) :
 InsVar X ((((((w.setCell ⟨b, 0, none⟩ (.int .i64 k)).setCell ⟨b, 1, none⟩ (.int .i64 d)).setCell ⟨b, 2, none⟩ (.int .i64 a)).setCell ⟨b, 3, none⟩ (.int .i64 e)).setCell ⟨b, 4, none⟩ (.int .i64 n)).setCell ⟨b, 5, none⟩ (.bool l)) b ⟨k, d, a, e, n, l⟩ := by
 have g := gb_setCell (gb_setCell (gb_setCell (gb_setCell (gb_setCell (gb_setCell (gb_refl w (some b)) 0 (.int .i64 k)) 1 (.int .i64 d)) 2 (.int .i64 a)) 3 (.int .i64 e)) 4 (.int .i64 n)) 5 (.bool l); exact ⟨(((((zb.set 0 _).set 1 _).set 2 _).set 3 _).set 4 _).set 5 _, hb.trans (gb_to_below g hge hb.size), hge⟩
theorem insVar_new {X w : World} {k d a e n : Int} {l : Bool} (hb : Below X.heap.size X w) :
 InsVar X (w.alloc (.cells #[.int .i64 k, .int .i64 d, .int .i64 a, .int .i64 e, .int .i64 n, .bool l] 52)) w.heap.size ⟨k, d, a, e, n, l⟩ :=
 ⟨Blk.new _ _ _, hb.alloc hb.size _, hb.size⟩
theorem IsPgm.fnz {l : List RawI} {m : Img} (h : IsPgm l m) : 1 ≤ m.funcs.length ∧ m.funcs.length ≤ 3 := by
 obtain ⟨bs', h1, _, h3, rfl⟩ := h; have := h1.nf; show 1 ≤ (fnL bs' _).length ∧ (fnL bs' _).length ≤ 3; simp only [fnL, List.length_map, List.length_range]; omega
--@FLOWED
set_option maxHeartbeats 4000000 in
set_option maxRecDepth 100000 in
theorem flowed_any (l : List RawI) (A : Option Addr) (c : Nat) (w : World) (hT : Tabs w) (hR : RdR w w.heap.size A l) (hc : l.length ≤ c) (hl : l.length ≤ 140737488355328) :
 Calls Tryz.prog 13 #[.slice A l.length c] w (FlwPost w l) := by
 have HPG : Hid (∀ W, Below w.heap.size w W → Calls Tryz.prog 34 #[.slice A l.length c] W (ProgPost W l)) := hd' fun W hW => program_any l A c W (hT.below hW) ((hR.below hW).more hW.size) hc hl
 have HT := hd' hT; have HPO : Hid (∀ e w' m v d xA yA zA xc yc zc, e = .returned (.tuple #[.agg (Img.val m v), .agg (flowV d xA yA zA xc yc zc), .bool true]) → Below w.heap.size w w' → FlwSt w' l m v d xA yA zA xc yc zc → FlwPost w l e w') := hd' fun e w' m v d xA yA zA xc yc zc h1 h2 h3 => ⟨h2, m, v, d, xA, yA, zA, xc, yc, zc, h1, h3⟩
 obtain ⟨ll, hll⟩ := ex' l.length
 rw [hll] at HPG ⊢; clear hT hR hl hc hll
 go_enter Tryz.func13, Tryz.ntmps13
 go_upto_region 1 with fail
 obtain ⟨W0, hW0⟩ := ex' ((w.alloc (.cells #[.slice none 0 0, .slice none 0 0, .slice none 0 0, .slice none 0 0, .slice none 0 0, .int .i64 0] 30)).alloc (.cells #[.slice none 0 0, .slice none 0 0, .slice none 0 0] 33))
 rw [hW0]; have r1 : Blk W0 w.heap.size 30 [.slice none 0 0, .slice none 0 0, .slice none 0 0, .slice none 0 0, .slice none 0 0, .int .i64 0] := by rw [← hW0]; exact Blk.alloc (Blk.new w _ _) _
 have r2 : Blk W0 (w.heap.size + 1) 33 [.slice none 0 0, .slice none 0 0, .slice none 0 0] := by rw [← hW0]; exact Blk.new2 w _ _ _
 have hbW0 : Below w.heap.size w W0 := by rw [← hW0]; exact ((Below.refl _ _).alloc lr' _).alloc (by simp) _
 have hsz : W0.heap.size = w.heap.size + 2 := by rw [← hW0]; simp
 have HR1 := hd' r1; have HR2 := hd' r2; have HBW := hd' hbW0; have HSZ := hd' hsz; clear hW0 r1 r2 hbW0 hsz
 go_wp2_with fail
 refine (HPG.out _ HBW.out).mono ?_; rintro e w1 ⟨hb1, v, m, rfl, hown, hok, hpg⟩; have hre := hpg.recE; obtain ⟨d, hd⟩ := hpg.rec; have HB1 := hd' hb1; have HOWN := hd' hown; have HRD := hd' hown.rd; have HOK := hd' hok; have HRE := hd' hre; have HD := hd' hd; have HPGM := hd' hpg; have HT1 := hd' (HT.out.below (HBW.out.trans (hb1.mono HBW.out.size))); obtain ⟨tA, tc, fA, fc, bA, bc, dA, dc, lA, lc⟩ := v
 have HREC : Hid (∀ W, Below w1.heap.size w1 W → Calls Tryz.prog 35 #[.agg (m.val ⟨tA, tc, fA, fc, bA, bc, dA, dc, lA, lc⟩)] W (GoodPost W d)) := hd' fun W hW => by
  have h := rec_any m ⟨tA, tc, fA, fc, bA, bc, dA, dc, lA, lc⟩ W (HT1.out.below hW) ((HRD.out.below hW).more hW.size) HOK.out; rw [HRE.out] at h; exact h.mono fun e w' hp => hp.2 d rfl HD.out
 have HPO2 : Hid (∀ e w' xA yA zA xc yc zc, e = .returned (.tuple #[.agg (Img.val m ⟨tA, tc, fA, fc, bA, bc, dA, dc, lA, lc⟩), .agg (flowV d xA yA zA xc yc zc), .bool true]) → Below w.heap.size w w' → ImgRd w' w'.heap.size m ⟨tA, tc, fA, fc, bA, bc, dA, dc, lA, lc⟩ → FlowRd w' xA xc yA yc zA zc d → FlwPost w l e w') := hd' fun e w' xA yA zA xc yc zc h1 h2 h3 h4 => HPO.out e w' m _ d xA yA zA xc yc zc h1 h2 ⟨h3, HOK.out, HPGM.out, HD.out, h4⟩
 have r1 := HR1.out.keep hb1; have r2 := HR2.out.keep hb1; have HR1 := hd' r1; have HR2 := hd' r2; clear hb1 hown hok hpg hre hd HPG HPO r1 r2; unfold flowV at HPO2; unfold Img.val at HREC HPO2 ⊢; simp only at HREC HPO2 ⊢; obtain ⟨T, hTe⟩ := ex' m.text.length
 obtain ⟨NF, hNF⟩ := ex' m.funcs.length
 obtain ⟨nb, hnb⟩ := ex' m.tables.length
 obtain ⟨nd, hnd⟩ := ex' m.data.length
 obtain ⟨nl, hnl⟩ := ex' m.lines.length
 rw [hTe, hNF, hnb, hnd, hnl] at HREC HPO2; rw [hTe, hNF, hnb, hnd, hnl]; clear hTe hNF hnb hnd hnl
 go_upto_region 2 with fail
 obtain ⟨X, hX⟩ := ex' (w1.alloc (.cells #[.slice tA T tc, .slice fA NF fc, .slice bA nb bc, .slice dA nd dc, .slice lA nl lc, .int .i64 m.entry] 30))
 rw [hX]; have hm1 : Blk X w1.heap.size 30 [.slice tA T tc, .slice fA NF fc, .slice bA nb bc, .slice dA nd dc, .slice lA nl lc, .int .i64 m.entry] := by rw [← hX]; exact Blk.new w1 _ _
 have hbX : Below w1.heap.size w1 X := by rw [← hX]; exact (Below.refl _ _).alloc lr' _
 have HM := hd' hm1; have HBX := hd' hbX; have m0 := hm1.cell 0 rfl; have m1 := hm1.cell 1 rfl; have m2 := hm1.cell 2 rfl; have m3 := hm1.cell 3 rfl; have m4 := hm1.cell 4 rfl; have m5 := hm1.cell 5 rfl; have ml := hm1.lt; clear hX hm1 hbX
 go_wp2_with fail
 refine (HREC.out _ HBX.out).mono ?_; rintro e w2 ⟨xA, xc, yA, yc, zA, zc, rfl, hb2, hfl⟩; obtain ⟨NB, hNB⟩ := ex' d.blocks.length
 obtain ⟨nt, hnt⟩ := ex' d.tables.length
 obtain ⟨nz, hnz⟩ := ex' d.firsts.length
 rw [hNB, hnt, hnz] at HPO2 ⊢; have hbw := HBX.out.trans (hb2.mono HBX.out.size); have hm2 := HM.out.keep hb2; have r1 := HR1.out.keep hbw; have r2 := HR2.out.keep hbw; have HB2 := hd' hbw; have HFL := hd' hfl; have HM2 := hd' hm2; have HR1 := hd' r1; have HR2 := hd' r2; clear hb2 hfl hm2 hbw HREC HM HBX m0 m1 m2 m3 m4 m5 ml hNB hnt hnz r1 r2
 go_upto_region 3 with fail
 obtain ⟨Y, hY⟩ := ex' (w2.alloc (.cells #[.slice xA NB xc, .slice yA nt yc, .slice zA nz zc] 33))
 rw [hY]; have hy1 : Blk Y w2.heap.size 33 [.slice xA NB xc, .slice yA nt yc, .slice zA nz zc] := by rw [← hY]; exact Blk.new w2 _ _
 have hbY : Below w2.heap.size w2 Y := by rw [← hY]; exact (Below.refl _ _).alloc lr' _
 have hbWY := HB2.out.trans (hbY.mono HB2.out.size); have hmY := HM2.out.keep hbY; have r1 := HR1.out.keep hbY; have r2 := HR2.out.keep hbY; have y0 := hy1.cell 0 rfl; have y1 := hy1.cell 1 rfl; have y2 := hy1.cell 2 rfl; have m0 := hmY.cell 0 rfl; have m1 := hmY.cell 1 rfl; have m2 := hmY.cell 2 rfl; have m3 := hmY.cell 3 rfl; have m4 := hmY.cell 4 rfl; have m5 := hmY.cell 5 rfl; have p0 := r1.cell 0 rfl; have p1 := r1.cell 1 rfl; have p2 := r1.cell 2 rfl; have p3 := r1.cell 3 rfl; have p4 := r1.cell 4 rfl; have p5 := r1.cell 5 rfl; have pf0 := r1.free 0; have pf1 := r1.free 1
 have pf2 := r1.free 2; have pf3 := r1.free 3; have pf4 := r1.free 4; have pf5 := r1.free 5; have q0 := r2.cell 0 rfl; have q1 := r2.cell 1 rfl; have q2 := r2.cell 2 rfl; have qf0 := r2.free 0; have qf1 := r2.free 1; have qf2 := r2.free 2; have hlt1 := r1.lt; have hlt2 := r2.lt; have HIY := hd' (HOWN.out.keep hbWY); have HFY := hd' (HFL.out.below hbY); have HBY := hd' (HBW.out.trans ((HB1.out.trans (hbWY.mono HB1.out.size)).mono HBW.out.size)); have HR1 := hd' r1; have HR2 := hd' r2; have hsz0 := HSZ.out; have hsz1 := HB1.out.size; have hsz2 := HB2.out.size
 have hn1 : ¬ w.heap.size = w1.heap.size := by omega
 have hn2 : ¬ w.heap.size = w2.heap.size := by omega
 have hn3 : ¬ w.heap.size + 1 = w1.heap.size := by omega
 have hn4 : ¬ w.heap.size + 1 = w2.heap.size := by omega
 clear hsz0 hsz1 hsz2; clear hY hy1 hbY hbWY hmY r1 r2 HFL HM2 HB2
 refine wp_region_W (fun w' => w'.cell? ⟨w1.heap.size, 0, none⟩ = some (.slice tA T tc) ∧ w'.cell? ⟨w1.heap.size, 1, none⟩ = some (.slice fA NF fc) ∧ w'.cell? ⟨w1.heap.size, 2, none⟩ = some (.slice bA nb bc) ∧ w'.cell? ⟨w1.heap.size, 3, none⟩ = some (.slice dA nd dc) ∧ w'.cell? ⟨w1.heap.size, 4, none⟩ = some (.slice lA nl lc) ∧ w'.cell? ⟨w1.heap.size, 5, none⟩ = some (.int .i64 m.entry) ∧ w'.cell? ⟨w2.heap.size, 0, none⟩ = some (.slice xA NB xc) ∧ w'.cell? ⟨w2.heap.size, 1, none⟩ = some (.slice yA nt yc) ∧ w'.cell? ⟨w2.heap.size, 2, none⟩ = some (.slice zA nz zc)) 6 (by kernel_rfl) (by (try dsimp only); go_keep) (fun zH => ?_)
 refine wq 0 zH ?_; refine wq 1 zH ?_; refine wq 2 zH ?_; refine wq 3 zH ?_; refine wpW_one 4 rfl (by kernel_rfl) (fun K hK => ?_)
 go_simp
 refine hK.out _ _ (by (try dsimp only); go_keep) (fun zH => ?_); clear hK K; (try simp only [putE]); refine wpW_one 5 rfl (by kernel_rfl) (fun K hK => ?_)
 go_simp
 refine hK.out _ _ (by (try dsimp only); go_keep) (fun zH => ?_); clear hK K; (try simp only [putE]); refine wq 6 zH ?_; refine wpW_done (by kernel_rfl) ?_ _; clear y0 y1 y2 m0 m1 m2 m3 m4 m5 p0 p1 p2 p3 p4 p5 pf0 pf1 pf2 pf3 pf4 pf5 q0 q1 q2 qf0 qf1 qf2
 go_wp2
 have g1 := gb_setCell (gb_setCell (gb_setCell (gb_setCell (gb_setCell (gb_setCell (gb_refl Y (some w.heap.size)) 0 (.slice tA T tc)) 1 (.slice fA NF fc)) 2 (.slice bA nb bc)) 3 (.slice dA nd dc)) 4 (.slice lA nl lc)) 5 (.int .i64 m.entry); have b1 : Blk _ w.heap.size 30 [.slice tA T tc, .slice fA NF fc, .slice bA nb bc, .slice dA nd dc, .slice lA nl lc, .int .i64 m.entry] := ((((((HR1.out.set 0 (.slice tA T tc)).set 1 (.slice fA NF fc)).set 2 (.slice bA nb bc)).set 3 (.slice dA nd dc)).set 4 (.slice lA nl lc)).set 5 (.int .i64 m.entry))
 obtain ⟨V1, hV1⟩ := ex' ((((((Y.setCell ⟨w.heap.size, 0, none⟩ (.slice tA T tc)).setCell ⟨w.heap.size, 1, none⟩ (.slice fA NF fc)).setCell ⟨w.heap.size, 2, none⟩ (.slice bA nb bc)).setCell ⟨w.heap.size, 3, none⟩ (.slice dA nd dc)).setCell ⟨w.heap.size, 4, none⟩ (.slice lA nl lc)).setCell ⟨w.heap.size, 5, none⟩ (.int .i64 m.entry))
 rw [hV1] at g1 b1 ⊢; have c2 : Blk V1 (w.heap.size + 1) 33 [.slice none 0 0, .slice none 0 0, .slice none 0 0] := HR2.out.gb g1 (fun e => by injection e with e; omega); have hI1 := HIY.out.gb g1 (by have := HSZ.out; omega); have hF1 : FlowRd V1 xA xc yA yc zA zc d := HFY.out.keepT g1 (fun q e => by injection e with e; subst e; exact HR1.out.typ) (by decide); have hB1 := HBY.out.trans (gb_to_below g1 lr' HBY.out.size); have g2 := gb_setCell (gb_setCell (gb_setCell (gb_refl V1 (some (w.heap.size + 1))) 0 (.slice xA NB xc)) 1 (.slice yA nt yc)) 2 (.slice zA nz zc)
 have b2 : Blk _ (w.heap.size + 1) 33 [.slice xA NB xc, .slice yA nt yc, .slice zA nz zc] := (((c2.set 0 (.slice xA NB xc)).set 1 (.slice yA nt yc)).set 2 (.slice zA nz zc))
 obtain ⟨V2, hV2⟩ := ex' (((V1.setCell ⟨w.heap.size + 1, 0, none⟩ (.slice xA NB xc)).setCell ⟨w.heap.size + 1, 1, none⟩ (.slice yA nt yc)).setCell ⟨w.heap.size + 1, 2, none⟩ (.slice zA nz zc))
 rw [hV2] at g2 b2 ⊢; have b12 := b1.gb g2 (fun e => by injection e with e; omega); have hI2 := hI1.gb g2 (by have := HSZ.out; omega); have hF2 : FlowRd V2 xA xc yA yc zA zc d := hF1.keepT g2 (fun q e => by injection e with e; subst e; exact c2.typ) (by decide); have hB2 := hB1.trans (gb_to_below g2 (by omega) hB1.size); have v0 := b12.cell 0 rfl; have v1 := b12.cell 1 rfl; have v2 := b12.cell 2 rfl; have v3 := b12.cell 3 rfl; have v4 := b12.cell 4 rfl; have v5 := b12.cell 5 rfl; have x0 := b2.cell 0 rfl; have x1 := b2.cell 1 rfl; have x2 := b2.cell 2 rfl; have HB2 := hd' hB2
 have HI2 := hd' hI2.rd; have HF2 := hd' hF2; clear hV1 hV2 g1 g2 b1 b2 c2 hI1 hF1 hB1 b12 hI2 hF2 hB2; refine bodyPost_ret (v := .tuple #[.agg #[.slice tA T tc, .slice fA NF fc, .slice bA nb bc, .slice dA nd dc, .slice lA nl lc, .int .i64 m.entry], .agg #[.slice xA NB xc, .slice yA nt yc, .slice zA nz zc], .bool true]) (by simp [results, Tryz.results13, go_sem, v0, v1, v2, v3, v4, v5, x0, x1, x2]) rfl ?_
 exact HPO2.out _ _ xA yA zA xc yc zc rfl HB2.out.drew ((HI2.out.below (Below.refl V2.heap.size V2).drew).more lr') (HF2.out.below (Below.refl V2.heap.size V2).drew)
--@END
set_option maxHeartbeats 4000000 in
set_option maxRecDepth 100000 in
theorem flowTells_any (w : World) (hT : Tabs w) : Calls Tryz.prog 33 #[] w fun e w' => e = .returned (.bool true) ∧ Below w.heap.size w w' := by
 have HPG := hd' (program_nil w hT); have HT := hd' hT; clear hT
 go_enter Tryz.func33, Tryz.ntmps33
 go_wp2_with fail
 refine HPG.out.mono ?_; rintro e w1 ⟨hb1, v, m, rfl, hown, hok, hpg⟩; have hre := hpg.recE; obtain ⟨ld, bm, S, gs, d, hd, hF⟩ := hpg.flow; have hfn := hpg.fnz; have hff := hF.firsts.1; have HB1 := hd' hb1; have HRD := hd' hown.rd; have HOK := hd' hok; have HRE := hd' hre; have HD := hd' hd; obtain ⟨tA, tc, fA, fc, bA, bc, dA, dc, lA, lc⟩ := v
 have HREC : Hid (∀ W, Below w1.heap.size w1 W → Calls Tryz.prog 35 #[.agg (m.val ⟨tA, tc, fA, fc, bA, bc, dA, dc, lA, lc⟩)] W (GoodPost W d)) := hd' fun W hW => by
  have h := rec_any m ⟨tA, tc, fA, fc, bA, bc, dA, dc, lA, lc⟩ W (HT.out.below (HB1.out.trans (hW.mono HB1.out.size))) ((HRD.out.below hW).more hW.size) HOK.out; rw [HRE.out] at h; exact h.mono fun e w' hp => hp.2 d rfl HD.out
 clear hb1 hown hok hpg hre hd HPG; obtain ⟨NF, hNF⟩ := ex' d.firsts.length
 have hNFI : (0 : Int) < (NF : Int) := by omega
 have hNFN : 0 < NF := by omega
 rw [hNF] at hff
 go_wp2_with fail
 refine (HREC.out _ ((Below.refl _ _))).mono ?_; rintro e w2 ⟨xA, xc, yA, yc, zA, zc, rfl, hb2, hfl⟩; rw [hNF]; have HB2 := hd' (HB1.out.trans (hb2.mono HB1.out.size)); clear hb2 hfl HREC hff hfn hF hNF
 go_wp2_with fail
 go_ret
 exact ⟨rfl, HB2.out.alloc HB2.out.size _⟩
end Go.Proofs.YtcdlgjhdbmmomaaGreatDoor
