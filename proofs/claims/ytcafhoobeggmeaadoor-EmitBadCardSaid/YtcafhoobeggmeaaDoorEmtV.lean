/- Emit refuses an order that is none. -/
import Derived.Test.YtcafhoobeggmeaaDoorEmW
import Derived.Test.YtcafhoobeggmeaaDoorEmtX
import Derived.Test.YtcafhoobeggmeaaDoorEmtY
import Derived.Test.YtcafhoobeggmeaaDoorEmtB
import Derived.Test.YtcafhoobeggmeaaDoorEmtF
import Derived.Test.YtcafhoobeggmeaaDoorEmtI
import Derived.Test.YtcafhoobeggmeaaDoorFlowU
namespace Go.Proofs.YtcafhoobeggmeaaDoor
open Go.RowKit Go.Deep
set_option maxHeartbeats 16000000 in
set_option maxRecDepth 100000 in
theorem emit_bad (m : Img) (v : ImgV) (d : FlowD) (l : List PartD) (A : Option Addr) (c : Nat) (w : World) (hT : Tabs w) (hR : ImgRd w w.heap.size m v) (hok : ImgOk m v) (hre : recE m = 0) (hrc : recL m = some d) (hP : PartsRd w A c l) (hll : l.length ≤ 10000) (hlb : ∀ p ∈ l, p.bs.length ≤ 10000) (ho : ordOk d l = false) :
 Calls Tryd.prog 15 #[.agg (m.val v), .slice A l.length c] w (EmBad w) := by
 have hce := recE_text hre; obtain ⟨ld, bm, S, gs, hF, hFN, hTF⟩ := gen_flow3 hce.1 hrc; have hct := check_tile hce.1; have HOK2 := hd' ho; have HPO : Hid (∀ e w', e = .returned (.tuple #[.agg #[.slice none 0 0, .slice none 0 0, .slice none 0 0, .slice none 0 0, .slice none 0 0, .int .i64 0], .slice none 0 0, .int .i64 8]) → Below w.heap.size w w' → EmBad w e w') := hd' fun e w' h1 h2 => ⟨h2, h1⟩

 have HF := hd' hF; have HFN := hd' hFN; have HO := hd' ho; have hfew := hF.few; have hf1 := hF.firsts.1; have HCT := hd' hct; have HTX := hd' hce.2; have HOK := hd' hok; have HT := hd' hT; have HR := hd' hR; have HP := hd' hP; have HLB := hd' hlb; obtain ⟨tA, tc, fA, fc, bA, bc, dA, dc, lA, lc⟩ := v
 have HREC : Hid (∀ W, Below w.heap.size w W → Calls Tryd.prog 28 #[.agg (m.val ⟨tA, tc, fA, fc, bA, bc, dA, dc, lA, lc⟩)] W (GoodPost W d)) := hd' fun W hW => by
  have h := rec_any m ⟨tA, tc, fA, fc, bA, bc, dA, dc, lA, lc⟩ W (HT.out.below hW) ((HR.out.below hW).more hW.size) HOK.out; rw [hre] at h; exact h.mono fun e w' hp => hp.2 d rfl hrc
 have hlc := hP.1; have hNBb : d.blocks.length ≤ 2000 := by omega
 have hNZb : d.firsts.length ≤ 40 := by omega
 clear hT hR hok hre hrc hP hlb hF hFN hTF hce hct hfew hf1 ho; unfold Img.val at HREC ⊢; simp only at HREC ⊢; obtain ⟨T, hTe⟩ := ex' m.text.length
 obtain ⟨NF, hNF⟩ := ex' m.funcs.length
 obtain ⟨nb, hnb⟩ := ex' m.tables.length
 obtain ⟨nd, hnd⟩ := ex' m.data.length
 obtain ⟨nln, hnln⟩ := ex' m.lines.length
 obtain ⟨nl, hnl⟩ := ex' l.length
 rw [hTe, hNF, hnb, hnd, hnln] at HREC ⊢; rw [hnl] at hll hlc ⊢; have HN5 := hd' (And.intro hTe (And.intro hNF (And.intro hnb (And.intro hnd hnln)))); have HNL := hd' hnl; clear hTe hNF hnb hnd hnln hnl
 go_enter Tryd.func15, Tryd.ntmps15
 go_upto_region 1 with fail
 obtain ⟨W1, hW1⟩ := ex' ((w.alloc (.cells #[.slice tA T tc, .slice fA NF fc, .slice bA nb bc, .slice dA nd dc, .slice lA nln lc, .int .i64 m.entry] 42)).alloc (.cells #[.slice none 0 0, .slice none 0 0, .slice none 0 0, .slice none 0 0, .slice none 0 0, .int .i64 0] 42))
 rw [hW1]; have hm1 : Blk W1 w.heap.size 42 [.slice tA T tc, .slice fA NF fc, .slice bA nb bc, .slice dA nd dc, .slice lA nln lc, .int .i64 m.entry] := by rw [← hW1]; exact Blk.alloc (Blk.new w _ _) _
 have hr1 : Blk W1 (w.heap.size + 1) 42 [.slice none 0 0, .slice none 0 0, .slice none 0 0, .slice none 0 0, .slice none 0 0, .int .i64 0] := by rw [← hW1]; exact Blk.new2 w _ _ _
 have hb1 : Below w.heap.size w W1 := by rw [← hW1]; exact ((Below.refl _ _).alloc lr' _).alloc (by simp) _
 obtain ⟨B0, hB0⟩ := ex' w.heap.size
 have HB0 := hd' hB0; have HW1 := hd' hb1; rw [hB0] at hm1 hr1 ⊢; have HM1 := hd' hm1; have HR1 := hd' hr1; have m0 := hm1.cell 0 rfl; have m1 := hm1.cell 1 rfl; have m2 := hm1.cell 2 rfl; have m3 := hm1.cell 3 rfl; have m4 := hm1.cell 4 rfl; have m5 := hm1.cell 5 rfl; have ml := hm1.lt; clear hW1 hm1 hr1 hb1 hB0
 go_wp2_with fail
 refine (HREC.out _ HW1.out).mono ?_; rintro e w2 ⟨xA, xc, yA, yc, zA, zc, rfl, hb2, hfl⟩; have hF2 := HF.out.few; obtain ⟨NB, hNB⟩ := ex' d.blocks.length
 obtain ⟨nt, hnt⟩ := ex' d.tables.length
 obtain ⟨nz, hnz⟩ := ex' d.firsts.length
 have HCK : Hid (∀ W, Below w2.heap.size w2 W → Calls Tryd.prog 29 #[.agg #[.slice xA NB xc, .slice yA nt yc, .slice zA nz zc], .slice A nl c] W fun e w' => e = .returned (.int .i64 (ordE (ordOk d l))) ∧ Below W.heap.size W w') := hd' fun W hW => by
  have h := check_ord d xA yA zA xc yc zc l A c W (hfl.below hW) ((HP.out.below (HW1.out.trans (hb2.mono HW1.out.size))).below hW) (by omega) (by omega) (by rw [HNL.out]; omega) HLB.out; unfold flowV at h; rw [hNB, hnt, hnz, HNL.out] at h; exact h
 rw [HOK2.out] at HCK; rw [hNB, hnt, hnz]; have HW2 := hd' (HW1.out.trans (hb2.mono HW1.out.size)); have HFL := hd' hfl; have HM2 := hd' (HM1.out.keep hb2); have HR2 := hd' (HR1.out.keep hb2); have HN3 := hd' (And.intro hNB (And.intro hnt hnz)); rw [hNB] at hNBb; rw [hnz] at hNZb; clear hb2 hfl hF2 hNB hnt hnz m0 m1 m2 m3 m4 m5 ml HREC HW1 HM1 HR1
 go_upto_region 4 with fail
 obtain ⟨W3, hW3⟩ := ex' (w2.alloc (.cells #[.slice xA NB xc, .slice yA nt yc, .slice zA nz zc] 45))
 rw [hW3]; have hf3 : Blk W3 w2.heap.size 45 [.slice xA NB xc, .slice yA nt yc, .slice zA nz zc] := by rw [← hW3]; exact Blk.new w2 _ _
 have hb3 : Below w2.heap.size w2 W3 := by rw [← hW3]; exact (Below.refl _ _).alloc lr' _
 obtain ⟨B2, hB2⟩ := ex' w2.heap.size
 have HBB : Hid (B0 + 1 < B2) := hd' (by have := HR2.out.lt; omega); have HCK3 := hd' (HCK.out _ hb3); rw [hB2] at hf3 ⊢; have HFL3 := hd' (HFL.out.below hb3); have HM3 := hd' (HM2.out.keep hb3); have HR3 := hd' (HR2.out.keep hb3); have HF3 := hd' hf3; have HW3 := hd' (HW2.out.trans (hb3.mono HW2.out.size)); have f0 := hf3.cell 0 rfl; have f1 := hf3.cell 1 rfl; have f2 := hf3.cell 2 rfl; have fl := hf3.lt; clear hW3 hf3 hb3 hB2 HCK HFL HM2 HR2
 go_wp2_with fail
 refine HCK3.out.mono ?_; rintro e w4 ⟨rfl, hb4⟩; have HW4 := hd' (HW3.out.trans (hb4.mono HW3.out.size)); have HFL4 := hd' (HFL3.out.below hb4); have HM4 := hd' (HM3.out.keep hb4); have HR4 := hd' (HR3.out.keep hb4); have HF4 := hd' (HF3.out.keep hb4); clear hb4 f0 f1 f2 fl HFL3 HM3 HR3 HF3 HCK3 HW3 HW2; have ro : ordE false = 8 := rfl; rw [ro]; have rf0 := HR4.out.free 0; have rf1 := HR4.out.free 1; have rf2 := HR4.out.free 2; have rf3 := HR4.out.free 3; have rf4 := HR4.out.free 4; have rf5 := HR4.out.free 5; have r0 := HR4.out.cell 0 rfl; have r1 := HR4.out.cell 1 rfl
 have r2 := HR4.out.cell 2 rfl; have r3 := HR4.out.cell 3 rfl; have r4 := HR4.out.cell 4 rfl; have r5 := HR4.out.cell 5 rfl; have rl := HR4.out.lt
 go_wp2_with fail
 have hset : Blk _ (B0 + 1) 42 [.slice none 0 0, .slice none 0 0, .slice none 0 0, .slice none 0 0, .slice none 0 0, .int .i64 0] := ((((((HR4.out.set 0 (.slice none 0 0)).set 1 (.slice none 0 0)).set 2 (.slice none 0 0)).set 3 (.slice none 0 0)).set 4 (.slice none 0 0)).set 5 (.int .i64 0))
 have hgb := gb_setCell (gb_setCell (gb_setCell (gb_setCell (gb_setCell (gb_setCell (gb_refl w4 (some (B0 + 1))) 0 (.slice none 0 0)) 1 (.slice none 0 0)) 2 (.slice none 0 0)) 3 (.slice none 0 0)) 4 (.slice none 0 0)) 5 (.int .i64 0); obtain ⟨V, hV⟩ := ex' ((((((w4.setCell ⟨B0 + 1, 0, none⟩ (.slice none 0 0)).setCell ⟨B0 + 1, 1, none⟩ (.slice none 0 0)).setCell ⟨B0 + 1, 2, none⟩ (.slice none 0 0)).setCell ⟨B0 + 1, 3, none⟩ (.slice none 0 0)).setCell ⟨B0 + 1, 4, none⟩ (.slice none 0 0)).setCell ⟨B0 + 1, 5, none⟩ (.int .i64 0))
 rw [hV] at hset hgb ⊢; have hbel := HW4.out.trans (gb_to_below hgb (by have := HB0.out; omega) HW4.out.size); have v0 := hset.cell 0 rfl; have v1 := hset.cell 1 rfl; have v2 := hset.cell 2 rfl; have v3 := hset.cell 3 rfl; have v4 := hset.cell 4 rfl; have v5 := hset.cell 5 rfl; have HBV := hd' hbel; clear hset hgb hV hbel; refine bodyPost_ret (v := .tuple #[.agg #[.slice none 0 0, .slice none 0 0, .slice none 0 0, .slice none 0 0, .slice none 0 0, .int .i64 0], .slice none 0 0, .int .i64 8]) (by simp [results, Tryd.results15, go_sem, v0, v1, v2, v3, v4, v5]) rfl ?_
 exact HPO.out _ _ rfl HBV.out
theorem emit_stB {w : World} {l : List RawI} {m : Img} {v : ImgV} {d : FlowD} {xA yA zA : Option Addr} {xc yc zc : Nat} (h : FlwSt w l m v d xA yA zA xc yc zc) (hT : Tabs w) {A : Option Addr} {c : Nat} {ps : List PartD} (hP : PartsRd w A c ps) (hl : ps.length ≤ 10000) (hb : ∀ p ∈ ps, p.bs.length ≤ 10000) (ho : ordOk d ps = false) :
 Calls Tryd.prog 15 #[.agg (m.val v), .slice A ps.length c] w (EmBad w) := emit_bad m v d ps A c w hT h.img h.ok h.pgm.recE h.rc hP hl hb ho
end Go.Proofs.YtcafhoobeggmeaaDoor
