/- cut, walked (under way). -/
import Derived.Test.YtcdlgjhdbmmomaaGreatDoorFlowJ
import Derived.Test.YtcdlgjhdbmmomaaGreatDoorRegX
import Derived.Deep.DeepCutAuto
import Derived.Deep.CutBlock
import Derived.Deep.QuietTactic
import Derived.BigQuiet
import Derived.IntWalk
namespace Go.Proofs.YtcdlgjhdbmmomaaGreatDoor
open Go.RowKit Go.Deep
theorem infoIntC : (Tryz.prog.info? 3).map (fun i => (i.zero, i.size, i.bytes)) = some (some (.int .i64 0), 1, 8) := by kernel_rfl
theorem infoInsC : (Tryz.prog.info? 52).map (fun i => (i.zero, i.size, i.bytes)) = some (some (.agg #[.int .i64 0, .int .i64 0, .int .i64 0, .int .i64 0, .int .i64 0, .bool false]), 6, 48) := by kernel_rfl
theorem infoBlkC : (Tryz.prog.info? 54).map (fun i => (i.zero, i.size, i.bytes)) = some (some (.agg #[.int .i64 0, .int .i64 0, .slice none 0 0, .slice none 0 0, .int .i64 0, .int .i64 0, .int .i64 0, .int .i64 0, .int .i64 0, .bool false, .int .i64 0, .int .i64 0, .int .i64 0, .slice none 0 0]), 14, 160) := by kernel_rfl
def CutPost (W0 : World) (B H0 X : Nat) (m : Img) (v : ImgV) (aA : Option Addr) (ac : Nat) (all : List (List Sp)) (vs : List Value) (o L k : Nat) (tV : Value) (n nk : Nat) (ld : Int → Bool) (f : Nat) (sp : List Sp) (ds : List BlkD) (bm : Int → Option Int) (fs : List Int) (e : Ending) (w' : World) : Prop :=
 e = .returned (.tuple #[]) ∧ ∃ (bA : Option Addr) (bc : Nat) (fA : Option Addr) (fc H nk' : Nat) (ds' cur' : List (BlkD × BlkV)) (bm' : Int → Option Int),
  Blk w' X 112 (finC m v aA all.length ac o L k [.slice bA (ds' ++ cur').length bc, tV, .slice fA (fs.length + 1) fc]) ∧ CutM W0 w' B H0 H X m v aA ac all vs L k bA bc fA fc n nk' ld bm' ds' cur' (fs ++ [(ds.length : Int)]) ∧
  finCut m ld (f : Int) sp ⟨ds, bm⟩ = ⟨(ds' ++ cur').map Prod.fst, bm'⟩ ∧ cur'.length ≤ 1 ∧ nk' ≤ nk + sp.length ∧ (ds' ++ cur').length ≤ ds.length + sp.length
set_option maxHeartbeats 8000000 in
set_option maxRecDepth 100000 in
theorem fin_cut {W0 : World} {B H0 H X : Nat} {m : Img} {v : ImgV} {aA : Option Addr} {ac : Nat} {all : List (List Sp)} {vs : List Value} {o L k : Nat} {tV : Value} {bA : Option Addr} {bc : Nat} {fA : Option Addr} {fc n nk : Nat} {ld : Int → Bool} {bm : Int → Option Int} {ds : List (BlkD × BlkV)} {fs : List Int} (f : Nat) (w : World)
 (hX : Blk w X 112 (finC m v aA all.length ac o L k [.slice bA ds.length bc, tV, .slice fA fs.length fc])) (hC : CutM W0 w B H0 H X m v aA ac all vs L k bA bc fA fc n nk ld bm ds [] fs) (hfs : fs.length ≤ 100000) (sp : List Sp) (hsp : all[f]? = some sp) (_hal : all.length ≤ ac) (hok : ∀ s ∈ sp, SpOk s) (hdl : ds.length ≤ 1000000) (hsl8 : sp.length ≤ 8000) (hnk8 : nk ≤ 1000000) (hld0 : ∀ s, sp[0]? = some s → ld s.p = true) (hO : ImgOk m v) (_hf64 : f ≤ 1000000) :
 Calls Tryz.prog 58 #[.pointer (some ⟨X, 0, none⟩), .int .i64 f] w (CutPost W0 B H0 X m v aA ac all vs o L k tV n nk ld f sp (ds.map Prod.fst) bm fs) := by
 obtain ⟨nb, hnb⟩ := ex' ds.length
 obtain ⟨nfs, hnfs⟩ := ex' fs.length
 rw [hnb, hnfs] at hX; have hfir := hC.fir; rw [hnfs] at hfir hfs; have y_bs := hX.cell 10 rfl; have y_fs := hX.cell 12 rfl; have hs9 := hC.hs.2.2.2.2.2.2.2; have lX := hX.lt; have HX := hd' hX; have HCM := hd' hC; have HFI := hd' hfir; have HNB := hd' hnb; have HNF := hd' hnfs; have hfl := (List.getElem?_eq_some_iff.1 hsp).1; obtain ⟨sA, sc, hv1, hsr⟩ := hC.rows.2.2 f sp hsp; obtain ⟨an, han⟩ := ex' all.length
 obtain ⟨sl, hsl⟩ := ex' sp.length
 rw [han] at hfl _hal; rw [hsl] at hv1 hsl8; rw [hnb] at hdl; have hflI : (f : Int) < (an : Int) := by omega
 have HAN := hd' han; have HSL := hd' hsl; have HV1 := hd' hv1; have HSP := hd' hsp; have HSR := hd' hsr; obtain ⟨ab, ao, haa, -, -⟩ := hC.rows.2.1.1 (by intro e; rw [e] at hv1; cases hv1); subst haa; have HOK := hd' hok; have HLD0 := hd' hld0; have HO := hd' hO; clear hX hC hfir hnb hnfs han hsl hv1 hsp hsr hok hld0 hO
 go_enter Tryz.func58, Tryz.ntmps58
 go_upto_region 0 with fail
 refine wp_region_W (fun w' => w'.cell? ⟨X, 10, none⟩ = some (.slice bA nb bc) ∧ w'.cell? ⟨X, 12, none⟩ = some (.slice fA nfs fc)) 17 (by kernel_rfl) (by (try dsimp only); go_keep) (fun zH => ?_); refine wq 0 zH ?_; refine wq 1 zH ?_; refine wq 2 zH ?_; refine wq 3 zH ?_; refine wq 4 zH ?_; refine wq 5 zH ?_; refine wq 6 zH ?_; refine wq 7 zH ?_
 refine wq 8 zH ?_; refine wq 9 zH ?_; refine wq 10 zH ?_; refine wq 11 zH ?_; refine wpW_one 12 rfl (by kernel_rfl) (fun K hK => ?_)
 go_simp
 have hxA : Blk (w.drew.alloc (.cells #[.int .i64 nb] 3)) X 112 _ := (HX.out.drew).alloc _; have a_bs := hxA.cell 10 rfl; have a_fs := hxA.cell 12 rfl; refine hK.out _ _ (by (try dsimp only); go_keep) (fun zH => ?_); clear hK K; (try simp only [putE]); refine wpW_one 13 rfl (by kernel_rfl) (fun K hK => ?_)
 refine step_app_one rfl _ _ 27 3 1 8 _ Tryz.underlying27 infoIntC rfl (by decide) rfl H0 _ nfs _ rfl (World.ownsRow.alloc HFI.out _) w.heap.size 1 rfl [.int .i64 nb] 3 (0, 0) (heap_alloc_new w.drew _) rfl (by simp [Value.oneCell']) (by omega) (by omega) (by simp; omega) (w.heap.size + 1) (by simp) (fun g2 c2 w2 ho2 hgr2 hat2 hlt2 => ?_); have hx2 := hxA.gb hgr2 (fun e => by have h1 := (World.ownsRow.lt HFI.out X e).1; have := HCM.out.hs.2.1; omega); have b_bs := hx2.cell 10 rfl; have b_fs := hx2.cell 12 rfl; have b_f := hx2.free 12; have b_l := hx2.lt
 refine hK.out _ _ (by (try dsimp only); exact ⟨b_bs, b_fs⟩) (fun zH => ?_); clear hK K; (try simp only [putE]); refine wpW_one 14 rfl (by kernel_rfl) (fun K hK => ?_)
 go_simp
 refine hK.out _ _ (by (try dsimp only); exact ⟨b_bs, b_fs⟩) (fun zH => ?_); clear hK K; (try simp only [putE]); refine wpW_one 15 rfl (by kernel_rfl) (fun K hK => ?_)
 go_simp
 refine hK.out _ _ (by (try dsimp only); exact ⟨b_bs, b_fs⟩) (fun zH => ?_); clear hK K; (try simp only [putE]); refine wpW_one 16 rfl (by kernel_rfl) (fun K hK => ?_)
 go_simp
 refine hK.out _ _ (by (try dsimp only); exact ⟨b_bs, b_fs⟩) (fun zH => ?_); clear hK K; (try simp only [putE]); refine wpW_last 17 rfl (by kernel_rfl) (by decide) (fun K hK => ?_)
 go_simp
 refine hK.out _ _ ?_; clear hK K; (try simp only [putE]); refine wpW_done (by kernel_rfl) ?_ _; have hb0 : Below w.heap.size w (w.drew.alloc (.cells #[.int .i64 nb] 3)) := (Below.refl w.heap.size w).drew.alloc lr' _; have hA0 : CutM W0 (w.drew.alloc (.cells #[.int .i64 nb] 3)) B H0 H X m v (some ⟨ab, ao, none⟩) ac all vs L k bA bc fA fc n nk ld bm ds [] fs := HCM.out.below hb0
 have hM2 : CutM W0 w2 B H0 w2.heap.size X m v (some ⟨ab, ao, none⟩) ac all vs L k bA bc (some ⟨g2, 0, none⟩) c2 n nk ld bm ds [] (fs ++ [(nb : Int)]) := hA0.addFir (by rw [HNF.out]; exact ho2) (by rw [HNF.out]; exact hgr2) (fun g e => by
  rw [HNF.out]; have e2 : some g2 = some g := e; injection e2 with e2; subst e2; rcases hat2 with h | h
  · exact .inl h
  · exact .inr (by simp; omega))
 obtain ⟨w3, hw3⟩ := ex' (w2.setCell ⟨X, 12, none⟩ (.slice (some ⟨g2, 0, none⟩) (nfs + 1) c2))
 have HM3 : Hid (CutM W0 w3 B H0 w2.heap.size X m v (some ⟨ab, ao, none⟩) ac all vs L k bA bc (some ⟨g2, 0, none⟩) c2 n nk ld bm ds [] (fs ++ [(nb : Int)])) := hd' (by rw [← hw3]; exact hM2.setX hx2 12 _); have HX3 : Hid (Blk w3 X 112 (finC m v (some ⟨ab, ao, none⟩) all.length ac o L k [.slice bA nb bc, tV, .slice (some ⟨g2, 0, none⟩) (nfs + 1) c2])) := hd' (by rw [← hw3]; exact hx2.set 12 _); rw [hw3]; clear hw3 hM2 hA0 hb0 hx2 hxA a_bs a_fs b_bs b_fs b_f b_l ho2 hgr2 hat2 hlt2
 obtain ⟨ab', ao', hab, -, hvc⟩ := HM3.out.rows.2.1.1 (by intro e; have := HV1.out; rw [e] at this; cases this); injection hab with hab; injection hab with hab1 hab2 _; subst hab1 hab2; have y_row := hvc f _ HV1.out; have hx3 := HX3.out; unfold finC at hx3; rw [HAN.out] at hx3; have y_all := hx3.cell 6 rfl; clear hx3 hvc y_bs y_fs
 go_wp2_with fail
 go_loopg [32] sl (fun gk s32 wr => ∃ (j nk' : Nat) (bA' : Option Addr) (bc' H' : Nat) (ds' cur' : List (BlkD × BlkV)) (bm' : Int → Option Int), j ≤ sl ∧ s32 = .int .i64 j ∧ nk' ≤ nk + j ∧ Hid (Blk wr X 112 (finC m v (some ⟨ab, ao, none⟩) all.length ac o L k [.slice bA' (ds' ++ cur').length bc', tV, .slice (some ⟨g2, 0, none⟩) (nfs + 1) c2])) ∧
  Hid (CutM W0 wr B H0 H' X m v (some ⟨ab, ao, none⟩) ac all vs L k bA' bc' (some ⟨g2, 0, none⟩) c2 n nk' ld bm' ds' cur' (fs ++ [(nb : Int)])) ∧ Hid (finCut m ld (f : Int) (sp.take j) ⟨ds.map Prod.fst, bm⟩ = ⟨(ds' ++ cur').map Prod.fst, bm'⟩) ∧ Hid (cur'.length ≤ 1 ∧ (0 < j → cur'.length = 1)) ∧ (ds' ++ cur').length ≤ nb + j ∧ Hid (∀ x ∈ cur', x.1.code.length ≤ j ∧ x.1.ats.length ≤ j ∧ x.1.lines.length ≤ j) ∧ sl - j ≤ gk)
 case atStart =>
  refine ⟨0, nk, bA, bc, _, ds, [], bm, Nat.zero_le _, rfl, Nat.le_refl _, hd' ?_, HM3, hd' ?_, hd' ⟨by simp, fun h => absurd h (Nat.lt_irrefl _)⟩, ?_, hd' (fun x hx => (by cases hx)), Nat.le_refl _⟩
  · rw [List.append_nil, HNB.out]; exact HX3.out
  · rw [List.append_nil]
    rfl
  · rw [List.append_nil, HNB.out]; exact Nat.le_refl _
 case round =>
  obtain ⟨j, nk', bA', bc', H', ds', cur', bm', hj, rfl, hnk, HXr, HMr, HCr, HLr, hdl2, HCB, hgk⟩ := hrel
  by_cases hjl : j < sl
  · have hx : sp[j]? = some (sp[j]'(by rw [HSL.out]; exact hjl)) := gE' _; obtain ⟨s, hse⟩ := ex' (sp[j]'(by rw [HSL.out]; exact hjl))
    rw [hse] at hx
    have HNX : Hid (finCut m ld (f : Int) (sp.take (j + 1)) ⟨ds.map Prod.fst, bm⟩ = cutS m ld (f : Int) ⟨(ds' ++ cur').map Prod.fst, bm'⟩ s) := hd' (by
     rw [List.take_add_one, hx]; show finCut m ld (f : Int) (sp.take j ++ [s]) _ = _
     rw [finCut_snoc, HCr.out])
    obtain ⟨A2, c3, hv2, hr2⟩ := HMr.out.rows.2.2 f sp HSP.out; rw [HSL.out, HV1.out] at hv2; injection hv2 with hv2; injection hv2 with e1 _ e3; subst e1 e3; obtain ⟨sb, so, hsa, hsb, hcs⟩ := hr2.1 (by intro e; have := spsV_at hx 0 _ rfl; rw [e] at this; simp at this); subst hsa; obtain ⟨p, z, ⟨ik, id, ia, ib, inn, il⟩⟩ := s; have c0 := hcs _ _ (spsV_at hx 0 _ rfl); have c1 := hcs _ _ (spsV_at hx 1 _ rfl); have c2_ := hcs _ _ (spsV_at hx 2 _ rfl); have c3_ := hcs _ _ (spsV_at hx 3 _ rfl); have c4 := hcs _ _ (spsV_at hx 4 _ rfl); have c5 := hcs _ _ (spsV_at hx 5 _ rfl)
    have c6 := hcs _ _ (spsV_at hx 6 _ rfl); have c7 := hcs _ _ (spsV_at hx 7 _ rfl); simp only [Nat.add_zero, ← Nat.add_assoc] at c0 c1 c2_ c3_ c4 c5 c6 c7; have hjI : (j : Int) < (sl : Int) := by omega
    clear hse hcs hsb hr2
    go_upto_region 4 with fail
    obtain ⟨W5, hW5⟩ := ex' ((wr.alloc (.cells #[.int .i64 p, .int .i64 z, .int .i64 ik, .int .i64 id, .int .i64 ia, .int .i64 ib, .int .i64 inn, .bool il] 119)))
    rw [hW5]; have hb5 : Below wr.heap.size wr W5 := by rw [← hW5]; exact (Below.refl _ _).alloc lr' _
    have hsp5 : Blk W5 wr.heap.size 119 [.int .i64 p, .int .i64 z, .int .i64 ik, .int .i64 id, .int .i64 ia, .int .i64 ib, .int .i64 inn, .bool il] := by rw [← hW5]; exact Blk.new wr _ _
    have hx5 := HXr.out.keep hb5; have HM5 := hd' (HMr.out.below hb5); have HX5 := hd' hx5; have HSP5 := hd' hsp5; obtain ⟨⟨p1, p2⟩, ⟨z1, z2⟩, ⟨n1, n2⟩, n3⟩ := HOK.out _ (mG' hx); simp only at p1 p2 z1 z2 n1 n2 n3; have y_L := hx5.cell 8 rfl; have y_p := hsp5.cell 0 rfl; have l5 := hsp5.lt; have lX5 := hx5.lt; have hlk : ∀ x, (Instr.lookup 109 (.map (some L)) (.int .i64 p) false).run Tryz.prog (W5.drewN x) = .ok (.bool (ld p)) (W5.drewN x) := fun x => MapB.look (w := W5.drewN x) HM5.out.ldr ⟨by omega, by omega⟩
    have HSX := hd' hx; clear hW5 hb5 hsp5 hx5 c0 c1 c2_ c3_ c4 c5 c6 c7 hx
    go_quiet (fail)
    go_upto_if 42 with fail
    obtain ⟨W6, hW6⟩ := ex' (W5.drewN nq)
    have hb6 : Below W5.heap.size W5 W6 := by rw [← hW6]; exact below_dN (Below.refl _ _) nq
    rw [hW6]; have HM6 := hd' (HM5.out.below hb6); have HX6 := hd' (HX5.out.keep hb6); have HSP6 := hd' (HSP5.out.keep hb6); clear hW6 hb6 hlk y_L y_p l5 lX5 HM5 HX5 HSP5 HMr HXr; obtain ⟨nd, hnd⟩ := ex' ((ds' ++ cur').length)
    obtain ⟨b5, hb5⟩ := ex' wr.heap.size
    obtain ⟨lp, hlp⟩ := ex' (ld p)
    rw [hnd] at hdl2; rw [hb5] at HSP6 ⊢; rw [hlp]; have HND := hd' hnd; have HLP := hd' hlp; have HFL : Hid ((fs ++ [(nb : Int)]).length = nfs + 1) := hd' (by rw [List.length_append, HNF.out]; rfl); clear hnd hb5 hlp
    go_cut [] (fun wx => ∃ (gb bc2 nk2 : Nat) (bm2 : Int → Option Int) (H2 : Nat) (ds2 : List (BlkD × BlkV)) (x2 : BlkD × BlkV), nk2 ≤ nk' + 1 ∧ ds2.length ≤ nb + j ∧ (x2.1.code.length ≤ j ∧ x2.1.ats.length ≤ j ∧ x2.1.lines.length ≤ j) ∧ Hid (RnS W0 wx B H0 H2 X b5 m v (some ⟨ab, ao, none⟩) ac all vs o L k gb bc2 (some ⟨g2, 0, none⟩) c2 n nk2 ld bm2 ds2 x2 (fs ++ [(nb : Int)]) tV ⟨p, z, ⟨ik, id, ia, ib, inn, il⟩⟩) ∧ Hid (beginS ld (f : Int) ⟨p, z, ⟨ik, id, ia, ib, inn, il⟩⟩ ⟨(ds' ++ cur').map Prod.fst, bm'⟩ = ⟨(ds2 ++ [x2]).map Prod.fst, bm2⟩))
    case first =>
     cases lp
     · have hj0 : 0 < j := by
        rcases Nat.eq_zero_or_pos j with e | e
        · subst e; have h := HLD0.out _ HSX.out; have h2 := HLP.out; simp only at h; rw [h2] at h
          cases h
        · exact e
       obtain ⟨x2, rfl⟩ := List.length_eq_one_iff.1 (HLr.out.2 hj0); obtain ⟨gb, rfl⟩ := own_ptr HM6.out.row (by simp)
       have hn2 : ds'.length ≤ nb + j := by
        have := HND.out; rw [List.length_append, List.length_singleton] at this; omega
       have HR6 : Hid (RnS W0 W6 B H0 H' X b5 m v (some ⟨ab, ao, none⟩) ac all vs o L k gb bc' (some ⟨g2, 0, none⟩) c2 n nk' ld bm' ds' x2 (fs ++ [(nb : Int)]) tV ⟨p, z, ⟨ik, id, ia, ib, inn, il⟩⟩) := hd' (by
        refine ⟨HM6.out, ?_, HSP6.out⟩; have h := HX6.out; rw [List.length_append, List.length_singleton] at h; rw [HFL.out]
        exact h)
       have HBE : Hid (beginS ld (f : Int) ⟨p, z, ⟨ik, id, ia, ib, inn, il⟩⟩ ⟨(ds' ++ [x2]).map Prod.fst, bm'⟩ = ⟨(ds' ++ [x2]).map Prod.fst, bm'⟩) := hd' (by
        unfold beginS
        rw [if_neg (by simp only; rw [HLP.out]; decide)])
       clear hj0
       go_wp2
       go_meet
       exact ⟨gb, bc', nk', bm', H', ds', x2, by omega, hn2, HCB.out x2 (List.mem_singleton.2 rfl), HR6, HBE⟩
     · have hmc := HM6.out.close HLr.out.1; obtain ⟨dd, hdd⟩ := ex' (ds' ++ cur')
       have hnd2 : dd.length = nd := by rw [← hdd]; exact HND.out
       have hx6 := HX6.out; rw [hdd] at hmc; rw [hdd, hnd2] at hx6; have HDD := hd' hdd; have HN2 := hd' hnd2; have hmd := hmc.below (Below.refl _ _).drew; have HMD := hd' hmd; have y_k := hx6.cell 9 rfl; have y_b := hx6.cell 10 rfl; have y_p := HSP6.out.cell 0 rfl; have lX6 := hx6.lt; have l6 := HSP6.out.lt; obtain ⟨W7, hup, hm7, hg7⟩ := (show MapI W6.drew k nk' bm' from hmd.bmr).update (k := p) (v := (nd : Int)) (by omega) ⟨by omega, by omega⟩ ⟨by omega, by omega⟩; have HMK : Hid (MapI W6.drew k nk' bm') := hd' hmd.bmr; have HM7 := hd' (hmd.upK hg7 hm7)
       have HX7 : Hid (Blk W7 X 112 (finC m v (some ⟨ab, ao, none⟩) all.length ac o L k [.slice bA' nd bc', tV, .slice (some ⟨g2, 0, none⟩) (nfs + 1) c2])) := hd' ((show Blk W6.drew X _ _ from hx6).keepI hg7 HMK.out); have HSP7 := hd' ((show Blk W6.drew b5 _ _ from HSP6.out).keepI hg7 HMK.out); clear hmc hdd hnd2 hx6 hmd hm7 hg7
       go_upto_region 5 with fail
       refine wp_region_W (fun w' => w'.cell? ⟨X, 9, none⟩ = some (.map (some k)) ∧ w'.cell? ⟨b5, 0, none⟩ = some (.int .i64 p) ∧ w'.cell? ⟨X, 10, none⟩ = some ((.slice bA' nd bc'))) 12 (by kernel_rfl) (by (try dsimp only); go_keep) (fun zH => ?_); refine wq 0 zH ?_; refine wq 1 zH ?_; refine wq 2 zH ?_; refine wq 3 zH ?_; refine wq 4 zH ?_; refine wq 5 zH ?_; refine wq 6 zH ?_
       refine wq 7 zH ?_; refine wq 8 zH ?_; refine wq 9 zH ?_; refine wq 10 zH ?_; refine wq 11 zH ?_; refine wpW_last 12 rfl (by kernel_rfl) (by decide) (fun K hK => ?_)
       go_simp
       refine hK.out _ _ ?_; clear hK K; (try simp only [putE]); refine wpW_done (by kernel_rfl) ?_ _; clear hup y_k y_b y_p lX6 l6; have y_b := HX7.out.cell 10 rfl; have y_p := HSP7.out.cell 0 rfl; have lX7 := HX7.out.lt; have l7 := HSP7.out.lt; have hrow7 := HM7.out.row; rw [List.append_nil, HN2.out] at hrow7; have HRW7 := hd' hrow7; have hH07 : H0 ≤ W7.heap.size := by have := HM7.out.hs; omega
       clear hrow7
       go_upto_region 6 with fail
       refine wp_region_W (fun w' => w'.cell? ⟨X, 10, none⟩ = some ((.slice bA' nd bc')) ∧ w'.cell? ⟨b5, 0, none⟩ = some (.int .i64 p)) 15 (by kernel_rfl) (by (try dsimp only); go_keep) (fun zH => ?_); refine wq 0 zH ?_; refine wq 1 zH ?_; refine wq 2 zH ?_; refine wq 3 zH ?_; refine wq 4 zH ?_; refine wq 5 zH ?_; refine wq 6 zH ?_; refine wq 7 zH ?_
       refine wq 8 zH ?_; refine wq 9 zH ?_; refine wpW_one 10 rfl (by kernel_rfl) (fun K hK => ?_)
       go_simp
       have hblA : Below W7.heap.size W7 (W7.drew.alloc (.cells #[.int .i64 f, .int .i64 p, .slice none 0 0, .slice none 0 0, .int .i64 0, .int .i64 0, .int .i64 0, .int .i64 0, .int .i64 0, .bool false, .int .i64 2, .int .i64 0, .int .i64 0, .slice none 0 0] 54)) := (Below.refl _ _).drew.alloc lr' _; have hxA := HX7.out.keep hblA; have hsA := HSP7.out.keep hblA; have a_b := hxA.cell 10 rfl; have a_p := hsA.cell 0 rfl; refine hK.out _ _ (by (try dsimp only); go_keep) (fun zH => ?_); clear hK K; (try simp only [putE])
       refine wpW_one 11 rfl (by kernel_rfl) (fun K hK => ?_)
       refine step_app_one rfl _ _ 31 54 14 160 _ Tryz.underlying31 infoBlkC rfl (by decide) rfl H0 _ nd _ rfl (World.ownsRow.alloc HRW7.out _) W7.heap.size 1 rfl [.int .i64 f, .int .i64 p, .slice none 0 0, .slice none 0 0, .int .i64 0, .int .i64 0, .int .i64 0, .int .i64 0, .int .i64 0, .bool false, .int .i64 2, .int .i64 0, .int .i64 0, .slice none 0 0] 54 (0, 0) (heap_alloc_new W7.drew _) rfl (by simp [Value.oneCell']) (by omega) (by omega) (by simp; omega) (W7.heap.size + 1) (by simp) (fun g3 c3 w3 ho3 hgr3 hat3 hlt3 => ?_)
       have hty3 : ∀ q, (Value.slice bA' nd bc').ownBlock = some q → TypB (W7.drew.alloc (.cells #[.int .i64 f, .int .i64 p, .slice none 0 0, .slice none 0 0, .int .i64 0, .int .i64 0, .int .i64 0, .int .i64 0, .int .i64 0, .bool false, .int .i64 2, .int .i64 0, .int .i64 0, .slice none 0 0] 54)) q 54 := fun q e => own_typ (World.ownsRow.alloc HRW7.out _) e
       have hx3 := hxA.keepT hgr3 hty3 (by decide); have hs3 := hsA.keepT hgr3 hty3 (by decide); have b_b := hx3.cell 10 rfl; have b_p := hs3.cell 0 rfl; have b_f := hx3.free 10; have b_l := hx3.lt; refine hK.out _ _ (by (try dsimp only); exact ⟨b_b, b_p⟩) (fun zH => ?_); clear hK K; (try simp only [putE]); refine wpW_one 12 rfl (by kernel_rfl) (fun K hK => ?_)
       go_simp
       refine hK.out _ _ (by (try dsimp only); exact ⟨b_b, b_p⟩) (fun zH => ?_); clear hK K; (try simp only [putE]); refine wpW_one 13 rfl (by kernel_rfl) (fun K hK => ?_)
       go_simp
       refine hK.out _ _ (by (try dsimp only); exact ⟨b_b, b_p⟩) (fun zH => ?_); clear hK K; (try simp only [putE]); refine wpW_one 14 rfl (by kernel_rfl) (fun K hK => ?_)
       go_simp
       refine hK.out _ _ (by (try dsimp only); exact ⟨b_b, b_p⟩) (fun zH => ?_); clear hK K; (try simp only [putE]); refine wpW_last 15 rfl (by kernel_rfl) (by decide) (fun K hK => ?_)
       go_simp
       refine hK.out _ _ ?_; clear hK K; (try simp only [putE]); refine wpW_done (by kernel_rfl) ?_ _; have hma : CutM W0 (W7.drew.alloc (.cells #[.int .i64 f, .int .i64 p, .slice none 0 0, .slice none 0 0, .int .i64 0, .int .i64 0, .int .i64 0, .int .i64 0, .int .i64 0, .bool false, .int .i64 2, .int .i64 0, .int .i64 0, .slice none 0 0] 54)) B H0 W6.heap.size X m v (some ⟨ab, ao, none⟩) ac all vs L k bA' bc' (some ⟨g2, 0, none⟩) c2 n (nk' + 1) ld (upF bm' p (some (nd : Int))) dd [] (fs ++ [(nb : Int)]) := HM7.out.below hblA
       have hmb := hma.addBlk (f : Int) p (A' := some ⟨g3, 0, none⟩) (c' := c3) (by rw [HN2.out]; exact ho3) (by rw [HN2.out]; exact hgr3)
       have HR8 : Hid (RnS W0 (w3.setCell ⟨X, 10, none⟩ (.slice (some ⟨g3, 0, none⟩) (nd + 1) c3)) B H0 W6.heap.size X b5 m v (some ⟨ab, ao, none⟩) ac all vs o L k g3 c3 (some ⟨g2, 0, none⟩) c2 n (nk' + 1) ld (upF bm' p (some (nd : Int))) dd (newB (f : Int) p, (⟨none, 0, none, 0, none, 0⟩ : BlkV)) (fs ++ [(nb : Int)]) tV ⟨p, z, ⟨ik, id, ia, ib, inn, il⟩⟩) := hd' (by
        refine ⟨hmb.setX hx3 10 _, ?_, hs3.keepT (gb_setCell (gb_refl _ (some X)) _ _) (fun g e => by injection e with e; subst e; exact hx3.typ) (by decide)⟩; rw [HFL.out, HN2.out]
        exact hx3.set 10 _)
       have HBE : Hid (beginS ld (f : Int) ⟨p, z, ⟨ik, id, ia, ib, inn, il⟩⟩ ⟨(ds' ++ cur').map Prod.fst, bm'⟩ = ⟨(dd ++ [(newB (f : Int) p, (⟨none, 0, none, 0, none, 0⟩ : BlkV))]).map Prod.fst, upF bm' p (some (nd : Int))⟩) := hd' (by
        unfold beginS; rw [if_pos (by simp only; exact HLP.out), HDD.out, List.map_append, List.length_map, HN2.out]
        rfl)
       have hn2 : dd.length ≤ nb + j := by rw [HN2.out]; exact hdl2
       clear hma hmb ho3 hgr3 hat3 hlt3 hx3 hs3 hty3 b_b b_p b_f b_l a_b a_p hxA hsA hblA y_b y_p lX7 l7
       go_wp2
       go_meet
       exact ⟨g3, c3, nk' + 1, _, _, dd, _, Nat.le_refl _, hn2, ⟨Nat.zero_le _, Nat.zero_le _, Nat.zero_le _⟩, HR8, HBE⟩
    case rest =>
     obtain ⟨gb, bc2, nk2, bm2, H2, ds2, x2, hnk2, hd2, hbd2, HR, HBE⟩ := hcut; clear HM6 HX6 HSP6 HLP HLr hdl2 HND HCB; obtain ⟨n2, hn2⟩ := ex' ds2.length
     obtain ⟨⟨xfn, xst, xco, xat, ⟨lk, ldd, la, lb, ln, ll⟩, xen, xds, xel, xli⟩, ⟨cA, cc, aA', ac', lA', lc'⟩⟩ := x2; obtain ⟨nco, hnco⟩ := ex' xco.length
     obtain ⟨nat, hnat⟩ := ex' xat.length
     obtain ⟨nli, hnli⟩ := ex' xli.length
     have hfx := HR.out.fx; rw [hn2, HFL.out] at hfx; rw [hn2] at hd2; simp only [hnco, hnat, hnli] at hbd2; obtain ⟨hbc, hba, hbl⟩ := hbd2; have HN2 := hd' hn2; have HNCO := hd' hnco; have HNAT := hd' hnat; have HNLI := hd' hnli; have y_b := hfx.cell 10 rfl; have lX := hfx.lt
     have hw1 : IntKind.i64.wrap (((n2 + 1 : Nat) : Int) - 1) = (n2 : Int) := by
      rw [show ((n2 + 1 : Nat) : Int) - 1 = (n2 : Int) by omega]; exact IntWalk.i64_in _ (by omega)
     have hi1 : (n2 : Int) < ((n2 + 1 : Nat) : Int) := by omega
     clear hfx hn2 hnco hnat hnli
     go_upto_region 7 with fail
     go_quiet (fail)
     clear hw1 hi1 y_b lX
     go_upto_region 8 with fail
     obtain ⟨W8, hW8⟩ := ex' (wc.drewN nq)
     have hr8 := HR.out.below (show Below wc.heap.size wc W8 by rw [← hW8]; exact below_dN (Below.refl _ _) nq); rw [hW8]; have HR8 := hd' hr8; clear hW8 hr8; have hrd := HR8.out.below (Below.refl _ _).drew; have y_b3 := (hrd.bcell 3 _ rfl).1; simp only [HN2.out, HNAT.out] at y_b3; have y_s0 := hrd.sp.cell 0 rfl; have yl_g := hrd.glt.2; have yl_x := hrd.fx.lt; have yl_s := hrd.sp.lt; have hH2 : H2 ≤ W8.heap.size := by have := HR8.out.cm.hs; omega
     go_upto_region 8 with fail
     refine wp_region_W (fun w' => w'.cell? ⟨gb, n2 * 14 + 3, none⟩ = some ((.slice aA' nat ac')) ∧ w'.cell? ⟨b5, 0, none⟩ = some (.int .i64 p)) 11 (by kernel_rfl) (by (try dsimp only); go_keep) (fun zH => ?_); refine wq 0 zH ?_; refine wq 1 zH ?_; refine wq 2 zH ?_; refine wq 3 zH ?_; refine wq 4 zH ?_; refine wq 5 zH ?_; refine wq 6 zH ?_
     refine wpW_one 7 rfl (by kernel_rfl) (fun K hK => ?_)
     go_simp
     have hra := hrd.below (show Below _ W8.drew (W8.drew.alloc (.cells #[.int .i64 p] 3)) from (Below.refl _ _).alloc lr' _); have a_b3 := (hra.bcell 3 _ rfl).1; simp only [HN2.out, HNAT.out] at a_b3; have a_s0 := hra.sp.cell 0 rfl; have al_g := hra.glt.2; have al_x := hra.fx.lt; have al_s := hra.sp.lt; have hrow := (hra.cm.cu _ (List.mem_singleton.2 rfl)).ats; simp only [HNAT.out] at hrow; have hH3 : H2 ≤ (W8.drew.alloc (.cells #[.int .i64 p] 3)).heap.size := hra.cm.hs.2.2.2.2.2.2.2.2; refine hK.out _ _ (by (try dsimp only); exact ⟨a_b3, a_s0⟩) (fun zH => ?_)
     clear hK K; (try simp only [putE]); refine wpW_one 8 rfl (by kernel_rfl) (fun K hK => ?_); refine step_app_one rfl _ _ 27 3 1 8 _ Tryz.underlying27 infoIntC rfl (by decide) rfl H2 _ nat _ rfl hrow W8.heap.size 1 rfl [.int .i64 p] 3 (0, 0) (heap_alloc_new (W8.drew) _) rfl (by simp [Value.oneCell']) (by omega) (by omega) hH3 (W8.heap.size + 1) (by simp) (fun ga ca w3 ho3 hgr3 hat3 hlt3 => ?_); have hty3 : ∀ q, _ = some q → TypB (W8.drew.alloc (.cells #[.int .i64 p] 3)) q 3 := fun q e => own_typ hrow e
     have b_b3 := (hra.gcell hgr3 hty3 (by decide) 3 _ rfl).1; simp only [HN2.out, HNAT.out] at b_b3; have b_s0 := (hra.sp.keepT hgr3 hty3 (by decide)).cell 0 rfl; have hgc := hra.gcell hgr3 hty3 (by decide) 3 _ rfl; simp only [HN2.out, HNAT.out] at hgc; have b_f := hgc.2.1; have b_l := hgc.2.2; refine hK.out _ _ (by (try dsimp only); exact ⟨b_b3, b_s0⟩) (fun zH => ?_); clear hK K; (try simp only [putE]); refine wpW_one 9 rfl (by kernel_rfl) (fun K hK => ?_)
     go_simp
     refine hK.out _ _ (by (try dsimp only); exact ⟨b_b3, b_s0⟩) (fun zH => ?_); clear hK K; (try simp only [putE]); refine wpW_one 10 rfl (by kernel_rfl) (fun K hK => ?_)
     go_simp
     refine hK.out _ _ (by (try dsimp only); exact ⟨b_b3, b_s0⟩) (fun zH => ?_); clear hK K; (try simp only [putE]); refine wpW_last 11 rfl (by kernel_rfl) (by decide) (fun K hK => ?_)
     go_simp
     refine hK.out _ _ ?_; clear hK K; (try simp only [putE]); refine wpW_done (by kernel_rfl) ?_ _; have hrn := hra.addAt (g2 := ga) (c2 := ca) (p := p) (by simp only [HNAT.out]; exact ho3) (by simp only [HNAT.out]; exact hgr3) (by simp only [HNAT.out]; rcases hat3 with h | h; exact .inl h; exact .inr (by simp; omega)); simp only [HN2.out, HNAT.out] at hrn; obtain ⟨W9, hWo⟩ := ex' (w3.setCell ⟨gb, n2 * 14 + 3, none⟩ (.slice (some ⟨ga, 0, none⟩) (nat + 1) ca))
     have HR9 : Hid (RnS W0 W9 B H0 H2 X b5 m v (some ⟨ab, ao, none⟩) ac all vs o L k gb bc2 (some ⟨g2, 0, none⟩) c2 n nk2 ld bm2 ds2 ((⟨xfn, xst, xco, (xat ++ [p]), ⟨lk, ldd, la, lb, ln, ll⟩, xen, xds, xel, xli⟩ : BlkD), (⟨cA, cc, (some ⟨ga, 0, none⟩), ca, lA', lc'⟩ : BlkV)) (fs ++ [(nb : Int)]) tV ⟨p, z, ⟨ik, id, ia, ib, inn, il⟩⟩) := hd' (by rw [← hWo]; exact hrn); rw [hWo]; clear hrn hrd yl_g yl_x yl_s hH2 hra hrow al_g al_x al_s hH3 ho3 hgr3 hat3 hlt3 hty3 hgc b_f b_l hWo y_b3 y_s0 a_b3 a_s0 b_b3 b_s0 ; clear HR HR8; obtain ⟨lnv, hlnv⟩ := ex' (lineAtF p 0 m.lines)
     have HLC : Hid (∀ W, ImgRd W W.heap.size m v → Calls Tryz.prog 90 #[.agg #[.slice v.tA m.text.length v.tc, .slice v.fA m.funcs.length v.fc, .slice v.bA m.tables.length v.bc, .slice v.dA m.data.length v.dc, .slice v.lA m.lines.length v.lc, .int .i64 m.entry], .int .i64 p] W fun e w' => e = .returned (.int .i64 lnv) ∧ Below W.heap.size W w') := hd' fun W hW => by
      rw [← hlnv]; exact lineAt_any m v p W hW HO.out ⟨by omega, by omega⟩
     have HLN := hd' hlnv; clear hlnv; have hrd := HR9.out.below (Below.refl _ _).drew; have y_b13 := (hrd.bcell 13 _ rfl).1; simp only [HN2.out, HNLI.out] at y_b13; have y_x0 := hrd.fx.cell 0 rfl; have y_x1 := hrd.fx.cell 1 rfl; have y_x2 := hrd.fx.cell 2 rfl; have y_x3 := hrd.fx.cell 3 rfl; have y_x4 := hrd.fx.cell 4 rfl; have y_x5 := hrd.fx.cell 5 rfl; have y_s0 := hrd.sp.cell 0 rfl; have yl_g := hrd.glt.2; have yl_x := hrd.fx.lt; have yl_s := hrd.sp.lt; have hH2 : H2 ≤ W9.heap.size := by have := HR9.out.cm.hs; omega
     go_upto_region 9 with fail
     refine wp_region_W (fun w' => w'.cell? ⟨gb, n2 * 14 + 13, none⟩ = some ((.slice lA' nli lc')) ∧ w'.cell? ⟨X, 0, none⟩ = some (.slice v.tA m.text.length v.tc) ∧ w'.cell? ⟨X, 1, none⟩ = some (.slice v.fA m.funcs.length v.fc) ∧ w'.cell? ⟨X, 2, none⟩ = some (.slice v.bA m.tables.length v.bc) ∧ w'.cell? ⟨X, 3, none⟩ = some (.slice v.dA m.data.length v.dc) ∧ w'.cell? ⟨X, 4, none⟩ = some (.slice v.lA m.lines.length v.lc) ∧ w'.cell? ⟨X, 5, none⟩ = some (.int .i64 m.entry) ∧ w'.cell? ⟨b5, 0, none⟩ = some (.int .i64 p)) 16 (by kernel_rfl) (by (try dsimp only); go_keep) (fun zH => ?_)
     refine wq 0 zH ?_; refine wq 1 zH ?_; refine wq 2 zH ?_; refine wq 3 zH ?_; refine wq 4 zH ?_; refine wq 5 zH ?_; refine wq 6 zH ?_; refine wq 7 zH ?_; refine wq 8 zH ?_; refine wq 9 zH ?_; refine wq 10 zH ?_; refine wpW_one 11 rfl (by kernel_rfl) (fun K hK => ?_)
     go_simp
     refine (HLC.out _ (hrd.cm.img.more (by have := hrd.cm.hs; omega))).mono ?_; rintro e w10 ⟨rfl, hbcw10⟩; have hrc0 := hrd.below hbcw10; have c0_b13 := (hrc0.bcell 13 _ rfl).1; simp only [HN2.out, HNLI.out] at c0_b13; have c0_x0 := hrc0.fx.cell 0 rfl; have c0_x1 := hrc0.fx.cell 1 rfl; have c0_x2 := hrc0.fx.cell 2 rfl; have c0_x3 := hrc0.fx.cell 3 rfl; have c0_x4 := hrc0.fx.cell 4 rfl; have c0_x5 := hrc0.fx.cell 5 rfl; have c0_s0 := hrc0.sp.cell 0 rfl; have c0l_g := hrc0.glt.2; have c0l_x := hrc0.fx.lt; have c0l_s := hrc0.sp.lt
     refine hK.out _ _ (by (try dsimp only); exact ⟨c0_b13, c0_x0, c0_x1, c0_x2, c0_x3, c0_x4, c0_x5, c0_s0⟩) (fun zH => ?_); clear hK K; (try simp only [putE]); refine wpW_one 12 rfl (by kernel_rfl) (fun K hK => ?_)
     go_simp
     have hra := hrc0.below (show Below _ w10 (w10.alloc (.cells #[.int .i64 lnv] 3)) from (Below.refl _ _).alloc lr' _); have a_b13 := (hra.bcell 13 _ rfl).1; simp only [HN2.out, HNLI.out] at a_b13; have a_x0 := hra.fx.cell 0 rfl; have a_x1 := hra.fx.cell 1 rfl; have a_x2 := hra.fx.cell 2 rfl; have a_x3 := hra.fx.cell 3 rfl; have a_x4 := hra.fx.cell 4 rfl; have a_x5 := hra.fx.cell 5 rfl; have a_s0 := hra.sp.cell 0 rfl; have al_g := hra.glt.2; have al_x := hra.fx.lt; have al_s := hra.sp.lt; have hrow := (hra.cm.cu _ (List.mem_singleton.2 rfl)).lines
     simp only [HNLI.out] at hrow; have hH3 : H2 ≤ (w10.alloc (.cells #[.int .i64 lnv] 3)).heap.size := hra.cm.hs.2.2.2.2.2.2.2.2; refine hK.out _ _ (by (try dsimp only); exact ⟨a_b13, a_x0, a_x1, a_x2, a_x3, a_x4, a_x5, a_s0⟩) (fun zH => ?_); clear hK K; (try simp only [putE]); refine wpW_one 13 rfl (by kernel_rfl) (fun K hK => ?_)
     refine step_app_one rfl _ _ 27 3 1 8 _ Tryz.underlying27 infoIntC rfl (by decide) rfl H2 _ nli _ rfl hrow w10.heap.size 1 rfl [.int .i64 lnv] 3 (0, 0) (heap_alloc_new (w10) _) rfl (by simp [Value.oneCell']) (by omega) (by omega) hH3 (w10.heap.size + 1) (by simp) (fun gl cl w3 ho3 hgr3 hat3 hlt3 => ?_); have hty3 : ∀ q, _ = some q → TypB (w10.alloc (.cells #[.int .i64 lnv] 3)) q 3 := fun q e => own_typ hrow e
     have b_b13 := (hra.gcell hgr3 hty3 (by decide) 13 _ rfl).1; simp only [HN2.out, HNLI.out] at b_b13; have b_x0 := (hra.fx.keepT hgr3 hty3 (by decide)).cell 0 rfl; have b_x1 := (hra.fx.keepT hgr3 hty3 (by decide)).cell 1 rfl; have b_x2 := (hra.fx.keepT hgr3 hty3 (by decide)).cell 2 rfl; have b_x3 := (hra.fx.keepT hgr3 hty3 (by decide)).cell 3 rfl; have b_x4 := (hra.fx.keepT hgr3 hty3 (by decide)).cell 4 rfl; have b_x5 := (hra.fx.keepT hgr3 hty3 (by decide)).cell 5 rfl; have b_s0 := (hra.sp.keepT hgr3 hty3 (by decide)).cell 0 rfl; have hgc := hra.gcell hgr3 hty3 (by decide) 13 _ rfl
     simp only [HN2.out, HNLI.out] at hgc; have b_f := hgc.2.1; have b_l := hgc.2.2; refine hK.out _ _ (by (try dsimp only); exact ⟨b_b13, b_x0, b_x1, b_x2, b_x3, b_x4, b_x5, b_s0⟩) (fun zH => ?_); clear hK K; (try simp only [putE]); refine wpW_one 14 rfl (by kernel_rfl) (fun K hK => ?_)
     go_simp
     refine hK.out _ _ (by (try dsimp only); exact ⟨b_b13, b_x0, b_x1, b_x2, b_x3, b_x4, b_x5, b_s0⟩) (fun zH => ?_); clear hK K; (try simp only [putE]); refine wpW_one 15 rfl (by kernel_rfl) (fun K hK => ?_)
     go_simp
     refine hK.out _ _ (by (try dsimp only); exact ⟨b_b13, b_x0, b_x1, b_x2, b_x3, b_x4, b_x5, b_s0⟩) (fun zH => ?_); clear hK K; (try simp only [putE]); refine wpW_last 16 rfl (by kernel_rfl) (by decide) (fun K hK => ?_)
     go_simp
     refine hK.out _ _ ?_; clear hK K; (try simp only [putE]); refine wpW_done (by kernel_rfl) ?_ _; have hrn := hra.addLn (g2 := gl) (c2 := cl) (p := lnv) (by simp only [HNLI.out]; exact ho3) (by simp only [HNLI.out]; exact hgr3) (by simp only [HNLI.out]; rcases hat3 with h | h; exact .inl h; exact .inr (by simp; omega)); simp only [HN2.out, HNLI.out] at hrn; obtain ⟨W10, hWo⟩ := ex' (w3.setCell ⟨gb, n2 * 14 + 13, none⟩ (.slice (some ⟨gl, 0, none⟩) (nli + 1) cl))
     have HR10 : Hid (RnS W0 W10 B H0 H2 X b5 m v (some ⟨ab, ao, none⟩) ac all vs o L k gb bc2 (some ⟨g2, 0, none⟩) c2 n nk2 ld bm2 ds2 ((⟨xfn, xst, xco, (xat ++ [p]), ⟨lk, ldd, la, lb, ln, ll⟩, xen, xds, xel, (xli ++ [lnv])⟩ : BlkD), (⟨cA, cc, (some ⟨ga, 0, none⟩), ca, (some ⟨gl, 0, none⟩), cl⟩ : BlkV)) (fs ++ [(nb : Int)]) tV ⟨p, z, ⟨ik, id, ia, ib, inn, il⟩⟩) := hd' (by rw [← hWo]; exact hrn); rw [hWo]
     clear hrn hrd yl_g yl_x yl_s hH2 hra hrow al_g al_x al_s hH3 ho3 hgr3 hat3 hlt3 hty3 hgc b_f b_l hWo y_b13 y_x0 y_x1 y_x2 y_x3 y_x4 y_x5 y_s0 c0_b13 c0_x0 c0_x1 c0_x2 c0_x3 c0_x4 c0_x5 c0_s0 a_b13 a_x0 a_x1 a_x2 a_x3 a_x4 a_x5 a_s0 b_b13 b_x0 b_x1 b_x2 b_x3 b_x4 b_x5 b_s0 hrc0 c0l_g c0l_x c0l_s
     have HEND : Hid (∀ (W : World) (y : BlkD) (yv : BlkV), Hid (RnS W0 W B H0 H2 X b5 m v (some ⟨ab, ao, none⟩) ac all vs o L k gb bc2 (some ⟨g2, 0, none⟩) c2 n nk2 ld bm2 ds2 (y, yv) (fs ++ [(nb : Int)]) tV ⟨p, z, ⟨ik, id, ia, ib, inn, il⟩⟩) → addB m ⟨p, z, ⟨ik, id, ia, ib, inn, il⟩⟩ ⟨xfn, xst, xco, xat, ⟨lk, ldd, la, lb, ln, ll⟩, xen, xds, xel, xli⟩ = y → (y.code.length ≤ j + 1 ∧ y.ats.length ≤ j + 1 ∧ y.lines.length ≤ j + 1) →
      Hid (Blk W X 112 (finC m v (some ⟨ab, ao, none⟩) all.length ac o L k [.slice (some ⟨gb, 0, none⟩) (ds2 ++ [(y, yv)]).length bc2, tV, .slice (some ⟨g2, 0, none⟩) (nfs + 1) c2])) ∧ Hid (CutM W0 W B H0 H2 X m v (some ⟨ab, ao, none⟩) ac all vs L k (some ⟨gb, 0, none⟩) bc2 (some ⟨g2, 0, none⟩) c2 n nk2 ld bm2 ds2 [(y, yv)] (fs ++ [(nb : Int)])) ∧
      Hid (finCut m ld (f : Int) (sp.take (j + 1)) ⟨ds.map Prod.fst, bm⟩ = ⟨(ds2 ++ [(y, yv)]).map Prod.fst, bm2⟩) ∧ Hid ([(y, yv)].length ≤ 1 ∧ (0 < j + 1 → [(y, yv)].length = 1)) ∧ (ds2 ++ [(y, yv)]).length ≤ nb + (j + 1) ∧ Hid (∀ x ∈ [(y, yv)], x.1.code.length ≤ j + 1 ∧ x.1.ats.length ≤ j + 1 ∧ x.1.lines.length ≤ j + 1)) := hd' fun W y yv hr hy hbd => by
      refine ⟨hd' ?_, hd' hr.out.cm, hd' ?_, hd' ⟨Nat.le_refl _, fun _ => rfl⟩, ?_, hd' fun x hx => ?_⟩
      · have h := hr.out.fx; rw [HFL.out] at h; rw [List.length_append, List.length_singleton]; exact h
      · rw [HNX.out]; unfold cutS; rw [HBE.out]; simp only [List.map_append, List.map_cons, List.map_nil]; rw [modLast_snoc, hy]
      · rw [List.length_append, List.length_singleton, HN2.out]; omega
      · rw [List.mem_singleton] at hx; subst hx; exact hbd
     have hwt : IntKind.i64.wrap (p + inn) = p + inn := IntWalk.i64_in _ (by omega); have hwz : IntKind.i64.wrap (p + z) = p + z := IntWalk.i64_in _ (by omega)
     have hli1 : (xat ++ [p]).length ≤ j + 1 ∧ (xli ++ [lnv]).length ≤ j + 1 := by
      rw [List.length_append, List.length_append, HNAT.out, HNLI.out]; exact ⟨Nat.succ_le_succ hba, Nat.succ_le_succ hbl⟩
     have HLI := hd' hli1; clear hli1 HR9 HBE HNX; have hrd := HR10.out; have s2 := hrd.sp.cell 2 rfl; have s3 := hrd.sp.cell 3 rfl; have s4 := hrd.sp.cell 4 rfl; have s5 := hrd.sp.cell 5 rfl; have s6 := hrd.sp.cell 6 rfl; have s7 := hrd.sp.cell 7 rfl; have yl_s := hrd.sp.lt; clear hrd; obtain ⟨br, hbr⟩ := ex' (branchI ⟨ik, id, ia, ib, inn, il⟩)
     have HBRC : Hid (∀ W, Calls Tryz.prog 85 #[.agg #[.int .i64 ik, .int .i64 id, .int .i64 ia, .int .i64 ib, .int .i64 inn, .bool il]] W fun e w' => e = .returned (.bool br) ∧ Below W.heap.size W w') := hd' fun W => by
      rw [← hbr]; exact branch_any ik id ia ib inn il W
     have HBR := hd' hbr; clear hbr
     go_wp2_with fail
     refine (HBRC.out _).mono ?_; rintro e w11 ⟨rfl, hb11⟩; have HR11 := hd' (HR10.out.below hb11); clear hb11 s2 s3 s4 s5 s6 s7 yl_s HR10 HBRC
     cases br
     · skip
       have HBRF := HBR; have hrd := HR11.out; have s2 := hrd.sp.cell 2 rfl; have yl_s := hrd.sp.lt; clear hrd
       by_cases hk22 : ik = 22
       · have q1 : (ik == 22) = true := by simpa using hk22
         have HK22 := hd' hk22; clear hk22
         go_upto_region 18 with fail
         clear q1 s2 yl_s
         skip
         have hrd := HR11.out.below (Below.refl _ _).drew; have y_s0 := hrd.sp.cell 0 rfl; have y_s6 := hrd.sp.cell 6 rfl; obtain ⟨w10, wf10⟩ := hrd.bcell 10 _ rfl; simp only [HN2.out] at w10 wf10; have yl_g := hrd.glt.2; have yl_s := hrd.sp.lt; have hne := hrd.neS
         go_upto_region 18 with fail
         refine wp_region_W (fun w' => w'.cell? ⟨b5, 0, none⟩ = some (.int .i64 p) ∧ w'.cell? ⟨b5, 6, none⟩ = some (.int .i64 inn)) 11 (by kernel_rfl) (by (try dsimp only); go_keep) (fun zH => ?_); refine wq 0 zH ?_; refine wq 1 zH ?_; refine wq 2 zH ?_; refine wq 3 zH ?_; refine wq 4 zH ?_; refine wq 5 zH ?_; refine wq 6 zH ?_; refine wq 7 zH ?_
         refine wq 8 zH ?_; refine wq 9 zH ?_; refine wpW_one 10 rfl (by kernel_rfl) (fun K hK => ?_)
         go_simp
         have hr0 := hrd.set (⟨xfn, xst, xco, (xat ++ [p]), ⟨lk, ldd, la, lb, ln, ll⟩, 3, xds, xel, (xli ++ [lnv])⟩) rfl rfl rfl 10 (by decide) (.int .i64 3) rfl; simp only [HN2.out] at hr0; obtain ⟨V1, hV1⟩ := ex' ((w11.setCell ⟨gb, n2 * 14 + 10, none⟩ (.int .i64 3)).drew)
         have hr1 : RnS W0 V1 B H0 H2 X b5 m v (some ⟨ab, ao, none⟩) ac all vs o L k gb bc2 (some ⟨g2, 0, none⟩) c2 n nk2 ld bm2 ds2 ((⟨xfn, xst, xco, (xat ++ [p]), ⟨lk, ldd, la, lb, ln, ll⟩, 3, xds, xel, (xli ++ [lnv])⟩ : BlkD), (⟨cA, cc, (some ⟨ga, 0, none⟩), ca, (some ⟨gl, 0, none⟩), cl⟩ : BlkV)) (fs ++ [(nb : Int)]) tV ⟨p, z, ⟨ik, id, ia, ib, inn, il⟩⟩ := by rw [← hV1]; exact hr0
         rw [hV1]; have a_s0 := hr1.sp.cell 0 rfl; have a_s6 := hr1.sp.cell 6 rfl; obtain ⟨bb11, bbf11⟩ := hr1.bcell 11 _ rfl; simp only [HN2.out] at bb11 bbf11; have al_g := hr1.glt.2; have al_s := hr1.sp.lt; refine hK.out _ _ (by (try dsimp only); exact ⟨a_s0, a_s6⟩) (fun zH => ?_); clear hK K; (try simp only [putE]); refine wpW_last 11 rfl (by kernel_rfl) (by decide) (fun K hK => ?_)
         go_simp
         refine hK.out _ _ ?_; clear hK K; (try simp only [putE]); refine wpW_last 12 rfl (by kernel_rfl) (by decide) (fun K hK => ?_)
         go_simp
         refine hK.out _ _ ?_; clear hK K; (try simp only [putE]); refine wpW_last 13 rfl (by kernel_rfl) (by decide) (fun K hK => ?_)
         go_simp
         refine hK.out _ _ ?_; clear hK K; (try simp only [putE]); refine wpW_done (by kernel_rfl) ?_ _; have hr2 := (RnS.set hr1 (⟨xfn, xst, xco, (xat ++ [p]), ⟨lk, ldd, la, lb, ln, ll⟩, 3, (p + inn), xel, (xli ++ [lnv])⟩) rfl rfl rfl 11 (by decide) (.int .i64 (p + inn)) rfl)
         simp only [HN2.out] at hr2; obtain ⟨W12, hVo⟩ := ex' ((V1.setCell ⟨gb, n2 * 14 + 11, none⟩ (.int .i64 (p + inn))))
         have HR12 : Hid (RnS W0 W12 B H0 H2 X b5 m v (some ⟨ab, ao, none⟩) ac all vs o L k gb bc2 (some ⟨g2, 0, none⟩) c2 n nk2 ld bm2 ds2 ((⟨xfn, xst, xco, (xat ++ [p]), ⟨lk, ldd, la, lb, ln, ll⟩, 3, (p + inn), xel, (xli ++ [lnv])⟩ : BlkD), (⟨cA, cc, (some ⟨ga, 0, none⟩), ca, (some ⟨gl, 0, none⟩), cl⟩ : BlkV)) (fs ++ [(nb : Int)]) tV ⟨p, z, ⟨ik, id, ia, ib, inn, il⟩⟩) := hd' (by rw [← hVo]; exact hr2); rw [hVo]; clear hrd hr0 hr1 hr2 hV1 hVo yl_g yl_s hne al_g al_s w10 wf10 y_s0 y_s6 a_s0 a_s6 bb11 bbf11 HR11
         obtain ⟨e1, e2, e3, e4, e5, e6⟩ := HEND.out _ _ _ HR12 (by
          unfold addB; rw [if_neg (by rw [HBR.out]; decide), if_pos HK22.out]; simp only
          rw [HLN.out]) (by exact ⟨Nat.le_succ_of_le (by rw [HNCO.out]; exact hbc), HLI.out⟩)
         go_wp2
         go_roundg (sl - (j + 1))
         case measure => omega
         case rel => exact ⟨j + 1, nk2, _, bc2, H2, ds2, _, bm2, by omega, by go_num, by omega, e1, e2, e3, e4, e5, e6, Nat.le_refl _⟩
       · skip
         have q1 : (ik == 22) = false := by simpa using hk22
         go_upto_region 10 with fail
         clear s2 yl_s; obtain ⟨pn, hpn⟩ := ex' ((finPl m.funcs ⟨p, z, ⟨ik, id, ia, ib, inn, il⟩⟩).n)
         have HFP : Hid (finPl m.funcs ⟨p, z, ⟨ik, id, ia, ib, inn, il⟩⟩ = ⟨ik, id, ia, ib, pn, il⟩) := hd' (by
          rw [← hpn]; unfold finPl
          split <;> rfl)
         have HPL : Hid (∀ W, X < W.heap.size → W.cell? ⟨X, 1, none⟩ = some (.slice v.fA m.funcs.length v.fc) → RdG W W.heap.size v.fA (funcsV m.funcs) → Calls Tryz.prog 91 #[.pointer (some ⟨X, 0, none⟩), .agg #[.int .i64 p, .int .i64 z, .int .i64 ik, .int .i64 id, .int .i64 ia, .int .i64 ib, .int .i64 inn, .bool il]] W fun e w' => e = .returned (.agg #[.int .i64 ik, .int .i64 id, .int .i64 ia, .int .i64 ib, .int .i64 pn, .bool il]) ∧ Below W.heap.size W w') := hd' fun W h1 h2 h3 => by
          rw [← hpn]; exact fin_plain X v.fA v.fc m.funcs p z ik id ia ib inn il W h1 h2 h3 HO.out.fl hwt
         have HK22 := hd' hk22; clear hpn q1 hk22; have hrd := HR11.out.below (Below.refl _ _).drew; have y_b2 := (hrd.bcell 2 _ rfl).1; simp only [HN2.out, HNCO.out] at y_b2; have y_x1 := hrd.fx.cell 1 rfl; have y_s0 := hrd.sp.cell 0 rfl; have y_s1 := hrd.sp.cell 1 rfl; have y_s2 := hrd.sp.cell 2 rfl; have y_s3 := hrd.sp.cell 3 rfl; have y_s4 := hrd.sp.cell 4 rfl; have y_s5 := hrd.sp.cell 5 rfl; have y_s6 := hrd.sp.cell 6 rfl; have y_s7 := hrd.sp.cell 7 rfl; have yl_g := hrd.glt.2; have yl_x := hrd.fx.lt; have yl_s := hrd.sp.lt
         have hH2 : H2 ≤ w11.heap.size := by have := HR11.out.cm.hs; omega
         go_upto_region 10 with fail
         refine wp_region_W (fun w' => w'.cell? ⟨gb, n2 * 14 + 2, none⟩ = some ((.slice cA nco cc)) ∧ w'.cell? ⟨X, 1, none⟩ = some (.slice v.fA m.funcs.length v.fc) ∧ w'.cell? ⟨b5, 0, none⟩ = some (.int .i64 p) ∧ w'.cell? ⟨b5, 1, none⟩ = some (.int .i64 z) ∧ w'.cell? ⟨b5, 2, none⟩ = some (.int .i64 ik) ∧ w'.cell? ⟨b5, 3, none⟩ = some (.int .i64 id) ∧ w'.cell? ⟨b5, 4, none⟩ = some (.int .i64 ia) ∧ w'.cell? ⟨b5, 5, none⟩ = some (.int .i64 ib) ∧ w'.cell? ⟨b5, 6, none⟩ = some (.int .i64 inn) ∧ w'.cell? ⟨b5, 7, none⟩ = some (.bool il)) 12 (by kernel_rfl) (by (try dsimp only); go_keep) (fun zH => ?_)
         refine wq 0 zH ?_; refine wq 1 zH ?_; refine wq 2 zH ?_; refine wq 3 zH ?_; refine wq 4 zH ?_; refine wq 5 zH ?_; refine wq 6 zH ?_; refine wpW_one 7 rfl (by kernel_rfl) (fun K hK => ?_)
         go_simp
         refine (HPL.out _ hrd.fx.lt y_x1 (hrd.cm.img.more (by have := hrd.cm.hs; omega)).funcs).mono ?_; rintro e w12 ⟨rfl, hbcw12⟩; have hrc0 := hrd.below hbcw12; have c0_b2 := (hrc0.bcell 2 _ rfl).1; simp only [HN2.out, HNCO.out] at c0_b2; have c0_x1 := hrc0.fx.cell 1 rfl; have c0_s0 := hrc0.sp.cell 0 rfl; have c0_s1 := hrc0.sp.cell 1 rfl; have c0_s2 := hrc0.sp.cell 2 rfl; have c0_s3 := hrc0.sp.cell 3 rfl; have c0_s4 := hrc0.sp.cell 4 rfl; have c0_s5 := hrc0.sp.cell 5 rfl; have c0_s6 := hrc0.sp.cell 6 rfl; have c0_s7 := hrc0.sp.cell 7 rfl; have c0l_g := hrc0.glt.2; have c0l_x := hrc0.fx.lt
         have c0l_s := hrc0.sp.lt; refine hK.out _ _ (by (try dsimp only); exact ⟨c0_b2, c0_x1, c0_s0, c0_s1, c0_s2, c0_s3, c0_s4, c0_s5, c0_s6, c0_s7⟩) (fun zH => ?_); clear hK K; (try simp only [putE]); refine wpW_one 8 rfl (by kernel_rfl) (fun K hK => ?_)
         go_simp
         have hra := hrc0.below (show Below _ w12 (w12.alloc (.cells #[.int .i64 ik, .int .i64 id, .int .i64 ia, .int .i64 ib, .int .i64 pn, .bool il] 52)) from (Below.refl _ _).alloc lr' _); have a_b2 := (hra.bcell 2 _ rfl).1; simp only [HN2.out, HNCO.out] at a_b2; have a_x1 := hra.fx.cell 1 rfl; have a_s0 := hra.sp.cell 0 rfl; have a_s1 := hra.sp.cell 1 rfl; have a_s2 := hra.sp.cell 2 rfl; have a_s3 := hra.sp.cell 3 rfl; have a_s4 := hra.sp.cell 4 rfl; have a_s5 := hra.sp.cell 5 rfl; have a_s6 := hra.sp.cell 6 rfl; have a_s7 := hra.sp.cell 7 rfl; have al_g := hra.glt.2
         have al_x := hra.fx.lt; have al_s := hra.sp.lt; have hrow := (hra.cm.cu _ (List.mem_singleton.2 rfl)).code; simp only [HNCO.out] at hrow; have hH3 : H2 ≤ (w12.alloc (.cells #[.int .i64 ik, .int .i64 id, .int .i64 ia, .int .i64 ib, .int .i64 pn, .bool il] 52)).heap.size := hra.cm.hs.2.2.2.2.2.2.2.2; refine hK.out _ _ (by (try dsimp only); exact ⟨a_b2, a_x1, a_s0, a_s1, a_s2, a_s3, a_s4, a_s5, a_s6, a_s7⟩) (fun zH => ?_); clear hK K; (try simp only [putE]); refine wpW_one 9 rfl (by kernel_rfl) (fun K hK => ?_)
         refine step_app_one rfl _ _ 50 52 6 48 _ Tryz.underlying50 infoInsC rfl (by decide) rfl H2 _ nco _ rfl hrow w12.heap.size 1 rfl [.int .i64 ik, .int .i64 id, .int .i64 ia, .int .i64 ib, .int .i64 pn, .bool il] 52 (0, 0) (heap_alloc_new (w12) _) rfl (by simp [Value.oneCell']) (by omega) (by omega) hH3 (w12.heap.size + 1) (by simp) (fun gc cc2 w3 ho3 hgr3 hat3 hlt3 => ?_)
         have hty3 : ∀ q, _ = some q → TypB (w12.alloc (.cells #[.int .i64 ik, .int .i64 id, .int .i64 ia, .int .i64 ib, .int .i64 pn, .bool il] 52)) q 52 := fun q e => own_typ hrow e
         have b_b2 := (hra.gcell hgr3 hty3 (by decide) 2 _ rfl).1; simp only [HN2.out, HNCO.out] at b_b2; have b_x1 := (hra.fx.keepT hgr3 hty3 (by decide)).cell 1 rfl; have b_s0 := (hra.sp.keepT hgr3 hty3 (by decide)).cell 0 rfl; have b_s1 := (hra.sp.keepT hgr3 hty3 (by decide)).cell 1 rfl; have b_s2 := (hra.sp.keepT hgr3 hty3 (by decide)).cell 2 rfl; have b_s3 := (hra.sp.keepT hgr3 hty3 (by decide)).cell 3 rfl; have b_s4 := (hra.sp.keepT hgr3 hty3 (by decide)).cell 4 rfl; have b_s5 := (hra.sp.keepT hgr3 hty3 (by decide)).cell 5 rfl; have b_s6 := (hra.sp.keepT hgr3 hty3 (by decide)).cell 6 rfl
         have b_s7 := (hra.sp.keepT hgr3 hty3 (by decide)).cell 7 rfl; have hgc := hra.gcell hgr3 hty3 (by decide) 2 _ rfl; simp only [HN2.out, HNCO.out] at hgc; have b_f := hgc.2.1; have b_l := hgc.2.2; refine hK.out _ _ (by (try dsimp only); exact ⟨b_b2, b_x1, b_s0, b_s1, b_s2, b_s3, b_s4, b_s5, b_s6, b_s7⟩) (fun zH => ?_); clear hK K; (try simp only [putE]); refine wpW_one 10 rfl (by kernel_rfl) (fun K hK => ?_)
         go_simp
         refine hK.out _ _ (by (try dsimp only); exact ⟨b_b2, b_x1, b_s0, b_s1, b_s2, b_s3, b_s4, b_s5, b_s6, b_s7⟩) (fun zH => ?_); clear hK K; (try simp only [putE]); refine wpW_one 11 rfl (by kernel_rfl) (fun K hK => ?_)
         go_simp
         refine hK.out _ _ (by (try dsimp only); exact ⟨b_b2, b_x1, b_s0, b_s1, b_s2, b_s3, b_s4, b_s5, b_s6, b_s7⟩) (fun zH => ?_); clear hK K; (try simp only [putE]); refine wpW_last 12 rfl (by kernel_rfl) (by decide) (fun K hK => ?_)
         go_simp
         refine hK.out _ _ ?_; clear hK K; (try simp only [putE]); refine wpW_done (by kernel_rfl) ?_ _; have hrn := hra.addCo (g2 := gc) (c2 := cc2) (i := ⟨ik, id, ia, ib, pn, il⟩) (by simp only [HNCO.out]; exact ho3) (by simp only [HNCO.out]; exact hgr3); simp only [HN2.out, HNCO.out] at hrn; obtain ⟨W13, hWo⟩ := ex' (w3.setCell ⟨gb, n2 * 14 + 2, none⟩ (.slice (some ⟨gc, 0, none⟩) (nco + 1) cc2))
         have HR13 : Hid (RnS W0 W13 B H0 H2 X b5 m v (some ⟨ab, ao, none⟩) ac all vs o L k gb bc2 (some ⟨g2, 0, none⟩) c2 n nk2 ld bm2 ds2 ((⟨xfn, xst, (xco ++ [⟨ik, id, ia, ib, pn, il⟩]), (xat ++ [p]), ⟨lk, ldd, la, lb, ln, ll⟩, xen, xds, xel, (xli ++ [lnv])⟩ : BlkD), (⟨(some ⟨gc, 0, none⟩), cc2, (some ⟨ga, 0, none⟩), ca, (some ⟨gl, 0, none⟩), cl⟩ : BlkV)) (fs ++ [(nb : Int)]) tV ⟨p, z, ⟨ik, id, ia, ib, inn, il⟩⟩) := hd' (by rw [← hWo]; exact hrn); rw [hWo]
         clear hrn hrd yl_g yl_x yl_s hH2 hra hrow al_g al_x al_s hH3 ho3 hgr3 hat3 hlt3 hty3 hgc b_f b_l hWo y_b2 y_x1 y_s0 y_s1 y_s2 y_s3 y_s4 y_s5 y_s6 y_s7 c0_b2 c0_x1 c0_s0 c0_s1 c0_s2 c0_s3 c0_s4 c0_s5 c0_s6 c0_s7 a_b2 a_x1 a_s0 a_s1 a_s2 a_s3 a_s4 a_s5 a_s6 a_s7 b_b2 b_x1 b_s0 b_s1 b_s2 b_s3 b_s4 b_s5 b_s6 b_s7 hrc0 c0l_g c0l_x c0l_s
         have hco1 : (xco ++ [(⟨ik, id, ia, ib, pn, il⟩ : Ins)]).length ≤ j + 1 := by
          rw [List.length_append, HNCO.out]; exact Nat.succ_le_succ hbc
         have HCO := hd' hco1; clear HR11 HPL hco1; have hrd := HR13.out; have s0 := hrd.sp.cell 0 rfl; have s1 := hrd.sp.cell 1 rfl; have s2 := hrd.sp.cell 2 rfl; have s3 := hrd.sp.cell 3 rfl; have s4 := hrd.sp.cell 4 rfl; have s5 := hrd.sp.cell 5 rfl; have s6 := hrd.sp.cell 6 rfl; have s7 := hrd.sp.cell 7 rfl; obtain ⟨w11, wf11⟩ := hrd.bcell 11 _ rfl; simp only [HN2.out] at w11 wf11; have yl_g := hrd.glt.2; have yl_s := hrd.sp.lt; have hne := hrd.neS
         have hr0 := hrd.set (⟨xfn, xst, (xco ++ [⟨ik, id, ia, ib, pn, il⟩]), (xat ++ [p]), ⟨lk, ldd, la, lb, ln, ll⟩, xen, (p + z), xel, (xli ++ [lnv])⟩) rfl rfl rfl 11 (by decide) (.int .i64 (p + z)) rfl; simp only [HN2.out] at hr0; obtain ⟨W14, hW14⟩ := ex' (W13.setCell ⟨gb, n2 * 14 + 11, none⟩ (.int .i64 (p + z)))
         have HR14 : Hid (RnS W0 W14 B H0 H2 X b5 m v (some ⟨ab, ao, none⟩) ac all vs o L k gb bc2 (some ⟨g2, 0, none⟩) c2 n nk2 ld bm2 ds2 ((⟨xfn, xst, (xco ++ [⟨ik, id, ia, ib, pn, il⟩]), (xat ++ [p]), ⟨lk, ldd, la, lb, ln, ll⟩, xen, (p + z), xel, (xli ++ [lnv])⟩ : BlkD), (⟨(some ⟨gc, 0, none⟩), cc2, (some ⟨ga, 0, none⟩), ca, (some ⟨gl, 0, none⟩), cl⟩ : BlkV)) (fs ++ [(nb : Int)]) tV ⟨p, z, ⟨ik, id, ia, ib, inn, il⟩⟩) := hd' (by rw [← hW14]; exact hr0); clear hrd hr0
         go_upto_region 12 with fail
         clear hW14 s0 s1 s2 s3 s4 s5 s6 s7 w11 wf11 yl_g yl_s hne HR13; have hrd := HR14.out; have s2 := hrd.sp.cell 2 rfl; have s3 := hrd.sp.cell 3 rfl; have s4 := hrd.sp.cell 4 rfl; have s5 := hrd.sp.cell 5 rfl; have s6 := hrd.sp.cell 6 rfl; have s7 := hrd.sp.cell 7 rfl; have yl_s := hrd.sp.lt; clear hrd; obtain ⟨st, hst⟩ := ex' (stopsI ⟨ik, id, ia, ib, inn, il⟩)
         have HSTC : Hid (∀ W, Calls Tryz.prog 84 #[.agg #[.int .i64 ik, .int .i64 id, .int .i64 ia, .int .i64 ib, .int .i64 inn, .bool il]] W fun e w' => e = .returned (.bool st) ∧ Below W.heap.size W w') := hd' fun W => by
          rw [← hst]; exact stops_any ik id ia ib inn il W
         have HST := hd' hst; clear hst
         go_wp2_with fail
         refine (HSTC.out _).mono ?_; rintro e w15 ⟨rfl, hb15⟩; have HR15 := hd' (HR14.out.below hb15); clear hb15 s2 s3 s4 s5 s6 s7 yl_s HR14 HSTC
         cases st
         · skip
           obtain ⟨e1, e2, e3, e4, e5, e6⟩ := HEND.out _ _ _ HR15 (by
            unfold addB; rw [if_neg (by rw [HBR.out]; decide), if_neg HK22.out, if_neg (by rw [HST.out]; decide)]; simp only
            rw [HLN.out, HFP.out]) (by exact ⟨HCO.out, HLI.out⟩)
           go_wp2
           go_roundg (sl - (j + 1))
           case measure => omega
           case rel => exact ⟨j + 1, nk2, _, bc2, H2, ds2, _, bm2, by omega, by go_num, by omega, e1, e2, e3, e4, e5, e6, Nat.le_refl _⟩
         · skip
           have hrd := HR15.out; obtain ⟨w10, wf10⟩ := hrd.bcell 10 _ rfl; simp only [HN2.out] at w10 wf10; obtain ⟨w11, wf11⟩ := hrd.bcell 11 _ rfl; simp only [HN2.out] at w11 wf11; have yl_g := hrd.glt.2; have hr0 := (hrd.set (⟨xfn, xst, (xco ++ [⟨ik, id, ia, ib, pn, il⟩]), (xat ++ [p]), ⟨lk, ldd, la, lb, ln, ll⟩, 1, (p + z), xel, (xli ++ [lnv])⟩) rfl rfl rfl 10 (by decide) (.int .i64 1) rfl).set (⟨xfn, xst, (xco ++ [⟨ik, id, ia, ib, pn, il⟩]), (xat ++ [p]), ⟨lk, ldd, la, lb, ln, ll⟩, 1, 0, xel, (xli ++ [lnv])⟩) rfl rfl rfl 11 (by decide) (.int .i64 0) rfl; simp only [HN2.out] at hr0
           have HR16 := hd' hr0; clear hrd hr0
           obtain ⟨e1, e2, e3, e4, e5, e6⟩ := HEND.out _ _ _ HR16 (by
            unfold addB; rw [if_neg (by rw [HBR.out]; decide), if_neg HK22.out, if_pos HST.out]; simp only
            rw [HLN.out, HFP.out]) (by exact ⟨HCO.out, HLI.out⟩)
           go_wp2
           go_roundg (sl - (j + 1))
           case measure => omega
           case rel => exact ⟨j + 1, nk2, _, bc2, H2, ds2, _, bm2, by omega, by go_num, by omega, e1, e2, e3, e4, e5, e6, Nat.le_refl _⟩
     · skip
       have hrd := HR11.out.below (Below.refl _ _).drew; have y_s2 := hrd.sp.cell 2 rfl; have y_s4 := hrd.sp.cell 4 rfl; have y_s5 := hrd.sp.cell 5 rfl; obtain ⟨w10, wf10⟩ := hrd.bcell 10 _ rfl; simp only [HN2.out] at w10 wf10; have yl_g := hrd.glt.2; have yl_s := hrd.sp.lt; have hne := hrd.neS
       go_upto_region 15 with fail
       refine wp_region_W (fun w' => w'.cell? ⟨b5, 2, none⟩ = some (.int .i64 ik) ∧ w'.cell? ⟨b5, 4, none⟩ = some (.int .i64 ia) ∧ w'.cell? ⟨b5, 5, none⟩ = some (.int .i64 ib)) 15 (by kernel_rfl) (by (try dsimp only); go_keep) (fun zH => ?_); refine wq 0 zH ?_; refine wq 1 zH ?_; refine wq 2 zH ?_; refine wq 3 zH ?_; refine wq 4 zH ?_; refine wq 5 zH ?_; refine wq 6 zH ?_
       refine wq 7 zH ?_; refine wq 8 zH ?_; refine wq 9 zH ?_; refine wq 10 zH ?_; refine wq 11 zH ?_; refine wq 12 zH ?_; refine wq 13 zH ?_; refine wpW_one 14 rfl (by kernel_rfl) (fun K hK => ?_)
       go_simp
       have hr0 := hrd.set (⟨xfn, xst, xco, (xat ++ [p]), ⟨lk, ldd, la, lb, ln, ll⟩, 4, xds, xel, (xli ++ [lnv])⟩) rfl rfl rfl 10 (by decide) (.int .i64 4) rfl; simp only [HN2.out] at hr0; obtain ⟨V1, hV1⟩ := ex' ((w11.setCell ⟨gb, n2 * 14 + 10, none⟩ (.int .i64 4)).drew)
       have hr1 : RnS W0 V1 B H0 H2 X b5 m v (some ⟨ab, ao, none⟩) ac all vs o L k gb bc2 (some ⟨g2, 0, none⟩) c2 n nk2 ld bm2 ds2 ((⟨xfn, xst, xco, (xat ++ [p]), ⟨lk, ldd, la, lb, ln, ll⟩, 4, xds, xel, (xli ++ [lnv])⟩ : BlkD), (⟨cA, cc, (some ⟨ga, 0, none⟩), ca, (some ⟨gl, 0, none⟩), cl⟩ : BlkV)) (fs ++ [(nb : Int)]) tV ⟨p, z, ⟨ik, id, ia, ib, inn, il⟩⟩ := by rw [← hV1]; exact hr0
       rw [hV1]; have a_s2 := hr1.sp.cell 2 rfl; have a_s4 := hr1.sp.cell 4 rfl; have a_s5 := hr1.sp.cell 5 rfl; obtain ⟨bb4, bbf4⟩ := hr1.bcell 4 _ rfl; simp only [HN2.out] at bb4 bbf4; obtain ⟨bb5, bbf5⟩ := hr1.bcell 5 _ rfl; simp only [HN2.out] at bb5 bbf5; obtain ⟨bb6, bbf6⟩ := hr1.bcell 6 _ rfl; simp only [HN2.out] at bb6 bbf6; obtain ⟨bb7, bbf7⟩ := hr1.bcell 7 _ rfl; simp only [HN2.out] at bb7 bbf7; obtain ⟨bb8, bbf8⟩ := hr1.bcell 8 _ rfl; simp only [HN2.out] at bb8 bbf8; obtain ⟨bb9, bbf9⟩ := hr1.bcell 9 _ rfl; simp only [HN2.out] at bb9 bbf9; have al_g := hr1.glt.2
       have al_s := hr1.sp.lt; refine hK.out _ _ (by (try dsimp only); exact ⟨a_s2, a_s4, a_s5⟩) (fun zH => ?_); clear hK K; (try simp only [putE]); refine wpW_last 15 rfl (by kernel_rfl) (by decide) (fun K hK => ?_)
       go_simp
       refine hK.out _ _ ?_; clear hK K; (try simp only [putE]); refine wpW_last 16 rfl (by kernel_rfl) (by decide) (fun K hK => ?_)
       go_simp
       refine hK.out _ _ ?_; clear hK K; (try simp only [putE]); refine wpW_last 17 rfl (by kernel_rfl) (by decide) (fun K hK => ?_)
       go_simp
       refine hK.out _ _ ?_; clear hK K; (try simp only [putE]); refine wpW_done (by kernel_rfl) ?_ _
       have hr2 := (RnS.set (RnS.set (RnS.set (RnS.set (RnS.set (RnS.set hr1 (⟨xfn, xst, xco, (xat ++ [p]), ⟨ik, ldd, la, lb, ln, ll⟩, 4, xds, xel, (xli ++ [lnv])⟩) rfl rfl rfl 4 (by decide) (.int .i64 ik) rfl) (⟨xfn, xst, xco, (xat ++ [p]), ⟨ik, 0, la, lb, ln, ll⟩, 4, xds, xel, (xli ++ [lnv])⟩) rfl rfl rfl 5 (by decide) (.int .i64 0) rfl) (⟨xfn, xst, xco, (xat ++ [p]), ⟨ik, 0, ia, lb, ln, ll⟩, 4, xds, xel, (xli ++ [lnv])⟩) rfl rfl rfl 6 (by decide) (.int .i64 ia) rfl) (⟨xfn, xst, xco, (xat ++ [p]), ⟨ik, 0, ia, ib, ln, ll⟩, 4, xds, xel, (xli ++ [lnv])⟩) rfl rfl rfl 7 (by decide) (.int .i64 ib) rfl) (⟨xfn, xst, xco, (xat ++ [p]), ⟨ik, 0, ia, ib, 0, ll⟩, 4, xds, xel, (xli ++ [lnv])⟩) rfl rfl rfl 8 (by decide) (.int .i64 0) rfl) (⟨xfn, xst, xco, (xat ++ [p]), ⟨ik, 0, ia, ib, 0, false⟩, 4, xds, xel, (xli ++ [lnv])⟩) rfl rfl rfl 9 (by decide) (.bool false) rfl)
       simp only [HN2.out] at hr2; obtain ⟨W12, hVo⟩ := ex' (((((((V1.setCell ⟨gb, n2 * 14 + 4, none⟩ (.int .i64 ik)).setCell ⟨gb, n2 * 14 + 4 + 1, none⟩ (.int .i64 0)).setCell ⟨gb, n2 * 14 + 4 + 2, none⟩ (.int .i64 ia)).setCell ⟨gb, n2 * 14 + 4 + 3, none⟩ (.int .i64 ib)).setCell ⟨gb, n2 * 14 + 4 + 4, none⟩ (.int .i64 0)).setCell ⟨gb, n2 * 14 + 4 + 5, none⟩ (.bool false)))
       have HR12 : Hid (RnS W0 W12 B H0 H2 X b5 m v (some ⟨ab, ao, none⟩) ac all vs o L k gb bc2 (some ⟨g2, 0, none⟩) c2 n nk2 ld bm2 ds2 ((⟨xfn, xst, xco, (xat ++ [p]), ⟨ik, 0, ia, ib, 0, false⟩, 4, xds, xel, (xli ++ [lnv])⟩ : BlkD), (⟨cA, cc, (some ⟨ga, 0, none⟩), ca, (some ⟨gl, 0, none⟩), cl⟩ : BlkV)) (fs ++ [(nb : Int)]) tV ⟨p, z, ⟨ik, id, ia, ib, inn, il⟩⟩) := hd' (by rw [← hVo]; exact hr2); rw [hVo]; clear hrd hr0 hr1 hr2 hV1 hVo yl_g yl_s hne al_g al_s w10 wf10 y_s2 y_s4 y_s5 a_s2 a_s4 a_s5 bb4 bb5 bb6 bb7 bb8 bb9 bbf4 bbf5 bbf6 bbf7 bbf8 bbf9 HR11
       have hrd := HR12.out.below (Below.refl _ _).drew; have y_s0 := hrd.sp.cell 0 rfl; have y_s1 := hrd.sp.cell 1 rfl; have y_s6 := hrd.sp.cell 6 rfl; obtain ⟨w11, wf11⟩ := hrd.bcell 11 _ rfl; simp only [HN2.out] at w11 wf11; have yl_g := hrd.glt.2; have yl_s := hrd.sp.lt; have hne := hrd.neS
       go_upto_region 16 with fail
       refine wp_region_W (fun w' => w'.cell? ⟨b5, 0, none⟩ = some (.int .i64 p) ∧ w'.cell? ⟨b5, 1, none⟩ = some (.int .i64 z) ∧ w'.cell? ⟨b5, 6, none⟩ = some (.int .i64 inn)) 16 (by kernel_rfl) (by (try dsimp only); go_keep) (fun zH => ?_); refine wq 0 zH ?_; refine wq 1 zH ?_; refine wq 2 zH ?_; refine wq 3 zH ?_; refine wq 4 zH ?_; refine wq 5 zH ?_; refine wq 6 zH ?_
       refine wq 7 zH ?_; refine wq 8 zH ?_; refine wq 9 zH ?_; refine wq 10 zH ?_; refine wq 11 zH ?_; refine wq 12 zH ?_; refine wq 13 zH ?_; refine wq 14 zH ?_; refine wpW_one 15 rfl (by kernel_rfl) (fun K hK => ?_)
       go_simp
       have hr0 := hrd.set (⟨xfn, xst, xco, (xat ++ [p]), ⟨ik, 0, ia, ib, 0, false⟩, 4, (p + inn), xel, (xli ++ [lnv])⟩) rfl rfl rfl 11 (by decide) (.int .i64 (p + inn)) rfl; simp only [HN2.out] at hr0; obtain ⟨V1, hV1⟩ := ex' ((W12.setCell ⟨gb, n2 * 14 + 11, none⟩ (.int .i64 (p + inn))).drew)
       have hr1 : RnS W0 V1 B H0 H2 X b5 m v (some ⟨ab, ao, none⟩) ac all vs o L k gb bc2 (some ⟨g2, 0, none⟩) c2 n nk2 ld bm2 ds2 ((⟨xfn, xst, xco, (xat ++ [p]), ⟨ik, 0, ia, ib, 0, false⟩, 4, (p + inn), xel, (xli ++ [lnv])⟩ : BlkD), (⟨cA, cc, (some ⟨ga, 0, none⟩), ca, (some ⟨gl, 0, none⟩), cl⟩ : BlkV)) (fs ++ [(nb : Int)]) tV ⟨p, z, ⟨ik, id, ia, ib, inn, il⟩⟩ := by rw [← hV1]; exact hr0
       rw [hV1]; have a_s0 := hr1.sp.cell 0 rfl; have a_s1 := hr1.sp.cell 1 rfl; have a_s6 := hr1.sp.cell 6 rfl; obtain ⟨bb12, bbf12⟩ := hr1.bcell 12 _ rfl; simp only [HN2.out] at bb12 bbf12; have al_g := hr1.glt.2; have al_s := hr1.sp.lt; refine hK.out _ _ (by (try dsimp only); exact ⟨a_s0, a_s1, a_s6⟩) (fun zH => ?_); clear hK K; (try simp only [putE]); refine wpW_last 16 rfl (by kernel_rfl) (by decide) (fun K hK => ?_)
       go_simp
       refine hK.out _ _ ?_; clear hK K; (try simp only [putE]); refine wpW_last 17 rfl (by kernel_rfl) (by decide) (fun K hK => ?_)
       go_simp
       refine hK.out _ _ ?_; clear hK K; (try simp only [putE]); refine wpW_last 18 rfl (by kernel_rfl) (by decide) (fun K hK => ?_)
       go_simp
       refine hK.out _ _ ?_; clear hK K; (try simp only [putE]); refine wpW_done (by kernel_rfl) ?_ _; have hr2 := (RnS.set hr1 (⟨xfn, xst, xco, (xat ++ [p]), ⟨ik, 0, ia, ib, 0, false⟩, 4, (p + inn), (p + z), (xli ++ [lnv])⟩) rfl rfl rfl 12 (by decide) (.int .i64 (p + z)) rfl)
       simp only [HN2.out] at hr2; obtain ⟨W13, hVo⟩ := ex' ((V1.setCell ⟨gb, n2 * 14 + 12, none⟩ (.int .i64 (p + z))))
       have HR13 : Hid (RnS W0 W13 B H0 H2 X b5 m v (some ⟨ab, ao, none⟩) ac all vs o L k gb bc2 (some ⟨g2, 0, none⟩) c2 n nk2 ld bm2 ds2 ((⟨xfn, xst, xco, (xat ++ [p]), ⟨ik, 0, ia, ib, 0, false⟩, 4, (p + inn), (p + z), (xli ++ [lnv])⟩ : BlkD), (⟨cA, cc, (some ⟨ga, 0, none⟩), ca, (some ⟨gl, 0, none⟩), cl⟩ : BlkV)) (fs ++ [(nb : Int)]) tV ⟨p, z, ⟨ik, id, ia, ib, inn, il⟩⟩) := hd' (by rw [← hVo]; exact hr2); rw [hVo]; clear hrd hr0 hr1 hr2 hV1 hVo yl_g yl_s hne al_g al_s w11 wf11 y_s0 y_s1 y_s6 a_s0 a_s1 a_s6 bb12 bbf12 HR12
       obtain ⟨e1, e2, e3, e4, e5, e6⟩ := HEND.out _ _ _ HR13 (by
        unfold addB; rw [if_pos HBR.out]; simp only
        rw [HLN.out]) (by exact ⟨Nat.le_succ_of_le (by rw [HNCO.out]; exact hbc), HLI.out⟩)
       go_wp2
       go_roundg (sl - (j + 1))
       case measure => omega
       case rel => exact ⟨j + 1, nk2, _, bc2, H2, ds2, _, bm2, by omega, by go_num, by omega, e1, e2, e3, e4, e5, e6, Nat.le_refl _⟩
  · obtain rfl : j = sl := by omega
    have hjI : ¬ (j : Int) < (j : Int) := by omega
    have hfc := HCr.out; rw [List.take_of_length_le (by rw [HSL.out]; exact Nat.le_refl _)] at hfc; have HFC := hd' hfc; clear hfc hj hgk hjl
    go_wp2
    go_end0
    refine ⟨rfl, bA', bc', some ⟨g2, 0, none⟩, c2, H', nk', ds', cur', bm', ?_, ?_, HFC.out, HLr.out.1, ?_, ?_⟩
    · have h := HXr.out; rw [HNF.out]; exact h
    · have h := HMr.out; rw [List.length_map, HNB.out]; exact h
    · rw [HSL.out]; exact hnk
    · rw [List.length_map, HNB.out, HSL.out]; exact hdl2
end Go.Proofs.YtcdlgjhdbmmomaaGreatDoor
