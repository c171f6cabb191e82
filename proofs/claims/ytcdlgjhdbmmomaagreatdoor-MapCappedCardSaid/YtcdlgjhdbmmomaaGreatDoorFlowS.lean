/- join, walked. -/
import Derived.Test.YtcdlgjhdbmmomaaGreatDoorFlowJ
import Derived.Test.YtcdlgjhdbmmomaaGreatDoorRegX
import Derived.Deep.DeepCutAuto
import Derived.Deep.CutBlock
import Derived.Deep.LoopGhost
import Derived.Deep.QuietTactic
import Derived.BigQuiet
import Derived.IntWalk
namespace Go.Proofs.YtcdlgjhdbmmomaaGreatDoor
open Go.RowKit Go.Deep
theorem infoIntJ : (Tryz.prog.info? 3).map (fun i => (i.zero, i.size, i.bytes)) = some (some (.int .i64 0), 1, 8) := by kernel_rfl
theorem infoSlJ : (Tryz.prog.info? 27).map (fun i => (i.zero, i.size, i.bytes)) = some (some (.slice none 0 0), 1, 24) := by kernel_rfl
theorem join_step {l l2 : List BlkD} {f : BlkD → BlkD} {i : Nat} {b : BlkD} (h : l2 = (l.take i).map f ++ l.drop i) (hb : l[i]? = some b) : l2.set i (f b) = (l.take (i + 1)).map f ++ l.drop (i + 1) := by
 obtain ⟨hi, rfl⟩ := List.getElem?_eq_some_iff.1 hb; have hl : ((l.take i).map f).length = i := by rw [List.length_map, List.length_take, Nat.min_eq_left (by omega)]
 rw [h, List.set_append_right _ _ (by rw [hl]; exact Nat.le_refl _), hl, Nat.sub_self, List.drop_eq_getElem_cons hi, List.take_succ_eq_append_getElem hi, List.map_append, List.append_assoc]
 rfl
theorem map_fst_set (l : List (BlkD × BlkV)) (i : Nat) (x : BlkD × BlkV) : (l.set i x).map Prod.fst = (l.map Prod.fst).set i x.1 := List.map_set
theorem joinB_1 {bm : Int → Option Int} {b : BlkD} (h : b.ends = 1) : joinB bm b = { b with lines := b.lines ++ [b.lines.getLastD 0] } := by
 simp [joinB, h]
theorem joinB_2 {bm : Int → Option Int} {b : BlkD} (h : b.ends = 2) : joinB bm b = { b with dst := (bm b.dst).getD 0, lines := b.lines ++ [b.lines.getLastD 0] } := by
 simp [joinB, h]
theorem joinB_4 {bm : Int → Option Int} {b : BlkD} (h : b.ends = 4) : joinB bm b = { b with dst := (bm b.dst).getD 0, els := (bm b.els).getD 0 } := by
 simp [joinB, h]
theorem joinB_o {bm : Int → Option Int} {b : BlkD} (h1 : b.ends ≠ 1) (h2 : b.ends ≠ 2) (h4 : b.ends ≠ 4) : joinB bm b = { b with dst := (bm b.dst).getD 0 } := by
 simp [joinB, h1, h2, h4]
def TbR (w : World) (A : Option Addr) (c : Nat) (ts : List (List Int)) : Prop := ∃ tvs : List Value, tvs.length = ts.length ∧ RdN w w.heap.size none 27 A ts.length c tvs ∧ ∀ (j : Nat) (t : List Int), ts[j]? = some t → ∃ a cc, tvs[j]? = some (.slice a t.length cc) ∧ RdN w w.heap.size none 3 a t.length cc (intsV .i64 t)
def tabJ (bm : Int → Option Int) (t : List Int) : List Int := t.map fun a => (bm a).getD 0
def JoinPost (W0 : World) (B H0 X : Nat) (m : Img) (v : ImgV) (aA : Option Addr) (ac : Nat) (all : List (List Sp)) (vs : List Value) (o L k : Nat) (bA : Option Addr) (bc : Nat) (fA : Option Addr) (fc n nk : Nat) (ld : Int → Bool) (bm : Int → Option Int) (ds : List BlkD) (fs : List Int) (e : Ending) (w' : World) : Prop :=
 e = .returned (.tuple #[]) ∧ ∃ (tA : Option Addr) (tc H : Nat) (ds' : List (BlkD × BlkV)), Blk w' X 112 (finC m v aA all.length ac o L k [.slice bA ds'.length bc, .slice tA m.tables.length tc, .slice fA fs.length fc]) ∧
  CutM W0 w' B H0 H X m v aA ac all vs L k bA bc fA fc n nk ld bm ds' [] fs ∧ ds'.map Prod.fst = ds.map (joinB bm) ∧ TbR w' tA tc (m.tables.map (tabJ bm))
set_option maxHeartbeats 16000000 in
set_option maxRecDepth 100000 in
theorem fin_join {W0 : World} {B H0 H X : Nat} {m : Img} {v : ImgV} {aA : Option Addr} {ac : Nat} {all : List (List Sp)} {vs : List Value} {o L k : Nat} {bA : Option Addr} {bc : Nat} {fA : Option Addr} {fc n nk : Nat} {ld : Int → Bool} {bm : Int → Option Int} {ds : List (BlkD × BlkV)} {fs : List Int} (w : World)
 (hX : Blk w X 112 (finC m v aA all.length ac o L k [.slice bA ds.length bc, .slice none 0 0, .slice fA fs.length fc])) (hC : CutM W0 w B H0 H X m v aA ac all vs L k bA bc fA fc n nk ld bm ds [] fs) (hok : ∀ x ∈ ds, BlkOk 1000000 x.1) (hdl : ds.length ≤ 1000000) (hO : ImgOk m v) (hTB : m.tables.length ≤ 20 ∧ ∀ t ∈ m.tables, t.length ≤ 20) :
 Calls Tryz.prog 59 #[.pointer (some ⟨X, 0, none⟩)] w (JoinPost W0 B H0 X m v aA ac all vs o L k bA bc fA fc n nk ld bm (ds.map Prod.fst) fs) := by
 obtain ⟨nd, hnd⟩ := ex' ds.length
 rw [hnd] at hX hdl; have HND := hd' hnd; have HOK := hd' hok; have HO := hd' hO; have HTB := hd' hTB; have HX := hd' hX; have HC := hd' hC; have y_b := hX.cell 10 rfl; have lX := hX.lt; clear hnd hok hO hTB hX hC
 go_enter Tryz.func59, Tryz.ntmps59
 go_upto_block 0 with fail
 clear y_b lX
 go_cut [] (fun wx => ∃ (H2 : Nat) (ds2 : List (BlkD × BlkV)), Hid (CutM W0 wx B H0 H2 X m v aA ac all vs L k bA bc fA fc n nk ld bm ds2 [] fs) ∧ Hid (Blk wx X 112 (finC m v aA all.length ac o L k [.slice bA nd bc, .slice none 0 0, .slice fA fs.length fc])) ∧ Hid (ds2.map Prod.fst = (ds.map Prod.fst).map (joinB bm)) ∧ Hid (ds2.length = nd))
 case first =>
  go_wp2_with fail
  go_loopg [15] nd (fun gk s15 wr => ∃ (i H2 : Nat) (ds2 : List (BlkD × BlkV)), i ≤ nd ∧ s15 = .int .i64 i ∧ Hid (CutM W0 wr B H0 H2 X m v aA ac all vs L k bA bc fA fc n nk ld bm ds2 [] fs) ∧ Hid (Blk wr X 112 (finC m v aA all.length ac o L k [.slice bA nd bc, .slice none 0 0, .slice fA fs.length fc])) ∧ Hid (ds2.map Prod.fst = ((ds.map Prod.fst).take i).map (joinB bm) ++ (ds.map Prod.fst).drop i) ∧ Hid (ds2.length = nd) ∧ nd - i ≤ gk)
  case atStart => exact ⟨0, H, ds, Nat.zero_le _, rfl, HC, HX, hd' (by simp), HND, Nat.le_refl _⟩
  case round =>
   obtain ⟨i, H2, ds2, hi, rfl, HCi, HXi, HDi, HLi, hgk⟩ := hrel
   by_cases hil : i < nd
   · skip
     have hiI : (i : Int) < (nd : Int) := by omega
     have hx : ds2[i]? = some (ds2[i]'(by rw [HLi.out]; exact hil)) := gE' _; obtain ⟨x2, hxe⟩ := ex' (ds2[i]'(by rw [HLi.out]; exact hil))
     rw [hxe] at hx; obtain ⟨gb, rfl⟩ := own_ptr HCi.out.row (by rw [List.append_nil, HLi.out]; omega); obtain ⟨⟨bfn, bst, bco, bat, bla, ben, bds, bel, bli⟩, ⟨cA, cc, aA2, ac2, lA2, lc2⟩⟩ := x2
     have hbx : (ds.map Prod.fst)[i]? = some ⟨bfn, bst, bco, bat, bla, ben, bds, bel, bli⟩ := by
      have h := congrArg (·[i]?) HDi.out; simp only [List.getElem?_map, hx, Option.map_some] at h; rw [List.getElem?_append_right (by rw [List.length_map, List.length_take, List.length_map, HND.out, Nat.min_eq_left (by omega)]; exact Nat.le_refl _), List.length_map, List.length_take, List.length_map, HND.out, Nat.min_eq_left (by omega), Nat.sub_self, List.getElem?_drop, Nat.add_zero] at h; exact h.symm
     have hbk : BlkOk 1000000 ⟨bfn, bst, bco, bat, bla, ben, bds, bel, bli⟩ := by
      rw [List.getElem?_map, Option.map_eq_some_iff] at hbx; obtain ⟨y, hy, hye⟩ := hbx; rw [← hye]; exact HOK.out y (mG' hy)
     have HNXT : Hid (∀ (l3 : List (BlkD × BlkV)) (y : BlkD) (yv : BlkV), l3 = ds2.set i (y, yv) → y = joinB bm ⟨bfn, bst, bco, bat, bla, ben, bds, bel, bli⟩ → l3.map Prod.fst = ((ds.map Prod.fst).take (i + 1)).map (joinB bm) ++ (ds.map Prod.fst).drop (i + 1) ∧ l3.length = nd) := hd' fun l3 y yv e1 e2 => by
      rw [e1]; refine ⟨?_, by rw [List.length_set]; exact HLi.out⟩; rw [map_fst_set, e2]; exact join_step HDi.out hbx
     obtain ⟨k1, k2, k3, k4⟩ := hbk; simp only at k1 k2 k3 k4; have HK1 := hd' k1; have HK2 := hd' k2; have HXI := hd' hx; obtain ⟨nl, hnl⟩ : ∃ q, bli.length = q + 1 := ⟨bli.length - 1, by omega⟩
     have hnl6 : nl ≤ 1000000 := by omega
     obtain ⟨lb, hlb⟩ := own_ptr (HCi.out.don _ (mG' hx)).lines (by rw [hnl]; omega); simp only at hlb; subst hlb; have HNL := hd' hnl; obtain ⟨e10, -, yl_g⟩ := HCi.out.cell hx 10 _ rfl; have y_b := HXi.out.cell 10 rfl; have yl_x := HXi.out.lt; clear hx hxe hbx k1 k2 k3 k4 hnl
     by_cases h1 : ben = 1
     · subst h1
       go_upto_region 9 with fail
       have hCd := HCi.out.below (Below.refl _ _).drew; have hXd := HXi.out.drew; have hrow := (hCd.don _ (mG' HXI.out)).lines; have c_q := (hCd.cell HXI.out 13 _ rfl).1; simp only [HNL.out] at c_q hrow; have l_g := (hCd.cell HXI.out 13 _ rfl).2.2
       have hlast : bli[nl]? = some (bli.getLastD 0) := by
        have h := HNL.out; rw [List.getLastD_eq_getLast?, List.getLast?_eq_getElem?, h, Nat.add_sub_cancel]; have h2 : nl < bli.length := by omega
        rw [gE' h2]
        rfl
       obtain ⟨lv, hlv⟩ := ex' (bli.getLastD 0)
       rw [hlv] at hlast; have HLV := hd' hlv; have c_v := (own_cellf hrow (intsV_at .i64 hlast)).1; have l_l := (own_cellf hrow (intsV_at .i64 hlast)).2.2; have hw1 : IntKind.i64.wrap (nl : Int) = (nl : Int) := IntWalk.i64_in _ (by omega); have hi2 : (nl : Int) < (nl : Int) + 1 := by omega
       have hi3 : (0 : Int) ≤ (nl : Int) := by omega
       have hHs : H0 ≤ wr.heap.size := by have := HCi.out.hs; omega
       clear hlv hlast; refine wp_region_W (fun w' => w'.cell? ⟨gb, i * 14 + 13, none⟩ = some (.slice (some ⟨lb, 0, none⟩) (nl + 1) lc2)) 21 (by kernel_rfl) (by (try dsimp only); go_keep) (fun zH => ?_); refine wq 0 zH ?_; refine wq 1 zH ?_; refine wq 2 zH ?_; refine wq 3 zH ?_; refine wq 4 zH ?_; refine wq 5 zH ?_; refine wq 6 zH ?_; refine wq 7 zH ?_
       refine wq 8 zH ?_; refine wq 9 zH ?_; refine wq 10 zH ?_; refine wq 11 zH ?_; refine wq 12 zH ?_; refine wq 13 zH ?_; refine wq 14 zH ?_; refine wq 15 zH ?_; refine wpW_one 16 rfl (by kernel_rfl) (fun K hK => ?_)
       go_simp
       refine hK.out _ _ (by (try dsimp only); go_keep) (fun zH => ?_); clear hK K; (try simp only [putE]); refine wpW_one 17 rfl (by kernel_rfl) (fun K hK => ?_)
       go_simp
       have hal : Below _ wr.drew (wr.drew.alloc (.cells #[.int .i64 lv] 3)) := (Below.refl _ _).alloc lr' _; have hCa := hCd.below hal; have hXa := hXd.keep hal; have hra := own_keep hrow hal; have a_q := (hCa.cell HXI.out 13 _ rfl).1; simp only [HNL.out] at a_q; have a_v := (hal.cell l_l).trans c_v; have a_g := (hCa.cell HXI.out 13 _ rfl).2.2; refine hK.out _ _ (by (try dsimp only); exact a_q) (fun zH => ?_); clear hK K; (try simp only [putE]); refine wpW_one 18 rfl (by kernel_rfl) (fun K hK => ?_)
       refine step_app_one rfl _ _ 27 3 1 8 _ Tryz.underlying27 infoIntJ rfl (by decide) rfl H0 _ (nl + 1) _ rfl hra wr.heap.size 1 rfl [.int .i64 lv] 3 (0, 0) (heap_alloc_new wr.drew _) rfl (by simp [Value.oneCell']) (by omega) (by omega) (by simp; omega) (wr.heap.size + 1) (by simp) (fun g3 c3 w3 ho3 hgr3 hat3 hlt3 => ?_); have hty3 : ∀ q, (Value.slice (some ⟨lb, 0, none⟩) (nl + 1) lc2).ownBlock = some q → TypB (wr.drew.alloc (.cells #[.int .i64 lv] 3)) q 3 := fun q e => own_typ hra e
       have hX3 := hXa.keepT hgr3 hty3 (by decide); have hrw := hCa.row; rw [List.append_nil] at hrw; have hr3 := own_keepT hrw hgr3 hty3 (by decide); have b_c := own_cellf hr3 (blksV_at HXI.out 13 _ rfl); simp only [HNL.out] at b_c; have b_q := b_c.1; have b_f := b_c.2.1; have b_l := b_c.2.2; refine hK.out _ _ (by (try dsimp only); exact b_q) (fun zH => ?_); clear hK K; (try simp only [putE]); refine wpW_one 19 rfl (by kernel_rfl) (fun K hK => ?_)
       go_simp
       refine hK.out _ _ (by (try dsimp only); exact b_q) (fun zH => ?_); clear hK K; (try simp only [putE]); refine wpW_one 20 rfl (by kernel_rfl) (fun K hK => ?_)
       go_simp
       refine hK.out _ _ (by (try dsimp only); exact b_q) (fun zH => ?_); clear hK K; (try simp only [putE]); refine wpW_last 21 rfl (by kernel_rfl) (by decide) (fun K hK => ?_)
       go_simp
       refine hK.out _ _ ?_; clear hK K; (try simp only [putE]); refine wpW_done (by kernel_rfl) ?_ _
       have hneX : ¬ gb = X := by
        have hr := hCa.row; rw [List.append_nil] at hr; exact (own_typ hr rfl).ne hXa.typ (by decide)
       obtain ⟨W5, hWo⟩ := ex' (w3.setCell ⟨gb, i * 14 + 13, none⟩ (.slice (some ⟨g3, 0, none⟩) (nl + 1 + 1) c3))
       obtain ⟨ds5, hds⟩ := ex' (ds2.set i ((⟨bfn, bst, bco, bat, bla, 1, bds, bel, (bli ++ [lv])⟩ : BlkD), (⟨cA, cc, aA2, ac2, (some ⟨g3, 0, none⟩), c3⟩ : BlkV)))
       have hgrow := hCa.growL HXI.out (g2 := g3) (c2 := c3) (p := lv) (w1 := w3) (by simp only [HNL.out]; exact ho3) (by unfold rowL; simp only [HNL.out]; exact hgr3) (by
        unfold rowL; simp only [HNL.out]; rcases hat3 with h | h
        · exact .inl h
        · exact .inr (by rw [h]; simp))
       simp only [HNL.out] at hgrow; have HC5 : Hid (CutM W0 W5 B H0 w3.heap.size X m v aA ac all vs L k (some ⟨gb, 0, none⟩) bc fA fc n nk ld bm ds5 [] fs) := hd' (by rw [← hWo, ← hds]; exact hgrow)
       have HX5 : Hid (Blk W5 X 112 (finC m v aA all.length ac o L k [.slice (some ⟨gb, 0, none⟩) nd bc, .slice none 0 0, .slice fA fs.length fc])) := hd' (by
        rw [← hWo]
        exact hX3.gb (gb_setCell (gb_refl _ (some gb)) _ _) (fun e => hneX (by injection e)))
       have Hds5 := hd' hds; rw [hWo]; clear hWo hds hCd hXd c_q l_g c_v l_l hw1 hi2 hi3 hHs hrow hgrow hneX hCa hXa hra hrw hr3 b_c b_q b_f b_l hty3 hX3 ho3 hgr3 hat3 hlt3 hal a_q a_v a_g; obtain ⟨e1, e2⟩ := HNXT.out ds5 _ _ (Hds5.out.symm) (by rw [joinB_1 rfl]; simp only; rw [HLV.out])
       go_wp2
       go_roundg (nd - (i + 1))
       case measure => omega
       case rel => exact ⟨i + 1, _, _, by omega, by go_num, HC5, HX5, hd' e1, hd' e2, Nat.le_refl _⟩
     · by_cases h4 : ben = 4
       · subst h4
         go_upto_region 5 with fail
         have hCd := HCi.out.below (Below.refl _ _).drew; have hXd := HXi.out.drew; obtain ⟨c_q, f_q, l_g⟩ := hCd.cell HXI.out 11 _ rfl; have c_k := hXd.cell 9 rfl; have l_x := hXd.lt; have hlk := hCd.bmr.look HK1.out
         have hneX : ¬ gb = X := by
          have hr := hCd.row; rw [List.append_nil] at hr; exact (own_typ hr rfl).ne hXd.typ (by decide)
         refine wp_region_W (fun w' => w'.cell? ⟨X, 9, none⟩ = some (.map (some k)) ∧ w'.cell? ⟨gb, i * 14 + 11, none⟩ = some (.int .i64 bds)) 12 (by kernel_rfl) (by (try dsimp only); go_keep) (fun zH => ?_); refine wq 0 zH ?_; refine wq 1 zH ?_; refine wq 2 zH ?_; refine wq 3 zH ?_; refine wq 4 zH ?_; refine wq 5 zH ?_; refine wq 6 zH ?_; refine wq 7 zH ?_
         refine wq 8 zH ?_; refine wpW_one 9 rfl (by kernel_rfl) (fun K hK => ?_)
         go_simp
         refine hK.out _ _ (by (try dsimp only); go_keep) (fun zH => ?_); clear hK K; (try simp only [putE]); refine wpW_one 10 rfl (by kernel_rfl) (fun K hK => ?_)
         go_simp
         refine hK.out _ _ (by (try dsimp only); go_keep) (fun zH => ?_); clear hK K; (try simp only [putE]); refine wq 11 zH ?_; refine wpW_last 12 rfl (by kernel_rfl) (by decide) (fun K hK => ?_)
         go_simp
         refine hK.out _ _ ?_; clear hK K; (try simp only [putE]); refine wpW_done (by kernel_rfl) ?_ _; obtain ⟨W5, hWo⟩ := ex' ((wr.setCell ⟨gb, i * 14 + 11, none⟩ (.int .i64 ((bm bds).getD 0))).drew)
         obtain ⟨ds5, hds⟩ := ex' (ds2.set i ((⟨bfn, bst, bco, bat, bla, 4, ((bm bds).getD 0), bel, bli⟩ : BlkD), (⟨cA, cc, aA2, ac2, (some ⟨lb, 0, none⟩), lc2⟩ : BlkV)))
         have HC5 : Hid (CutM W0 W5 B H0 H2 X m v aA ac all vs L k (some ⟨gb, 0, none⟩) bc fA fc n nk ld bm ds5 [] fs) := hd' (by rw [← hWo, ← hds]; exact hCd.setD HXI.out (⟨bfn, bst, bco, bat, bla, 4, ((bm bds).getD 0), bel, bli⟩ : BlkD) rfl rfl rfl 11 (by decide) (.int .i64 ((bm bds).getD 0)) rfl)
         have HX5 : Hid (Blk W5 X 112 (finC m v aA all.length ac o L k [.slice (some ⟨gb, 0, none⟩) nd bc, .slice none 0 0, .slice fA fs.length fc])) := hd' (by
          rw [← hWo]
          exact hXd.gb (gb_setCell (gb_refl _ (some gb)) _ _) (fun e => hneX (by injection e)))
         have HXI5 : Hid (ds5[i]? = some ((⟨bfn, bst, bco, bat, bla, 4, ((bm bds).getD 0), bel, bli⟩ : BlkD), (⟨cA, cc, aA2, ac2, (some ⟨lb, 0, none⟩), lc2⟩ : BlkV))) := hd' (by
          rw [← hds]
          rw [List.getElem?_set_self (by exact (List.getElem?_eq_some_iff.1 HXI.out).1)])
         have Hds5 := hd' hds; rw [hWo]; clear hWo hds hCd hXd c_q f_q l_g c_k l_x hlk hneX; have e10b := (HC5.out.cell HXI5.out 10 _ rfl).1; have lg5 := (HC5.out.cell HXI5.out 10 _ rfl).2.2
         go_upto_region 7 with fail
         have hCd := HC5.out.below (Below.refl _ _).drew; have hXd := HX5.out.drew; obtain ⟨c_q, f_q, l_g⟩ := hCd.cell HXI5.out 12 _ rfl; have c_k := hXd.cell 9 rfl; have l_x := hXd.lt; have hlk := hCd.bmr.look HK2.out
         have hneX : ¬ gb = X := by
          have hr := hCd.row; rw [List.append_nil] at hr; exact (own_typ hr rfl).ne hXd.typ (by decide)
         refine wp_region_W (fun w' => w'.cell? ⟨X, 9, none⟩ = some (.map (some k)) ∧ w'.cell? ⟨gb, i * 14 + 12, none⟩ = some (.int .i64 bel)) 12 (by kernel_rfl) (by (try dsimp only); go_keep) (fun zH => ?_); refine wq 0 zH ?_; refine wq 1 zH ?_; refine wq 2 zH ?_; refine wq 3 zH ?_; refine wq 4 zH ?_; refine wq 5 zH ?_; refine wq 6 zH ?_; refine wq 7 zH ?_
         refine wq 8 zH ?_; refine wpW_one 9 rfl (by kernel_rfl) (fun K hK => ?_)
         go_simp
         refine hK.out _ _ (by (try dsimp only); go_keep) (fun zH => ?_); clear hK K; (try simp only [putE]); refine wpW_one 10 rfl (by kernel_rfl) (fun K hK => ?_)
         go_simp
         refine hK.out _ _ (by (try dsimp only); go_keep) (fun zH => ?_); clear hK K; (try simp only [putE]); refine wq 11 zH ?_; refine wpW_last 12 rfl (by kernel_rfl) (by decide) (fun K hK => ?_)
         go_simp
         refine hK.out _ _ ?_; clear hK K; (try simp only [putE]); refine wpW_done (by kernel_rfl) ?_ _; obtain ⟨W6, hWo⟩ := ex' ((W5.setCell ⟨gb, i * 14 + 12, none⟩ (.int .i64 ((bm bel).getD 0))).drew)
         obtain ⟨ds6, hds⟩ := ex' (ds5.set i ((⟨bfn, bst, bco, bat, bla, 4, ((bm bds).getD 0), ((bm bel).getD 0), bli⟩ : BlkD), (⟨cA, cc, aA2, ac2, (some ⟨lb, 0, none⟩), lc2⟩ : BlkV)))
         have HC6 : Hid (CutM W0 W6 B H0 H2 X m v aA ac all vs L k (some ⟨gb, 0, none⟩) bc fA fc n nk ld bm ds6 [] fs) := hd' (by rw [← hWo, ← hds]; exact hCd.setD HXI5.out (⟨bfn, bst, bco, bat, bla, 4, ((bm bds).getD 0), ((bm bel).getD 0), bli⟩ : BlkD) rfl rfl rfl 12 (by decide) (.int .i64 ((bm bel).getD 0)) rfl)
         have HX6 : Hid (Blk W6 X 112 (finC m v aA all.length ac o L k [.slice (some ⟨gb, 0, none⟩) nd bc, .slice none 0 0, .slice fA fs.length fc])) := hd' (by
          rw [← hWo]
          exact hXd.gb (gb_setCell (gb_refl _ (some gb)) _ _) (fun e => hneX (by injection e)))
         have HXI6 : Hid (ds6[i]? = some ((⟨bfn, bst, bco, bat, bla, 4, ((bm bds).getD 0), ((bm bel).getD 0), bli⟩ : BlkD), (⟨cA, cc, aA2, ac2, (some ⟨lb, 0, none⟩), lc2⟩ : BlkV))) := hd' (by
          rw [← hds]
          rw [List.getElem?_set_self (by exact (List.getElem?_eq_some_iff.1 HXI5.out).1)])
         have Hds6 := hd' hds; rw [hWo]; clear hWo hds hCd hXd c_q f_q l_g c_k l_x hlk hneX; have e10c := (HC6.out.cell HXI6.out 10 _ rfl).1; have lg6 := (HC6.out.cell HXI6.out 10 _ rfl).2.2; obtain ⟨e1, e2⟩ := HNXT.out ds6 _ _ (by rw [← Hds6.out, ← Hds5.out, List.set_set]) (by rw [joinB_4 rfl])
         go_wp2
         go_roundg (nd - (i + 1))
         case measure => omega
         case rel => exact ⟨i + 1, _, _, by omega, by go_num, HC6, HX6, hd' e1, hd' e2, Nat.le_refl _⟩
       · have q1 : (ben != 1) = true := by simpa using h1
         have q4 : (ben == 4) = false := by simpa using h4
         have q1b : (ben == 1) = false := by simpa using h1
         by_cases h2 : ben = 2
         · subst h2
           go_upto_region 5 with fail
           have hCd := HCi.out.below (Below.refl _ _).drew; have hXd := HXi.out.drew; obtain ⟨c_q, f_q, l_g⟩ := hCd.cell HXI.out 11 _ rfl; have c_k := hXd.cell 9 rfl; have l_x := hXd.lt; have hlk := hCd.bmr.look HK1.out
           have hneX : ¬ gb = X := by
            have hr := hCd.row; rw [List.append_nil] at hr; exact (own_typ hr rfl).ne hXd.typ (by decide)
           refine wp_region_W (fun w' => w'.cell? ⟨X, 9, none⟩ = some (.map (some k)) ∧ w'.cell? ⟨gb, i * 14 + 11, none⟩ = some (.int .i64 bds)) 12 (by kernel_rfl) (by (try dsimp only); go_keep) (fun zH => ?_); refine wq 0 zH ?_; refine wq 1 zH ?_; refine wq 2 zH ?_; refine wq 3 zH ?_; refine wq 4 zH ?_; refine wq 5 zH ?_; refine wq 6 zH ?_; refine wq 7 zH ?_; refine wq 8 zH ?_; refine wpW_one 9 rfl (by kernel_rfl) (fun K hK => ?_)
           go_simp
           refine hK.out _ _ (by (try dsimp only); go_keep) (fun zH => ?_); clear hK K; (try simp only [putE]); refine wpW_one 10 rfl (by kernel_rfl) (fun K hK => ?_)
           go_simp
           refine hK.out _ _ (by (try dsimp only); go_keep) (fun zH => ?_); clear hK K; (try simp only [putE]); refine wq 11 zH ?_; refine wpW_last 12 rfl (by kernel_rfl) (by decide) (fun K hK => ?_)
           go_simp
           refine hK.out _ _ ?_; clear hK K; (try simp only [putE]); refine wpW_done (by kernel_rfl) ?_ _; obtain ⟨W5, hWo⟩ := ex' ((wr.setCell ⟨gb, i * 14 + 11, none⟩ (.int .i64 ((bm bds).getD 0))).drew)
           obtain ⟨ds5, hds⟩ := ex' (ds2.set i ((⟨bfn, bst, bco, bat, bla, 2, ((bm bds).getD 0), bel, bli⟩ : BlkD), (⟨cA, cc, aA2, ac2, (some ⟨lb, 0, none⟩), lc2⟩ : BlkV)))
           have HC5 : Hid (CutM W0 W5 B H0 H2 X m v aA ac all vs L k (some ⟨gb, 0, none⟩) bc fA fc n nk ld bm ds5 [] fs) := hd' (by rw [← hWo, ← hds]; exact hCd.setD HXI.out (⟨bfn, bst, bco, bat, bla, 2, ((bm bds).getD 0), bel, bli⟩ : BlkD) rfl rfl rfl 11 (by decide) (.int .i64 ((bm bds).getD 0)) rfl)
           have HX5 : Hid (Blk W5 X 112 (finC m v aA all.length ac o L k [.slice (some ⟨gb, 0, none⟩) nd bc, .slice none 0 0, .slice fA fs.length fc])) := hd' (by
            rw [← hWo]
            exact hXd.gb (gb_setCell (gb_refl _ (some gb)) _ _) (fun e => hneX (by injection e)))
           have HXI5 : Hid (ds5[i]? = some ((⟨bfn, bst, bco, bat, bla, 2, ((bm bds).getD 0), bel, bli⟩ : BlkD), (⟨cA, cc, aA2, ac2, (some ⟨lb, 0, none⟩), lc2⟩ : BlkV))) := hd' (by
            rw [← hds]
            rw [List.getElem?_set_self (by exact (List.getElem?_eq_some_iff.1 HXI.out).1)])
           have Hds5 := hd' hds; rw [hWo]; clear hWo hds hCd hXd c_q f_q l_g c_k l_x hlk hneX; have e10b := (HC5.out.cell HXI5.out 10 _ rfl).1; have lg5 := (HC5.out.cell HXI5.out 10 _ rfl).2.2
           go_upto_region 9 with fail
           have hCd := HC5.out.below (Below.refl _ _).drew; have hXd := HX5.out.drew; have hrow := (hCd.don _ (mG' HXI5.out)).lines; have c_q := (hCd.cell HXI5.out 13 _ rfl).1; simp only [HNL.out] at c_q hrow; have l_g := (hCd.cell HXI5.out 13 _ rfl).2.2
           have hlast : bli[nl]? = some (bli.getLastD 0) := by
            have h := HNL.out; rw [List.getLastD_eq_getLast?, List.getLast?_eq_getElem?, h, Nat.add_sub_cancel]; have h2 : nl < bli.length := by omega
            rw [gE' h2]
            rfl
           obtain ⟨lv, hlv⟩ := ex' (bli.getLastD 0)
           rw [hlv] at hlast; have HLV := hd' hlv; have c_v := (own_cellf hrow (intsV_at .i64 hlast)).1; have l_l := (own_cellf hrow (intsV_at .i64 hlast)).2.2; have hw1 : IntKind.i64.wrap (nl : Int) = (nl : Int) := IntWalk.i64_in _ (by omega); have hi2 : (nl : Int) < (nl : Int) + 1 := by omega
           have hi3 : (0 : Int) ≤ (nl : Int) := by omega
           have hHs : H0 ≤ W5.heap.size := by have := HC5.out.hs; omega
           clear hlv hlast; refine wp_region_W (fun w' => w'.cell? ⟨gb, i * 14 + 13, none⟩ = some (.slice (some ⟨lb, 0, none⟩) (nl + 1) lc2)) 21 (by kernel_rfl) (by (try dsimp only); go_keep) (fun zH => ?_); refine wq 0 zH ?_; refine wq 1 zH ?_; refine wq 2 zH ?_; refine wq 3 zH ?_; refine wq 4 zH ?_; refine wq 5 zH ?_; refine wq 6 zH ?_; refine wq 7 zH ?_
           refine wq 8 zH ?_; refine wq 9 zH ?_; refine wq 10 zH ?_; refine wq 11 zH ?_; refine wq 12 zH ?_; refine wq 13 zH ?_; refine wq 14 zH ?_; refine wq 15 zH ?_; refine wpW_one 16 rfl (by kernel_rfl) (fun K hK => ?_)
           go_simp
           refine hK.out _ _ (by (try dsimp only); go_keep) (fun zH => ?_); clear hK K; (try simp only [putE]); refine wpW_one 17 rfl (by kernel_rfl) (fun K hK => ?_)
           go_simp
           have hal : Below _ W5.drew (W5.drew.alloc (.cells #[.int .i64 lv] 3)) := (Below.refl _ _).alloc lr' _; have hCa := hCd.below hal; have hXa := hXd.keep hal; have hra := own_keep hrow hal; have a_q := (hCa.cell HXI5.out 13 _ rfl).1; simp only [HNL.out] at a_q; have a_v := (hal.cell l_l).trans c_v; have a_g := (hCa.cell HXI5.out 13 _ rfl).2.2; refine hK.out _ _ (by (try dsimp only); exact a_q) (fun zH => ?_); clear hK K; (try simp only [putE]); refine wpW_one 18 rfl (by kernel_rfl) (fun K hK => ?_)
           refine step_app_one rfl _ _ 27 3 1 8 _ Tryz.underlying27 infoIntJ rfl (by decide) rfl H0 _ (nl + 1) _ rfl hra W5.heap.size 1 rfl [.int .i64 lv] 3 (0, 0) (heap_alloc_new W5.drew _) rfl (by simp [Value.oneCell']) (by omega) (by omega) (by simp; omega) (W5.heap.size + 1) (by simp) (fun g3 c3 w3 ho3 hgr3 hat3 hlt3 => ?_); have hty3 : ∀ q, (Value.slice (some ⟨lb, 0, none⟩) (nl + 1) lc2).ownBlock = some q → TypB (W5.drew.alloc (.cells #[.int .i64 lv] 3)) q 3 := fun q e => own_typ hra e
           have hX3 := hXa.keepT hgr3 hty3 (by decide); have hrw := hCa.row; rw [List.append_nil] at hrw; have hr3 := own_keepT hrw hgr3 hty3 (by decide); have b_c := own_cellf hr3 (blksV_at HXI5.out 13 _ rfl); simp only [HNL.out] at b_c; have b_q := b_c.1; have b_f := b_c.2.1; have b_l := b_c.2.2; refine hK.out _ _ (by (try dsimp only); exact b_q) (fun zH => ?_); clear hK K; (try simp only [putE]); refine wpW_one 19 rfl (by kernel_rfl) (fun K hK => ?_)
           go_simp
           refine hK.out _ _ (by (try dsimp only); exact b_q) (fun zH => ?_); clear hK K; (try simp only [putE]); refine wpW_one 20 rfl (by kernel_rfl) (fun K hK => ?_)
           go_simp
           refine hK.out _ _ (by (try dsimp only); exact b_q) (fun zH => ?_); clear hK K; (try simp only [putE]); refine wpW_last 21 rfl (by kernel_rfl) (by decide) (fun K hK => ?_)
           go_simp
           refine hK.out _ _ ?_; clear hK K; (try simp only [putE]); refine wpW_done (by kernel_rfl) ?_ _
           have hneX : ¬ gb = X := by
            have hr := hCa.row; rw [List.append_nil] at hr; exact (own_typ hr rfl).ne hXa.typ (by decide)
           obtain ⟨W6, hWo⟩ := ex' (w3.setCell ⟨gb, i * 14 + 13, none⟩ (.slice (some ⟨g3, 0, none⟩) (nl + 1 + 1) c3))
           obtain ⟨ds6, hds⟩ := ex' (ds5.set i ((⟨bfn, bst, bco, bat, bla, 2, ((bm bds).getD 0), bel, (bli ++ [lv])⟩ : BlkD), (⟨cA, cc, aA2, ac2, (some ⟨g3, 0, none⟩), c3⟩ : BlkV)))
           have hgrow := hCa.growL HXI5.out (g2 := g3) (c2 := c3) (p := lv) (w1 := w3) (by simp only [HNL.out]; exact ho3) (by unfold rowL; simp only [HNL.out]; exact hgr3) (by
            unfold rowL; simp only [HNL.out]; rcases hat3 with h | h
            · exact .inl h
            · exact .inr (by rw [h]; simp))
           simp only [HNL.out] at hgrow; have HC6 : Hid (CutM W0 W6 B H0 w3.heap.size X m v aA ac all vs L k (some ⟨gb, 0, none⟩) bc fA fc n nk ld bm ds6 [] fs) := hd' (by rw [← hWo, ← hds]; exact hgrow)
           have HX6 : Hid (Blk W6 X 112 (finC m v aA all.length ac o L k [.slice (some ⟨gb, 0, none⟩) nd bc, .slice none 0 0, .slice fA fs.length fc])) := hd' (by
            rw [← hWo]
            exact hX3.gb (gb_setCell (gb_refl _ (some gb)) _ _) (fun e => hneX (by injection e)))
           have Hds6 := hd' hds; rw [hWo]; clear hWo hds hCd hXd c_q l_g c_v l_l hw1 hi2 hi3 hHs hrow hgrow hneX hCa hXa hra hrw hr3 b_c b_q b_f b_l hty3 hX3 ho3 hgr3 hat3 hlt3 hal a_q a_v a_g; obtain ⟨e1, e2⟩ := HNXT.out ds6 _ _ (by rw [← Hds6.out, ← Hds5.out, List.set_set]) (by rw [joinB_2 rfl]; simp only; rw [HLV.out])
           go_wp2
           go_roundg (nd - (i + 1))
           case measure => omega
           case rel => exact ⟨i + 1, _, _, by omega, by go_num, HC6, HX6, hd' e1, hd' e2, Nat.le_refl _⟩
         · have q2 : (ben == 2) = false := by simpa using h2
           have HB1 := hd' h1; have HB2 := hd' h2; have HB4 := hd' h4; clear h1 h2 h4
           go_upto_region 5 with fail
           have hCd := HCi.out.below (Below.refl _ _).drew; have hXd := HXi.out.drew; obtain ⟨c_q, f_q, l_g⟩ := hCd.cell HXI.out 11 _ rfl; have c_k := hXd.cell 9 rfl; have l_x := hXd.lt; have hlk := hCd.bmr.look HK1.out
           have hneX : ¬ gb = X := by
            have hr := hCd.row; rw [List.append_nil] at hr; exact (own_typ hr rfl).ne hXd.typ (by decide)
           refine wp_region_W (fun w' => w'.cell? ⟨X, 9, none⟩ = some (.map (some k)) ∧ w'.cell? ⟨gb, i * 14 + 11, none⟩ = some (.int .i64 bds)) 12 (by kernel_rfl) (by (try dsimp only); go_keep) (fun zH => ?_); refine wq 0 zH ?_; refine wq 1 zH ?_; refine wq 2 zH ?_; refine wq 3 zH ?_; refine wq 4 zH ?_; refine wq 5 zH ?_; refine wq 6 zH ?_; refine wq 7 zH ?_; refine wq 8 zH ?_; refine wpW_one 9 rfl (by kernel_rfl) (fun K hK => ?_)
           go_simp
           refine hK.out _ _ (by (try dsimp only); go_keep) (fun zH => ?_); clear hK K; (try simp only [putE]); refine wpW_one 10 rfl (by kernel_rfl) (fun K hK => ?_)
           go_simp
           refine hK.out _ _ (by (try dsimp only); go_keep) (fun zH => ?_); clear hK K; (try simp only [putE]); refine wq 11 zH ?_; refine wpW_last 12 rfl (by kernel_rfl) (by decide) (fun K hK => ?_)
           go_simp
           refine hK.out _ _ ?_; clear hK K; (try simp only [putE]); refine wpW_done (by kernel_rfl) ?_ _; obtain ⟨W5, hWo⟩ := ex' ((wr.setCell ⟨gb, i * 14 + 11, none⟩ (.int .i64 ((bm bds).getD 0))).drew)
           obtain ⟨ds5, hds⟩ := ex' (ds2.set i ((⟨bfn, bst, bco, bat, bla, ben, ((bm bds).getD 0), bel, bli⟩ : BlkD), (⟨cA, cc, aA2, ac2, (some ⟨lb, 0, none⟩), lc2⟩ : BlkV)))
           have HC5 : Hid (CutM W0 W5 B H0 H2 X m v aA ac all vs L k (some ⟨gb, 0, none⟩) bc fA fc n nk ld bm ds5 [] fs) := hd' (by rw [← hWo, ← hds]; exact hCd.setD HXI.out (⟨bfn, bst, bco, bat, bla, ben, ((bm bds).getD 0), bel, bli⟩ : BlkD) rfl rfl rfl 11 (by decide) (.int .i64 ((bm bds).getD 0)) rfl)
           have HX5 : Hid (Blk W5 X 112 (finC m v aA all.length ac o L k [.slice (some ⟨gb, 0, none⟩) nd bc, .slice none 0 0, .slice fA fs.length fc])) := hd' (by
            rw [← hWo]
            exact hXd.gb (gb_setCell (gb_refl _ (some gb)) _ _) (fun e => hneX (by injection e)))
           have HXI5 : Hid (ds5[i]? = some ((⟨bfn, bst, bco, bat, bla, ben, ((bm bds).getD 0), bel, bli⟩ : BlkD), (⟨cA, cc, aA2, ac2, (some ⟨lb, 0, none⟩), lc2⟩ : BlkV))) := hd' (by
            rw [← hds]
            rw [List.getElem?_set_self (by exact (List.getElem?_eq_some_iff.1 HXI.out).1)])
           have Hds5 := hd' hds; rw [hWo]; clear hWo hds hCd hXd c_q f_q l_g c_k l_x hlk hneX; have e10b := (HC5.out.cell HXI5.out 10 _ rfl).1; have lg5 := (HC5.out.cell HXI5.out 10 _ rfl).2.2; obtain ⟨e1, e2⟩ := HNXT.out ds5 _ _ Hds5.out.symm (by rw [joinB_o HB1.out HB2.out HB4.out])
           go_wp2
           go_roundg (nd - (i + 1))
           case measure => omega
           case rel => exact ⟨i + 1, _, _, by omega, by go_num, HC5, HX5, hd' e1, hd' e2, Nat.le_refl _⟩
   · obtain rfl : i = nd := by omega
     have hiI : ¬ (i : Int) < (i : Int) := by omega
     have HD2 : Hid (ds2.map Prod.fst = (ds.map Prod.fst).map (joinB bm)) := hd' (by
      have h := HDi.out; rw [List.take_of_length_le (by rw [List.length_map, HND.out]; exact Nat.le_refl _), List.drop_eq_nil_of_le (by rw [List.length_map, HND.out]; exact Nat.le_refl _), List.append_nil] at h
      exact h)
     clear hi hgk hil
     go_wp2_with fail
     go_meet
     exact ⟨H2, ds2, HCi, HXi, HD2, HLi⟩
 case rest =>
  obtain ⟨H2, ds2, HC1, HX1, HD1, HL1⟩ := hcut; clear HC HX; obtain ⟨W1, hW1⟩ := ex' wc
  rw [hW1] at HC1 HX1 ⊢; clear hW1; have y_t := HX1.out.cell 2 rfl; have lX := HX1.out.lt; obtain ⟨NB, hNB⟩ := ex' m.tables.length
  rw [hNB] at y_t; have HNB := hd' hNB; clear hNB
  go_upto_block 2 with fail
  clear y_t lX
  go_wp2_with fail
  go_loopg [99] NB (fun gk s99 wr => ∃ (i tc : Nat) (tA : Option Addr) (tvs : List Value), i ≤ NB ∧ s99 = .int .i64 i ∧ Hid (W1.grownBy wr (some X)) ∧ Hid (Blk wr X 112 (finC m v aA all.length ac o L k [.slice bA nd bc, .slice tA i tc, .slice fA fs.length fc])) ∧ Hid (wr.ownsRow W1.heap.size 27 1 (.slice tA i tc) i tvs) ∧
   Hid (∀ (j : Nat) (t : List Int), ((m.tables.map (tabJ bm)).take i)[j]? = some t → ∃ a c, tvs[j]? = some (.slice a t.length c) ∧ RdN wr wr.heap.size none 3 a t.length c (intsV .i64 t)) ∧ NB - i ≤ gk)
  case atStart => exact ⟨0, 0, none, [], Nat.zero_le _, rfl, hd' (gb_refl _ _), HX1, hd' ⟨rfl, .inl ⟨rfl, rfl⟩⟩, hd' (fun j t h => (by simp at h)), Nat.le_refl _⟩
  case round =>
   obtain ⟨i, tc, tA, tvs, hi, rfl, HG, HXi, HTV, HTR, hgk⟩ := hrel; have hNB20 := HTB.out.1; rw [HNB.out] at hNB20
   by_cases hil : i < NB
   · have hx : m.tables[i]? = some (m.tables[i]'(by rw [HNB.out]; exact hil)) := gE' _; obtain ⟨t, hte⟩ := ex' (m.tables[i]'(by rw [HNB.out]; exact hil))
     rw [hte] at hx; have hcm := HC1.out.gbX HX1.out.typ HG.out; have HCM := hd' hcm; have htl20 := HTB.out.2 t (mG' hx); have HB64 : Hid (∀ x ∈ t, N64 x) := hd' (fun x h => HO.out.bb t (mG' hx) x h); have HXT := hd' hx; obtain ⟨tvs2, e1, e2, e3⟩ := hcm.img.tables; obtain ⟨ta, tk, e4, e5, e6, e7, e8⟩ := e3 i t hx; obtain ⟨bb, bo, hba, hbb, y_t⟩ := e2.at e4; obtain ⟨tl, htl⟩ := ex' t.length
     rw [htl] at e5 e7 y_t htl20; have HTN := hd' htl; have HTR2 := hd' e8; have hiI : (i : Int) < (NB : Int) := by omega
     have hBw : B ≤ wr.heap.size := by have := hcm.hs; omega
     clear hx hte htl e1 e2 e3 e4 e6 e8 hbb hcm; rw [hba]; have HBA := hd' hba; clear hba
     rename World => wo
     go_upto_block 4 with fail
     clear y_t
     go_wp2_with fail
     go_loopg [6, 105] tl (fun gk s6 s105 wi => ∃ (j c : Nat) (A : Option Addr), j ≤ tl ∧ s105 = .int .i64 j ∧ s6 = .slice A j c ∧ Hid (wi.ownsRow wo.heap.size 3 1 (.slice A j c) j (intsV .i64 ((tabJ bm t).take j))) ∧ Hid (Below wo.heap.size wo wi) ∧ tl - j ≤ gk)
     case atStart => exact ⟨0, 0, none, Nat.zero_le _, rfl, rfl, hd' ⟨rfl, .inl ⟨rfl, rfl⟩⟩, hd' (Below.refl _ _), Nat.le_refl _⟩
     case round =>
      obtain ⟨j, c, A, hj, rfl, rfl, HOW, HBj, hgk2⟩ := hrel
      by_cases hjl : j < tl
      · have hx : t[j]? = some (t[j]'(by rw [HTN.out]; exact hjl)) := gE' _; obtain ⟨a, hae⟩ := ex' (t[j]'(by rw [HTN.out]; exact hjl))
        rw [hae] at hx; have h64 := HB64.out a (mG' hx); have HXA := hd' hx; have hjI : (j : Int) < (tl : Int) := by omega
        obtain ⟨tb, tbo, hta, -, y_a⟩ := ((HTR2.out.more hBw).below HBj.out).at (intsV_at .i64 hx); subst hta; have hx5 := HXi.out.keep HBj.out; have y_k := hx5.cell 9 rfl; have lX5 := hx5.lt; have hlk := (HCM.out.bmr.keep HBj.out).look h64; have hzz := HBj.out.size; obtain ⟨vv, hvv⟩ := ex' ((bm a).getD 0)
        rw [hvv] at hlk
        have HOW2 : Hid (intsV .i64 ((tabJ bm t).take (j + 1)) = intsV .i64 ((tabJ bm t).take j) ++ [.int .i64 vv]) := hd' (by
         have h : (tabJ bm t)[j]? = some vv := by unfold tabJ; rw [List.getElem?_map, hx, ← hvv]; rfl
         rw [List.take_add_one, h]
         simp [intsV])
        clear hx hae hx5 hvv h64
        go_wp2_with (first | (at_builtin; refine app_one rfl _ _ 27 3 1 8 _ Tryz.underlying27 infoIntJ rfl (by decide) rfl wo.heap.size _ j _ rfl (World.ownsRow.alloc HOW.out _) wr.heap.size 1 rfl [.int .i64 vv] 3 (0, 0) (heap_alloc_new wr _) rfl (by simp [Value.oneCell']) (by omega) (by omega) (by simp; omega) (wr.heap.size + 1) (by simp) ?a3))
        case a3 =>
         intro g3 c3 w3 ho3 hgr3 hat3 hlt3; have hal : Below wr.heap.size wr (wr.alloc (.cells #[.int .i64 vv] 3)) := (Below.refl _ _).alloc lr' _; have HB3 := hd' (HBj.out.trans ((hal.mono hzz).trans (gb_below_of hgr3 (fun q e => (World.ownsRow.lt HOW.out q e).1) (by simp; omega))))
         have HO3 : Hid (w3.ownsRow wo.heap.size 3 1 (.slice (some ⟨g3, 0, none⟩) (j + 1) c3) (j + 1) (intsV .i64 ((tabJ bm t).take (j + 1)))) := hd' (by
          rw [HOW2.out]
          exact ho3)
         clear ho3 hgr3 hat3 hlt3 hal y_a y_k lX5 hlk
         go_wp2_with fail
         go_roundg (tl - (j + 1))
         case measure => omega
         case rel => exact ⟨j + 1, c3, _, by omega, by go_num, rfl, HO3, HB3, Nat.le_refl _⟩
      · obtain rfl : j = tl := by omega
        have hjI : ¬ (j : Int) < (j : Int) := by omega
        have hx5 := HXi.out.keep HBj.out; have y_tb := hx5.cell 11 rfl; have lX5 := hx5.lt; have HX5 := hd' hx5; have HTV5 := hd' (own_keep HTV.out HBj.out); have how := HOW.out; rw [List.take_of_length_le (by unfold tabJ; rw [List.length_map, HTN.out]; exact Nat.le_refl _)] at how; have HOW5 : Hid (wr.ownsRow wo.heap.size 3 1 (.slice A j c) j (intsV .i64 (tabJ bm t))) := hd' how; have hzz := HBj.out.size; have hzw := HG.out.size; clear hx5 how hj hgk2 hjl
        go_wp2_with (first | (at_builtin; refine app_one rfl _ _ 26 27 1 24 _ Tryz.underlying26 infoSlJ rfl (by decide) rfl W1.heap.size _ i _ rfl (World.ownsRow.alloc HTV5.out _) wr.heap.size 1 rfl [.slice A j c] 27 (0, 0) (heap_alloc_new wr _) rfl (by simp [Value.oneCell']) (by omega) (by omega) (by simp; omega) (wr.heap.size + 1) (by simp) ?a4))
        case a4 =>
         intro g4 c4 w4 ho4 hgr4 hat4 hlt4; have hal : Below wr.heap.size wr (wr.alloc (.cells #[.slice A j c] 27)) := (Below.refl _ _).alloc lr' _; have hty4 : ∀ q, (Value.slice tA i tc).ownBlock = some q → TypB (wr.alloc (.cells #[.slice A j c] 27)) q 27 := fun q e => own_typ (World.ownsRow.alloc HTV5.out _) e
         have hx4 := (HX5.out.keep hal).keepT hgr4 hty4 (by decide); have x11 := hx4.cell 11 rfl; have x11f := hx4.free 11; have x11l := hx4.lt; obtain ⟨V, hV⟩ := ex' (w4.setCell ⟨X, 11, none⟩ (.slice (some ⟨g4, 0, none⟩) (i + 1) c4))
         have hgV : w4.grownBy V (some X) := by rw [← hV]; exact gb_setCell (gb_refl _ _) _ _
         have htX : ∀ q, some X = some q → TypB w4 q 112 := fun q e => by injection e with e; subst e; exact hx4.typ
         have HXV : Hid (Blk V X 112 (finC m v aA all.length ac o L k [.slice bA nd bc, .slice (some ⟨g4, 0, none⟩) (i + 1) c4, .slice fA fs.length fc])) := hd' (by rw [← hV]; exact hx4.set 11 _); have HOV := hd' (own_keepT ho4 hgV htX (by decide)); have HGV := hd' (gb_trans (gb_then HG.out ((HBj.out.mono hzw).trans ((hal.mono (by omega)).trans (gb_below_of hgr4 (fun q e => (World.ownsRow.lt HTV5.out q e).1) (by simp; omega))))) hgV); have hz4 := hgr4.size; have hzV := hgV.size
         have hkeep : ∀ {a : Option Addr} {c' : Nat} {u : List Int}, RdN wr wr.heap.size none 3 a u.length c' (intsV .i64 u) → RdN V V.heap.size none 3 a u.length c' (intsV .i64 u) := fun h =>
          (((h.below hal).keepT hgr4 (by simp) hty4 (by decide)).keepT hgV (by simp at hz4; omega) htX (by decide)).more (by simp at hz4; omega)
         have HTRV : Hid (∀ (j' : Nat) (t' : List Int), ((m.tables.map (tabJ bm)).take (i + 1))[j']? = some t' → ∃ a c', (tvs ++ [Value.slice A j c])[j']? = some (.slice a t'.length c') ∧ RdN V V.heap.size none 3 a t'.length c' (intsV .i64 t')) := hd' fun j' t' hj' => by
          have hvl : tvs.length = i := by have := HTV.out.1; omega
          have hmx : (m.tables.map (tabJ bm))[i]? = some (tabJ bm t) := by rw [List.getElem?_map, HXT.out]; rfl
          have htk : ((m.tables.map (tabJ bm)).take i).length = i := by rw [List.length_take, List.length_map, HNB.out, Nat.min_eq_left (by omega)]
          rw [List.take_add_one, hmx] at hj'; rcases Nat.lt_or_ge j' i with hlt | hge
          · rw [List.getElem?_append_left (by rw [htk]; exact hlt)] at hj'; obtain ⟨a, c', h1, h2⟩ := HTR.out j' t' hj'; exact ⟨a, c', by rw [List.getElem?_append_left (by omega)]; exact h1, hkeep ((h2.below HBj.out).more HBj.out.size)⟩
          · rw [List.getElem?_append_right (by rw [htk]; exact hge), htk] at hj'
            have h0 : j' - i = 0 := by
             rcases Nat.eq_zero_or_pos (j' - i) with h | h
             · exact h
             · rw [List.getElem?_eq_none (by simp; omega)] at hj'
               cases hj'
            rw [h0] at hj'; simp only [Option.toList_some, List.getElem?_cons_zero, Option.some.injEq] at hj'; subst hj'; have hl : (tabJ bm t).length = j := by unfold tabJ; rw [List.length_map, HTN.out]
            refine ⟨A, c, by rw [List.getElem?_append_right (by omega), hvl, h0, hl]; rfl, hkeep ?_⟩; rw [hl]; exact own_done HOW5.out none (fun _ _ e => by cases e)
         clear ho4 hgr4 hat4 hlt4 hal hty4 hx4 hgV htX hkeep y_tb lX5
         go_wp2_with fail
         clear hV x11 x11f x11l; rw [← HBA.out]
         go_roundg (NB - (i + 1))
         case measure => omega
         case rel => exact ⟨i + 1, c4, _, tvs ++ [Value.slice A j c], by omega, by go_num, HGV, HXV, HOV, HTRV, Nat.le_refl _⟩
   · obtain rfl : i = NB := by omega
     have hiI : ¬ (i : Int) < (i : Int) := by omega
     have htl : (m.tables.map (tabJ bm)).length = i := by rw [List.length_map, HNB.out]
     have HTBR : Hid (TbR wr tA tc (m.tables.map (tabJ bm))) := hd' (by
      refine ⟨tvs, by rw [htl]; have := HTV.out.1; omega, by rw [htl]; exact own_done HTV.out none (fun _ _ e => by cases e), fun j t hj => ?_⟩; have h := HTR.out j t; rw [List.take_of_length_le (by rw [htl]; exact Nat.le_refl _)] at h
      exact h hj)
     have hfx := HXi.out; have HFX : Hid (Blk wr X 112 (finC m v aA all.length ac o L k [.slice bA ds2.length bc, .slice tA m.tables.length tc, .slice fA fs.length fc])) := hd' (by rw [HNB.out, HL1.out]; exact hfx); have HCMF := hd' (HC1.out.gbX HX1.out.typ HG.out); clear hi hgk hil hfx htl
     go_wp2
     go_end0
     exact ⟨rfl, tA, tc, H2, ds2, HFX.out, HCMF.out, HD1.out, HTBR.out⟩
end Go.Proofs.YtcdlgjhdbmmomaaGreatDoor
