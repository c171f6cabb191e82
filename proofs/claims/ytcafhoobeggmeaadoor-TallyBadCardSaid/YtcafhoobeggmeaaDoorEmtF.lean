/- Emit's items: where each block's and each function's begin. -/
import Derived.Test.YtcafhoobeggmeaaDoorFlowN
import Derived.Test.YtcafhoobeggmeaaDoorImgX
import Derived.Deep.DeepCutAuto
import Derived.Deep.CutBlock
import Derived.Deep.LoopGhost
import Derived.Deep.QuietTactic
import Derived.BigQuiet
import Derived.IntWalk
import Derived.WalkLawsBesides
import Derived.Test.YtcafhoobeggmeaaDoorEmtH
namespace Go.Proofs.YtcafhoobeggmeaaDoor
open Go.RowKit Go.Deep
theorem longer_id {P : List ItD} {fs : List Int} {t : ItD} (h : farI P fs t = false) : longer P fs t = t := by unfold longer; rw [if_neg (by rw [h]; simp)]
theorem map_longer_id {P : List ItD} {fs : List Int} : ∀ {l : List ItD}, l.any (farI P fs) = false → l.map (longer P fs) = l
 | [], _ => rfl
 | t :: r, h => by
  rw [List.any_cons, Bool.or_eq_false_iff] at h; rw [List.map_cons, longer_id h.1, map_longer_id h.2]
theorem any_take_succ {α : Type} {p : α → Bool} {l : List α} {k : Nat} {x : α} (h : l[k]? = some x) : (l.take (k + 1)).any p = ((l.take k).any p || p x) := by
 rw [List.take_add_one, h, List.any_append]; simp
set_option maxHeartbeats 8000000 in
set_option maxRecDepth 100000 in
theorem settle_mk {W0 w : World} {X : Nat} {m : Img} {v : ImgV} {d : FlowD} {xA yA zA : Option Addr} {xc yc zc : Nat} {its : List ItD} {iA : Option Addr} {ic fg bg : Nat} {fs bs : List Int} (h : MkM W0 w X m v d xA yA zA xc yc zc its iA ic fg bg fs bs) (hT : Tabs W0) (hok : ItsOk fs its) (hil : its.length ≤ 100000) (hne : its ≠ []) :
 Calls Tryd.prog 31 #[.pointer (some ⟨X, 0, none⟩)] w fun e w' => e = .returned (.int .i64 (szI (settleL fs its))) ∧ KeepT [135, 88, 3] w w' ∧ MkM W0 w' X m v d xA yA zA xc yc zc (settleL fs its) iA ic fg bg fs bs := by
 obtain ⟨gi, rfl⟩ := own_ptr h.its (by intro e; exact hne (List.length_eq_zero_iff.1 e)); obtain ⟨ni, hni⟩ := ex' its.length
 obtain ⟨RL, hRL⟩ := ex' (settleL fs its)
 rw [hRL]; have HM := hd' h; have HT := hd' hT; have HOK := hd' hok; have HNI := hd' hni; have HRL := hd' hRL; rw [hni] at hil; have hni0 : 0 < ni := by rw [← hni]; exact List.length_pos_iff.2 hne
 obtain ⟨NF, hNF⟩ := ex' fs.length
 have HNF := hd' hNF; have hicap : ni ≤ ic := by have := own_capG h.its; omega
 clear h hT hok hni hRL hne hNF
 go_enter Tryd.func31, Tryd.ntmps31
 go_wp2_with fail
 go_loopg [] (ni + 1) (fun gk wr => ∃ (l : List ItD) (f : Nat), Hid (MkM W0 wr X m v d xA yA zA xc yc zc l (some ⟨gi, 0, none⟩) ic fg bg fs bs) ∧ Hid (settleGo fs f l = RL ∧ shortN l < f ∧ ItsLe its l) ∧ Hid (KeepT [135, 88, 3] w wr) ∧ f ≤ gk)
 case atStart =>
  refine ⟨its, ni + 1, HM, hd' ⟨?_, ?_, ItsLe.refl _⟩, hd' (KeepT.refl _ _), Nat.le_refl _⟩
  · rw [← HRL.out, ← HNI.out]
    rfl
  · have := shortN_len its; have := HNI.out; omega
 case round =>
  obtain ⟨l, f, HMr, HS, HKr, hgk⟩ := hrel
  rename World => w1
  have HOKl := hd' (HOK.out.le HS.out.2.2); have HLN : Hid (l.length = ni) := hd' (HS.out.2.2.1 ▸ HNI.out); obtain ⟨P, hP⟩ := ex' (setPos 0 l)
  have HP := hd' hP; have HPN : Hid (P.length = ni) := hd' (by rw [← hP, setPos_len]; exact HLN.out); have x9 := HMr.out.blk.cell 9 rfl; rw [HLN.out] at x9; have xl := HMr.out.blk.lt; clear hP
  go_wp2_with fail
  go_loopg [3, 16] ni (fun gk s3 s16 wr2 => ∃ k : Nat, k ≤ ni ∧ s16 = .int .i64 k ∧ s3 = .int .i64 (szI (l.take k)) ∧ Hid (MkM W0 wr2 X m v d xA yA zA xc yc zc (posL l k) (some ⟨gi, 0, none⟩) ic fg bg fs bs) ∧ Hid (KeepT [135, 88, 3] w wr2) ∧ ni - k ≤ gk)
  case atStart => exact ⟨0, Nat.zero_le _, rfl, rfl, hd' (by unfold posL; rw [List.take_zero, List.nil_append, List.drop_zero]; exact HMr.out), HKr, Nat.le_refl _⟩
  case round =>
   obtain ⟨k, hk, rfl, rfl, HM2, HK2, hgk2⟩ := hrel
   rename World => w2
   have x9 := HM2.out.blk.cell 9 rfl; rw [posL_len, HLN.out] at x9; have xl := HM2.out.blk.lt
   by_cases hlt : k < ni
   · have hltK : (k : Int) < (ni : Int) := by omega
     have hk0 : (0 : Int) ≤ (k : Int) := by omega
     have ht : l[k]? = some (l[k]'(by have := HLN.out; omega)) := gE' _; obtain ⟨t, hte⟩ := ex' (l[k]'(by have := HLN.out; omega))
     rw [hte] at ht; obtain ⟨gi2, e2, hgl, -, hcs⟩ := HM2.out.item (posL_get ht); injection e2 with e2; injection e2 with e2; subst e2; obtain ⟨P0, hP0⟩ := ex' (szI (l.take k))
     obtain ⟨P1, hP1⟩ := ex' (szI (l.take (k + 1)))
     have hst := szI_take ht; have hb0 := szI_bd (l := l.take k) fun u hu => HOKl.out.chk u (List.mem_of_mem_take hu)
     have hb1 := szI_bd (l := l.take (k + 1)) fun u hu => HOKl.out.chk u (List.mem_of_mem_take hu)
     have hlt0 := List.length_take_le k l; have hlt1 := List.length_take_le (k + 1) l; have hck := HOKl.out.chk t (mG' ht)
     have HM5 : Hid (MkM W0 (w2.setCell ⟨gi, k * 11 + 10, none⟩ (.int .i64 P0)) X m v d xA yA zA xc yc zc (posL l (k + 1)) (some ⟨gi, 0, none⟩) ic fg bg fs bs) := hd' (by
      have := HM2.out.setI (posL_get ht) { t with pos := P0 } 10 (.int .i64 P0) (by decide) rfl; rw [← hP0, posL_step ht] at this; rw [← hP0]
      exact this)
     have HK5 : Hid (KeepT [135, 88, 3] w (w2.setCell ⟨gi, k * 11 + 10, none⟩ (.int .i64 P0))) := hd' (HK2.out.trans (KeepT.gb (gb_setCell (gb_refl w2 (some gi)) _ _) (T := 135) (by simp) (fun q e => by injection e with e; subst e; exact own_typ HM2.out.its rfl)))
     have HPG : Hid ((posL l (k + 1))[k]? = some { t with pos := P0 }) := hd' (by
      rw [← posL_step ht, hP0, List.getElem?_set_self (by rw [posL_len]; have := HLN.out; omega)])
     rw [hP0, hP1] at hst; rw [hP0] at hb0 ⊢; rw [hP1] at hb1; obtain ⟨⟨ik, id, ia, ib, inn, il⟩, bk, fnn, old, line, pos⟩ := t; simp only at hst; obtain ⟨Z, hZ⟩ := ex' (sizeK ik il)
     rw [hZ] at hst
     have HSZ : Hid (∀ W, Tabs W → Calls Tryd.prog 51 #[.agg #[.int .i64 ik, .int .i64 id, .int .i64 ia, .int .i64 ib, .int .i64 inn, .bool il]] W fun e w' => e = .returned (.tuple #[.int .i64 Z, .int .i64 0]) ∧ Below W.heap.size W w') := hd' fun W hW => by
      have := size_any ik id ia ib inn il W hW; have hc : chk ik id ia ib inn il = 0 := hck; rw [hc, if_pos rfl, hZ] at this; exact this
     have qz : IntKind.i64.wrap (P0 + Z) = P1 := by rw [IntWalk.i64_in _ (by omega)]; omega
     have c10 := (hcs 10 _ rfl).1; have cf10 := (hcs 10 _ rfl).2; have HP1 := hd' hP1; clear hte ht hst hb0 hb1 hlt0 hlt1 hck hZ hcs hP0 hP1
     go_upto_region 6 with fail
     obtain ⟨W5, hW5⟩ := ex' (w2.setCell ⟨gi, k * 11 + 10, none⟩ (.int .i64 P0))
     rw [hW5] at HM5 HK5 ⊢; obtain ⟨gi2, e2, hgl5, -, hcs⟩ := HM5.out.item HPG.out; injection e2 with e2; injection e2 with e2; subst e2; have k0 := (hcs 0 _ rfl).1; have k1 := (hcs 1 _ rfl).1; have k2 := (hcs 2 _ rfl).1; have k3 := (hcs 3 _ rfl).1; have k4 := (hcs 4 _ rfl).1; have k5 := (hcs 5 _ rfl).1; simp only [Nat.add_zero] at k0; have x9 := HM5.out.blk.cell 9 rfl; rw [posL_len, HLN.out] at x9; have xl := HM5.out.blk.lt; have hT5 := HT.out.below HM5.out.bel; clear hW5 hcs c10 cf10 hgl
     go_wp2_with fail
     refine (HSZ.out _ hT5).mono ?_; rintro e w6 ⟨rfl, hb6⟩; have HM6 := hd' (HM5.out.below hb6); have HK6 : Hid (KeepT [135, 88, 3] w w6) := hd' (HK5.out.trans (KeepT.below hb6)); clear hb6 k0 k1 k2 k3 k4 k5 x9 xl hT5 HM5 HK5 HSZ
     go_wp2_with fail
     go_roundg (ni - (k + 1))
     case measure => omega
     case rel => exact ⟨k + 1, by omega, (by go_num), (by rw [HP1.out]), HM6, HK6, Nat.le_refl _⟩
   · obtain rfl : k = ni := by omega
     have hltK : ¬ (k : Int) < (k : Int) := by omega
     have HM3 : Hid (MkM W0 w2 X m v d xA yA zA xc yc zc (lngL P fs 0) (some ⟨gi, 0, none⟩) ic fg bg fs bs) := hd' (by
      have := HM2.out
      have e : posL l k = lngL P fs 0 := by
       unfold posL lngL; rw [HP.out, List.take_of_length_le (by rw [HPN.out]; exact Nat.le_refl _), List.drop_of_length_le (by rw [HLN.out]; exact Nat.le_refl _)]; simp
      rw [e] at this
      exact this)
     obtain ⟨AT, hAT⟩ := ex' (szI (l.take k))
     have HAT : Hid (szI P = AT) := hd' (by
      rw [← HP.out, szI_setPos, ← hAT, List.take_of_length_le (by rw [HLN.out]; exact Nat.le_refl _)])
     rw [hAT]; clear hAT HM2
     go_wp2_with fail
     go_loopg [7, 48] k (fun gk s7 s48 wr3 => ∃ j : Nat, j ≤ k ∧ s48 = .int .i64 j ∧ s7 = .bool (!((P.take j).any (farI P fs))) ∧ Hid (MkM W0 wr3 X m v d xA yA zA xc yc zc (lngL P fs j) (some ⟨gi, 0, none⟩) ic fg bg fs bs) ∧ Hid (KeepT [135, 88, 3] w wr3) ∧ k - j ≤ gk)
     case atStart => exact ⟨0, Nat.zero_le _, rfl, rfl, HM3, HK2, Nat.le_refl _⟩
     case round =>
      obtain ⟨j, hj, rfl, rfl, HM4, HK4, hgk3⟩ := hrel
      rename World => w4
      have x9 := HM4.out.blk.cell 9 rfl; have x10 := HM4.out.blk.cell 10 rfl; rw [lngL_len, HPN.out] at x9; rw [HNF.out] at x10; have xl := HM4.out.blk.lt
      by_cases hlt2 : j < k
      · have hltJ : (j : Int) < (k : Int) := by omega
        have hj0 : (0 : Int) ≤ (j : Int) := by omega
        have ht : P[j]? = some (P[j]'(by have := HPN.out; omega)) := gE' _; obtain ⟨t, hte⟩ := ex' (P[j]'(by have := HPN.out; omega))
        rw [hte] at ht; have HTJ := hd' ht; have HNY := hd' (any_take_succ (p := farI P fs) ht); obtain ⟨gi2, e2, hgl, -, hcs⟩ := HM4.out.item (lngL_get (fs := fs) ht); injection e2 with e2; injection e2 with e2; subst e2; obtain ⟨⟨ik, id, ia, ib, inn, il⟩, bk, fnn, old, line, pk⟩ := t; have c5 := (hcs 5 _ rfl).1; have cf5 := (hcs 5 _ rfl).2; have c6 := (hcs 6 _ rfl).1; have c10 := (hcs 10 _ rfl).1; have hPok : ItsOk fs P := by rw [← HP.out]; exact HOKl.out.le (setPos_le l 0)
        have hbk := hPok.blk _ (mG' ht); simp only at hbk; obtain ⟨D, hD⟩ := ex' ((P.take j).any (farI P fs))
        rw [hD] at HNY ⊢; clear hte ht hcs hD
        have HREL : Hid (∀ W b, farI P fs ⟨⟨ik, id, ia, ib, inn, il⟩, bk, fnn, old, line, pk⟩ = b → MkM W0 W X m v d xA yA zA xc yc zc (lngL P fs (j + 1)) (some ⟨gi, 0, none⟩) ic fg bg fs bs → KeepT [135, 88, 3] w W → ∃ j' : Nat, j' ≤ k ∧ Value.int .i64 ((j : Int) + 1) = .int .i64 j' ∧ Value.bool (!(D || b)) = .bool (!((P.take j').any (farI P fs))) ∧ Hid (MkM W0 W X m v d xA yA zA xc yc zc (lngL P fs j') (some ⟨gi, 0, none⟩) ic fg bg fs bs) ∧ Hid (KeepT [135, 88, 3] w W) ∧ k - j' ≤ k - (j + 1)) := hd' fun W b h1 h2 h3 => ⟨j + 1, by omega, by go_num, by rw [HNY.out, h1], hd' h2, hd' h3, Nat.le_refl _⟩
        by_cases hb : bk < 0
        · have q1 : decide (bk < 0) = true := decide_eq_true hb; have HFF : Hid (farI P fs ⟨⟨ik, id, ia, ib, inn, il⟩, bk, fnn, old, line, pk⟩ = false) := hd' (by unfold farI; rw [decide_eq_false (by simp only; omega)]; rfl); clear hb hbk hPok c5 c10
          go_wp2_with fail
          go_roundg (k - (j + 1))
          case measure => omega
          case rel =>
           have := HREL.out _ false HFF.out (by rw [lngL_keep HTJ.out HFF.out]; exact HM4.out) HK4.out; rw [Bool.or_false] at this; exact this
        · have q1 : decide (bk < 0) = false := decide_eq_false hb; obtain ⟨hb1, hb2, hb3⟩ := hbk (by omega); rcases il with _ | _
          · obtain ⟨bN, rfl⟩ := Int.eq_ofNat_of_zero_le (show 0 ≤ bk by omega)
            have hfg : fs[bN]? = some (fs.getD bN 0) := by
             rw [List.getD_eq_getElem?_getD, gE' (by omega)]
             rfl
            rw [Int.toNat_natCast] at hb2 hb3; obtain ⟨fv, hfv⟩ := ex' (fs.getD bN 0)
            rw [hfv] at hfg hb2 hb3; obtain ⟨jN, rfl⟩ := Int.eq_ofNat_of_zero_le hb2; have htN : P[jN]? = some (P[jN]'(by omega)) := gE' _; obtain ⟨tN, htNe⟩ := ex' (P[jN]'(by omega))
            rw [htNe] at htN; obtain ⟨uN, huN, hup⟩ := lngL_pos (fs := fs) j htN; obtain ⟨gi2, e2, -, -, hcs⟩ := HM4.out.item huN; injection e2 with e2; injection e2 with e2; subst e2; have d10 := (hcs 10 _ rfl).1; rw [hup] at d10; have f10 := (own_cellf HM4.out.fst (intsV_at .i64 hfg)).1; have fl10 := (own_cellf HM4.out.fst (intsV_at .i64 hfg)).2.2; obtain ⟨pj, hpj⟩ := ex' tN.pos
            rw [hpj] at d10; have hPp : PosOk P := by rw [← HP.out]; exact setPos_ok l
            have b1 := szI_bd (l := P.take jN) fun u hu => hPok.chk u (List.mem_of_mem_take hu)
            have b2 := szI_bd (l := P.take j) fun u hu => hPok.chk u (List.mem_of_mem_take hu)
            have e1 := hPp jN tN htN; have e3 := hPp j _ HTJ.out; simp only at e3; rw [hpj] at e1; have b3 := List.length_take_le jN P; have b4 := List.length_take_le j P; have b5 := HPN.out; obtain ⟨dj, hdj⟩ := ex' (pj - pk)
            have qd : IntKind.i64.wrap (pj - pk) = dj := by rw [IntWalk.i64_in _ (by omega)]; exact hdj
            have hFAR : farI P fs ⟨⟨ik, id, ia, ib, inn, false⟩, (bN : Int), fnn, old, line, pk⟩ = (decide (dj < -128) || decide (127 < dj)) := by
             unfold farI posAt; simp only [Int.toNat_natCast, hfv, htN, Option.map_some, Option.getD_some, hpj, hdj]; simp
            have HFAR := hd' hFAR; have hbI : (bN : Int) < (NF : Int) := by have := HNF.out; omega
            have hb0 : (0 : Int) ≤ (bN : Int) := by omega
            have hjI : (jN : Int) < (k : Int) := by omega
            have hjN0 : (0 : Int) ≤ (jN : Int) := by omega
            have HM5 : Hid (MkM W0 (w4.setCell ⟨gi, j * 11 + 5, none⟩ (.bool true)) X m v d xA yA zA xc yc zc ((lngL P fs j).set j ⟨⟨ik, id, ia, ib, inn, true⟩, (bN : Int), fnn, old, line, pk⟩) (some ⟨gi, 0, none⟩) ic fg bg fs bs) := hd' (HM4.out.setI (lngL_get HTJ.out) ⟨⟨ik, id, ia, ib, inn, true⟩, (bN : Int), fnn, old, line, pk⟩ 5 (.bool true) (by decide) rfl)
            have HK5 : Hid (KeepT [135, 88, 3] w (w4.setCell ⟨gi, j * 11 + 5, none⟩ (.bool true))) := hd' (HK4.out.trans (KeepT.gb (gb_setCell (gb_refl w4 (some gi)) _ _) (T := 135) (by simp) (fun q e => by injection e with e; subst e; exact own_typ HM4.out.its rfl))); clear hfg hfv htN htNe huN hup hcs hpj hPp b1 b2 e1 e3 b3 b4 b5 hdj hFAR hb1 hb2 hb3 hPok hb hbk
            go_upto_region 15 with fail
            go_quiet (fail)
            rcases q2 : decide (dj < -128) with _ | _
            · rcases q3 : decide (127 < dj) with _ | _
              · have HFF := HFAR.out; rw [q2, q3] at HFF; have HFF := hd' HFF
                go_wp2_with fail
                go_roundg (k - (j + 1))
                case measure => omega
                case rel =>
                 have := HREL.out (w4.drewN nq) false HFF.out (by rw [lngL_keep HTJ.out HFF.out]; exact HM4.out.below (below_drewN (Below.refl _ _) _)) (HK4.out.trans (KeepT.below (below_drewN (Below.refl _ _) _))); rw [Bool.or_false] at this; exact this
              · have HFF := HFAR.out; rw [q2, q3] at HFF; simp only [Bool.or_true] at HFF; have HFF := hd' HFF
                go_wp2_with fail
                go_roundg (k - (j + 1))
                case measure => omega
                case rel =>
                 have := HREL.out ((w4.setCell ⟨gi, j * 11 + 5, none⟩ (.bool true)).drewN nq) true HFF.out (by
                  have h1 := HM5.out.below (below_drewN (Below.refl (w4.setCell ⟨gi, j * 11 + 5, none⟩ (.bool true)).heap.size (w4.setCell ⟨gi, j * 11 + 5, none⟩ (.bool true))) nq); rw [← lngL_step HTJ.out]; unfold longer; rw [if_pos HFF.out]
                  exact h1) (HK5.out.trans (KeepT.below (below_drewN (Below.refl _ _) _)))
                 rw [Bool.or_true] at this; exact this
            · have HFF := HFAR.out; rw [q2] at HFF; simp only [Bool.true_or] at HFF; have HFF := hd' HFF
              go_wp2_with fail
              go_roundg (k - (j + 1))
              case measure => omega
              case rel =>
               have := HREL.out ((w4.setCell ⟨gi, j * 11 + 5, none⟩ (.bool true)).drewN nq) true HFF.out (by
                have h1 := HM5.out.below (below_drewN (Below.refl (w4.setCell ⟨gi, j * 11 + 5, none⟩ (.bool true)).heap.size (w4.setCell ⟨gi, j * 11 + 5, none⟩ (.bool true))) nq); rw [← lngL_step HTJ.out]; unfold longer; rw [if_pos HFF.out]
                exact h1) (HK5.out.trans (KeepT.below (below_drewN (Below.refl _ _) _)))
               rw [Bool.or_true] at this; exact this
          · have HFF : Hid (farI P fs ⟨⟨ik, id, ia, ib, inn, true⟩, bk, fnn, old, line, pk⟩ = false) := hd' (by unfold farI; simp); clear hb hbk hPok c10 hb1 hb2 hb3
            go_wp2_with fail
            go_roundg (k - (j + 1))
            case measure => omega
            case rel =>
             have := HREL.out _ false HFF.out (by rw [lngL_keep HTJ.out HFF.out]; exact HM4.out) HK4.out; rw [Bool.or_false] at this; exact this
      · obtain rfl : j = k := by omega
        have hltJ : ¬ (j : Int) < (j : Int) := by omega
        have hlall : lngL P fs j = P.map (longer P fs) := by
         unfold lngL; rw [List.take_of_length_le (by rw [HPN.out]; exact Nat.le_refl _), List.drop_of_length_le (by rw [HPN.out]; exact Nat.le_refl _), List.append_nil]
        rw [List.take_of_length_le (by rw [HPN.out]; exact Nat.le_refl _)]; have HLA := hd' hlall; clear hlall; obtain ⟨f', hf'⟩ : ∃ z, f = z + 1 := ⟨f - 1, by have := HS.out.2.1; omega⟩
        have HF := hd' hf'; rcases hany : P.any (farI P fs) with _ | _
        · have HAN := hd' hany; clear hany hf'
          go_wp2_with fail
          go_ret
          have hR : RL = P := by
           rw [← HS.out.1, HF.out, settleGo, HP.out, if_neg (by rw [HAN.out]; simp)]
          refine ⟨by rw [hR, HAT.out]; rfl, HK4.out, ?_⟩; have := HM4.out; rw [HLA.out, map_longer_id HAN.out] at this; rw [hR]; exact this
        · have HAN := hd' hany; clear hany hf'
          go_wp2_with fail
          go_roundg f'
          case measure => have := HF.out; omega
          case rel =>
           refine ⟨P.map (longer P fs), f', hd' (by rw [← HLA.out]; exact HM4.out), hd' ⟨?_, ?_, ?_⟩, HK4, Nat.le_refl _⟩
           · rw [← HS.out.1, HF.out]
             conv => rhs; rw [settleGo]
             rw [HP.out, if_pos HAN.out]
           · have h1 := (shortN_longer P fs P).2 HAN.out; have h2 := HS.out.2.1; rw [← HP.out, shortN_setPos, HP.out] at h1; have := HF.out; omega
           · have h1 := setPos_le l 0; rw [HP.out] at h1; exact (HS.out.2.2.trans h1).trans (map_longer_le _ _ _)
end Go.Proofs.YtcafhoobeggmeaaDoor
namespace Go.Proofs.YtcafhoobeggmeaaDoor
open Go.RowKit
theorem withNext_fst : ∀ l : List Int, (withNext l).map Prod.fst = l
 | [] => rfl
 | [_] => rfl
 | b :: c :: r => by
  show b :: (withNext (c :: r)).map Prod.fst = _; rw [withNext_fst (c :: r)]
theorem withNext_at : ∀ (l : List Int) (k : Nat) (b : Int), l[k]? = some b → (withNext l)[k]? = some (b, (l[k + 1]?).getD (-1))
 | [], k, b, h => by simp at h
 | [x], k, b, h => by
  cases k with
  | zero =>
   simp at h; subst h
   rfl
  | succ k => simp at h
 | x :: c :: r, k, b, h => by
  cases k with
  | zero =>
   simp at h; subst h
   rfl
  | succ k =>
   have := withNext_at (c :: r) k b (by simpa using h); show (withNext (c :: r))[k]? = _; rw [this]
   rfl
def seqL (l : List PartD) : List (Int × Int) := l.flatMap fun p => withNext p.bs
def itsOf (d : FlowD) (xs : List (Int × Int)) : List ItD := xs.flatMap fun x => blkIts (d.blocks.getD x.1.toNat blkZ) x.2
theorem itsOf_app (d : FlowD) (a b : List (Int × Int)) : itsOf d (a ++ b) = itsOf d a ++ itsOf d b := by simp [itsOf]
theorem seqL_app (a b : List PartD) : seqL (a ++ b) = seqL a ++ seqL b := by simp [seqL]
theorem seqL_fst (l : List PartD) : (seqL l).map Prod.fst = l.flatMap PartD.bs := by
 induction l with
 | nil => rfl
 | cons p r ih =>
  show (withNext p.bs ++ seqL r).map Prod.fst = p.bs ++ r.flatMap PartD.bs; rw [List.map_append, withNext_fst, ih]
theorem mkB_items (d : FlowD) : ∀ (xs : List (Int × Int)) (s : MkD), (xs.foldl (mkB d) s).items = s.items ++ itsOf d xs ∧ (xs.foldl (mkB d) s).begin_ = s.begin_ ∧ (xs.foldl (mkB d) s).first.length = s.first.length
 | [], s => ⟨by simp [itsOf], rfl, rfl⟩
 | x :: r, s => by
  obtain ⟨h1, h2, h3⟩ := mkB_items d r (mkB d s x); refine ⟨?_, h2, ?_⟩
  · rw [List.foldl_cons, h1]; simp [mkB, itsOf]
  · rw [List.foldl_cons, h3]; simp [mkB]
theorem mkB_first (d : FlowD) : ∀ (xs : List (Int × Int)) (s : MkD), (∀ x ∈ xs, 0 ≤ x.1 ∧ x.1 < s.first.length) → (xs.map Prod.fst).Nodup →
 (∀ b : Int, b ∉ xs.map Prod.fst → 0 ≤ b → (xs.foldl (mkB d) s).first.getD b.toNat 0 = s.first.getD b.toNat 0) ∧
 ∀ (k : Nat) (x : Int × Int), xs[k]? = some x → (xs.foldl (mkB d) s).first.getD x.1.toNat 0 = ((s.items ++ itsOf d (xs.take k)).length : Int)
 | [], s, _, _ => ⟨fun b _ _ => rfl, fun k x h => by simp at h⟩
 | x :: r, s, hb, hn => by
  rw [List.map_cons, List.nodup_cons] at hn; obtain ⟨x0, x1⟩ := hb x (by simp); have hlen : (mkB d s x).first.length = s.first.length := by simp [mkB]
  obtain ⟨h1, h2⟩ := mkB_first d r (mkB d s x) (fun y hy => by rw [hlen]; exact hb y (by simp [hy])) hn.2
  have hset : (mkB d s x).first.getD x.1.toNat 0 = (s.items.length : Int) := by
   simp only [mkB, List.getD_eq_getElem?_getD]; rw [List.getElem?_set_self (by omega)]
   rfl
  refine ⟨fun b hbm h0 => ?_, fun k y hy => ?_⟩
  · rw [List.map_cons, List.mem_cons] at hbm; rw [List.foldl_cons, h1 b (fun e => hbm (.inr e)) h0]; simp only [mkB, List.getD_eq_getElem?_getD]; rw [List.getElem?_set_ne]; intro e; exact hbm (.inl (by omega))
  · rw [List.foldl_cons]
    cases k with
    | zero =>
     simp only [List.getElem?_cons_zero, Option.some.injEq] at hy; subst hy; rw [h1 x.1 hn.1 x0, hset]; simp [itsOf]
    | succ k =>
     rw [List.getElem?_cons_succ] at hy; rw [h2 k y hy]; simp [mkB, itsOf, List.take_succ_cons]
theorem mkL_items (d : FlowD) : ∀ (l : List PartD) (s : MkD), (l.foldl (mkP d) s).items = s.items ++ itsOf d (seqL l) ∧ (l.foldl (mkP d) s).first = ((seqL l).foldl (mkB d) s).first ∧ (l.foldl (mkP d) s).begin_.length = s.begin_.length
 | [], s => ⟨by simp [itsOf, seqL], rfl, rfl⟩
 | p :: r, s => by
  obtain ⟨h1, h2, h3⟩ := mkL_items d r (mkP d s p); obtain ⟨k1, k2, k3⟩ := mkB_items d (withNext p.bs) ⟨s.items, s.first, s.begin_.set p.fn.toNat s.items.length⟩
  have hgen : ∀ (xs : List (Int × Int)) (a b : MkD), a.items = b.items → a.first = b.first → (xs.foldl (mkB d) a).items = (xs.foldl (mkB d) b).items ∧ (xs.foldl (mkB d) a).first = (xs.foldl (mkB d) b).first := by
   intro xs
   induction xs with
   | nil => exact fun a b e1 e2 => ⟨e1, e2⟩
   | cons x xs ih =>
    intro a b e1 e2; exact ih _ _ (by simp [mkB, e1]) (by simp [mkB, e1, e2])
  refine ⟨?_, ?_, ?_⟩
  · rw [List.foldl_cons, h1]; show (((withNext p.bs).foldl (mkB d) ⟨s.items, s.first, s.begin_.set p.fn.toNat s.items.length⟩).items) ++ _ = _; rw [k1]; show _ = s.items ++ itsOf d (withNext p.bs ++ seqL r); rw [itsOf_app, List.append_assoc]
  · rw [List.foldl_cons, h2]; show _ = ((withNext p.bs ++ seqL r).foldl (mkB d) s).first
    rw [List.foldl_append]; obtain ⟨g1, g2⟩ := hgen (withNext p.bs) ⟨s.items, s.first, s.begin_.set p.fn.toNat s.items.length⟩ s rfl rfl; exact (hgen (seqL r) _ _ g1 g2).2
  · rw [List.foldl_cons, h3]; show ((withNext p.bs).foldl (mkB d) ⟨s.items, s.first, s.begin_.set p.fn.toNat s.items.length⟩).begin_.length = _; rw [k2]; simp
theorem mkL_begin (d : FlowD) : ∀ (l : List PartD) (s : MkD), (∀ p ∈ l, 0 ≤ p.fn ∧ p.fn < s.begin_.length) → (l.map PartD.fn).Nodup →
 (∀ f : Int, f ∉ l.map PartD.fn → 0 ≤ f → (l.foldl (mkP d) s).begin_.getD f.toNat 0 = s.begin_.getD f.toNat 0) ∧
 ∀ (k : Nat) (p : PartD), l[k]? = some p → (l.foldl (mkP d) s).begin_.getD p.fn.toNat 0 = ((s.items ++ itsOf d (seqL (l.take k))).length : Int)
 | [], s, _, _ => ⟨fun b _ _ => rfl, fun k x h => by simp at h⟩
 | p :: r, s, hb, hn => by
  rw [List.map_cons, List.nodup_cons] at hn; obtain ⟨x0, x1⟩ := hb p (by simp); obtain ⟨k1, k2, k3⟩ := mkB_items d (withNext p.bs) ⟨s.items, s.first, s.begin_.set p.fn.toNat s.items.length⟩; have e1 : (mkP d s p).items = s.items ++ itsOf d (withNext p.bs) := k1; have e2 : (mkP d s p).begin_ = s.begin_.set p.fn.toNat s.items.length := k2; have hlen : (mkP d s p).begin_.length = s.begin_.length := by rw [e2]; simp
  obtain ⟨h1, h2⟩ := mkL_begin d r (mkP d s p) (fun y hy => by rw [hlen]; exact hb y (by simp [hy])) hn.2
  have hset : (mkP d s p).begin_.getD p.fn.toNat 0 = (s.items.length : Int) := by
   rw [e2, List.getD_eq_getElem?_getD, List.getElem?_set_self (by omega)]
   rfl
  refine ⟨fun b hbm h0 => ?_, fun k y hy => ?_⟩
  · rw [List.map_cons, List.mem_cons] at hbm; rw [List.foldl_cons, h1 b (fun e => hbm (.inr e)) h0, e2, List.getD_eq_getElem?_getD, List.getD_eq_getElem?_getD, List.getElem?_set_ne]; intro e; exact hbm (.inl (by omega))
  · rw [List.foldl_cons]
    cases k with
    | zero =>
     simp only [List.getElem?_cons_zero, Option.some.injEq] at hy; subst hy; rw [h1 p.fn hn.1 x0, hset]; simp [itsOf, seqL]
    | succ k =>
     rw [List.getElem?_cons_succ] at hy; rw [h2 k y hy, e1]; simp [itsOf, seqL, List.take_succ_cons]
theorem mkL_at {d : FlowD} {l : List PartD} (h : OrdG d l) :
 (mkL d l).items = itsOf d (seqL l) ∧ (mkL d l).first.length = d.blocks.length ∧ (mkL d l).begin_.length = d.firsts.length ∧
 (∀ (k : Nat) (x : Int × Int), (seqL l)[k]? = some x → (mkL d l).first.getD x.1.toNat 0 = ((itsOf d ((seqL l).take k)).length : Int)) ∧
 (∀ (k : Nat) (p : PartD), l[k]? = some p → (mkL d l).begin_.getD p.fn.toNat 0 = ((itsOf d (seqL (l.take k))).length : Int)) := by
 have hnf : (l.map PartD.fn).Nodup := by
  rw [h.fns.nodup_iff]; exact List.Pairwise.map _ (fun a b h e => h (Int.ofNat.inj e)) List.nodup_range
 have hmem : ∀ p ∈ l, ∀ b ∈ p.bs, 0 ≤ b ∧ b < d.blocks.length ∧ (d.blocks.getD b.toNat blkZ).fn = p.fn := fun p hp b hb => mem_fnBs.1 ((h.bs p hp).1.mem_iff.1 hb)
 have hnb : ((seqL l).map Prod.fst).Nodup := by
  rw [seqL_fst]
  have gen : ∀ q : List PartD, (q.map PartD.fn).Nodup → (∀ p ∈ q, p.bs.Nodup ∧ ∀ b ∈ p.bs, (d.blocks.getD b.toNat blkZ).fn = p.fn) → (q.flatMap PartD.bs).Nodup := by
   intro q
   induction q with
   | nil => exact fun _ _ => List.nodup_nil
   | cons p r ih =>
    intro h1 h2; rw [List.map_cons, List.nodup_cons] at h1; rw [List.flatMap_cons, List.nodup_append]; refine ⟨(h2 p (by simp)).1, ih h1.2 (fun q hq => h2 q (by simp [hq])), fun a ha b hb e => ?_⟩; subst e; obtain ⟨q, hq, hbq⟩ := List.mem_flatMap.1 hb; have e1 := (h2 p (by simp)).2 a ha; have e2 := (h2 q (by simp [hq])).2 a hbq; exact h1.1 (List.mem_map.2 ⟨q, hq, by rw [← e2, e1]⟩)
  exact gen l hnf fun p hp => ⟨(h.bs p hp).1.nodup_iff.2 (fnBs_nodup d p.fn), fun b hb => (hmem p hp b hb).2.2⟩
 have hin : ∀ x ∈ seqL l, 0 ≤ x.1 ∧ x.1 < d.blocks.length := fun x hx => by
  obtain ⟨p, hp, hxp⟩ := List.mem_flatMap.1 hx
  have : x.1 ∈ p.bs := by
   have := List.mem_map_of_mem (f := Prod.fst) hxp; rwa [withNext_fst] at this
  obtain ⟨i1, i2, -⟩ := hmem p hp _ this; exact ⟨i1, i2⟩
 obtain ⟨a1, a2, a3⟩ := mkL_items d l ⟨[], List.replicate d.blocks.length 0, List.replicate d.firsts.length 0⟩; obtain ⟨b1, b2⟩ := mkB_first d (seqL l) ⟨[], List.replicate d.blocks.length 0, List.replicate d.firsts.length 0⟩ (fun x hx => by simpa using hin x hx) hnb; obtain ⟨c1, c2⟩ := mkL_begin d l ⟨[], List.replicate d.blocks.length 0, List.replicate d.firsts.length 0⟩ (fun p hp => by simpa using h.fn hp) hnf; refine ⟨?_, ?_, ?_, fun k x hx => ?_, fun k p hp => ?_⟩
 · show (l.foldl (mkP d) _).items = _; rw [a1]
   rfl
 · show (l.foldl (mkP d) _).first.length = _
   rw [a2, (mkB_items d (seqL l) _).2.2]; simp
 · show (l.foldl (mkP d) _).begin_.length = _; rw [a3]; simp
 · show (l.foldl (mkP d) _).first.getD _ _ = _
   rw [a2, b2 k x hx]
   rfl
 · show (l.foldl (mkP d) _).begin_.getD _ _ = _; rw [c2 k p hp]
   rfl
theorem OrdG.all {d : FlowD} {l : List PartD} (h : OrdG d l) (hd : ∀ b ∈ d.blocks, 0 ≤ b.fn ∧ b.fn < d.firsts.length) {n : Nat} (hn : n < d.blocks.length) : ∃ (k : Nat) (nx : Int), (seqL l)[k]? = some ((n : Int), nx) := by
 have hb : d.blocks.getD n blkZ ∈ d.blocks := by
  rw [List.getD_eq_getElem?_getD, gE' hn]; exact List.getElem_mem hn
 obtain ⟨i1, i2⟩ := hd _ hb
 have hf : (d.blocks.getD n blkZ).fn ∈ l.map PartD.fn := by
  rw [h.fns.mem_iff]; exact List.mem_map.2 ⟨(d.blocks.getD n blkZ).fn.toNat, List.mem_range.2 (by omega), by show ((d.blocks.getD n blkZ).fn.toNat : Int) = _; omega⟩
 obtain ⟨p, hp, hpf⟩ := List.mem_map.1 hf
 have hm : (n : Int) ∈ p.bs := by
  rw [(h.bs p hp).1.mem_iff, mem_fnBs]; exact ⟨by omega, by omega, by rw [hpf, Int.toNat_natCast]⟩
 have hm2 : (n : Int) ∈ (seqL l).map Prod.fst := by
  rw [seqL_fst]; exact List.mem_flatMap.2 ⟨p, hp, hm⟩
 obtain ⟨x, hx, hxe⟩ := List.mem_map.1 hm2; obtain ⟨k, hk⟩ := List.getElem?_of_mem hx; exact ⟨k, x.2, by rw [hk, ← hxe]⟩
end Go.Proofs.YtcafhoobeggmeaaDoor
