/- Emit's maker: program, walked. -/
import Derived.Test.YtcafhoobeggmeaaDoorFlowN
import Derived.Test.YtcafhoobeggmeaaDoorEmtC
import Derived.Test.YtcafhoobeggmeaaDoorClnI
import Derived.Test.YtcafhoobeggmeaaDoorKeepD
import Derived.Test.YtcafhoobeggmeaaDoorRegX
import Derived.Deep.DeepCutAuto
import Derived.Deep.CutBlock
import Derived.Deep.LoopGhost
import Derived.Deep.QuietTactic
import Derived.BigQuiet
import Derived.IntWalk
import Derived.WalkLawsBesides
namespace Go.Proofs.YtcafhoobeggmeaaDoor
open Go.RowKit Go.Deep
theorem infoIntsE : (Tryd.prog.info? 35).map (fun i => (i.zero, i.size, i.bytes)) = some (some (.slice none 0 0), 1, 24) := by kernel_rfl
theorem infoLineE : (Tryd.prog.info? 106).map (fun i => (i.zero, i.size, i.bytes)) = some (some (.agg #[.int .i64 0, .int .i64 0]), 2, 16) := by kernel_rfl
theorem OutS.keepV {w0 w : World} {O b0 b : Nat} {m : Img} {v : ImgV} (h : OutS w0 w O b0 m v) (hb : w0.heap.size ≤ b) (hne : O ≠ b) {T : TypeId} (ht : TypB w b T) (hT : ((5 ≠ T ∧ 72 ≠ T) ∧ 3 ≠ T ∧ 106 ≠ T) ∧ 35 ≠ T) (j : Nat) (u : Value) : OutS w0 (w.setCell ⟨b, j, none⟩ u) O b0 m v := by
 have gX := gb_setCell (gb_refl w (some b)) j u; have tX : ∀ g, some b = some g → TypB w g T := fun g e => by injection e with e; subst e; exact ht
 exact ⟨below_gb h.bel gX (fun g e => by injection e with e; subst e; exact hb), h.oge, h.blk.gb gX (fun e => by injection e with e; exact hne e.symm), own_keepT h.tx gX tX hT.1.1.1, own_keepT h.fn gX tX hT.1.1.2, own_keepT h.dt gX tX hT.1.2.1, own_keepT h.ln gX tX hT.1.2.2, h.tb.growT gX tX ⟨hT.1.2.1, hT.2⟩, h.bge, Nat.le_trans h.ble gX.size, h.dlt⟩
theorem outS_start {wa w1 : World} {m : Img} {n dc : Nat} {dA : Option Addr} (hb : Below wa.heap.size wa w1) (hn : m.data.length = n) (ho : w1.ownsRow wa.heap.size 3 1 (.slice dA n dc) n (intsV .i64 m.data)) :
 OutS wa (w1.alloc (.cells #[.slice none 0 0, .slice none 0 0, .slice none 0 0, .slice dA n dc, .slice none 0 0, .int .i64 0] 42)) w1.heap.size w1.heap.size ⟨[], [], [], m.data, [], 0⟩ ⟨none, 0, none, 0, none, 0, dA, dc, none, 0⟩ := by
 subst hn; exact ⟨hb.alloc hb.size _, hb.size, Blk.new w1 _ _, ⟨rfl, .inl ⟨rfl, rfl⟩⟩, ⟨rfl, .inl ⟨rfl, rfl⟩⟩, World.ownsRow.alloc ho _, ⟨rfl, .inl ⟨rfl, rfl⟩⟩, TabsAt.init _ _, hb.size, by simp, fun q hq => (World.ownsRow.lt ho q hq).2⟩
set_option maxHeartbeats 16000000 in
set_option maxRecDepth 100000 in
theorem program_mk {W0 w : World} {X : Nat} {m : Img} {v : ImgV} {d : FlowD} {xA yA zA : Option Addr} {xc yc zc : Nat} {its : List ItD} {iA : Option Addr} {ic fg bg : Nat} {s : MkD} (h : MkM W0 w X m v d xA yA zA xc yc zc its iA ic fg bg s.first s.begin_) (hT : Tabs W0) (hok : ImgOk m v) (l : List PartD) (A : Option Addr) (c : Nat) (hp : PartsRd W0 A c l) (hK : PgOk m d l s its) (hdl : m.data.length ≤ 1000) (size : Int) (hsz : size = endPos 0 its) (hs2 : 0 ≤ size ∧ size ≤ 400000) :
 Calls Tryd.prog 32 #[.pointer (some ⟨X, 0, none⟩), .slice A l.length c, .int .i64 size] w (PgPost w (emImg m d l s its)) := by
 obtain ⟨RX, hRX⟩ := ex' (emImg m d l s its)
 rw [hRX]; have HPO : Hid (∀ e w' v', e = .returned (.agg (RX.val v')) → Below w.heap.size w w' → ImgOwn w' w.heap.size RX v' → PgPost w RX e w') := hd' fun e w' v' h1 h2 h3 => ⟨h2, v', h1, h3⟩
 obtain ⟨nl, hnl⟩ := ex' l.length
 obtain ⟨ni, hni⟩ := ex' its.length
 obtain ⟨nf, hnf⟩ := ex' m.funcs.length
 obtain ⟨nd, hnd⟩ := ex' m.data.length
 obtain ⟨nt, hnt⟩ := ex' d.tables.length
 obtain ⟨nF, hnF⟩ := ex' s.first.length
 have hnB := hK.nf; rw [hnf] at hnB; have hb4 := And.intro hK.nl (And.intro hK.ni hK.nt); rw [hnl, hni, hnt] at hb4; obtain ⟨hnl2, hni2, hnt2⟩ := hb4; rw [hnd] at hdl; rw [hnl]; have hlc : nl ≤ c := by rw [← hnl]; exact hp.1
 have HRX := hd' hRX; have HNL := hd' hnl; have HNI := hd' hni; have HNF := hd' hnf; have HND := hd' hnd; have HNT := hd' hnt; have HNFI := hd' hnF; have HNB := hd' hnB; have HM := hd' h; have HT := hd' hT; have HOK := hd' hok; have HP := hd' hp; have HK := hd' hK; have HSZ := hd' hsz; obtain ⟨hs0, hs4⟩ := hs2; clear h hT hok hp hK hsz hRX hnl hni hnf hnd hnt hnF hnB
 go_enter Tryd.func32, Tryd.ntmps32
 go_upto_region 1 with fail
 obtain ⟨wa, hwa⟩ := ex' (w.alloc (.cells #[.slice none 0 0, .slice none 0 0, .slice none 0 0, .slice none 0 0, .slice none 0 0, .int .i64 0] 42))
 rw [hwa]; have hra : Blk wa w.heap.size 42 [.slice none 0 0, .slice none 0 0, .slice none 0 0, .slice none 0 0, .slice none 0 0, .int .i64 0] := by rw [← hwa]; exact Blk.new w _ _
 have hba : Below w.heap.size w wa := by rw [← hwa]; exact (Below.refl _ _).alloc lr' _
 obtain ⟨R, hR⟩ := ex' w.heap.size
 have HMA := hd' (HM.out.below hba); rw [hR] at hra ⊢; have HRA := hd' hra; have HBA := hd' hba; have HRE := hd' hR; have x3 := HMA.out.blk.cell 3 rfl; rw [HND.out] at x3; have xl := HMA.out.blk.lt; have hdR : RdG wa wa.heap.size v.dA (intsV .i64 m.data) := HMA.out.rdI.data
 have HCL := hd' (clone_intE m.data v.dA nd v.dc wa HND.out (fun e => by
  rcases Nat.eq_zero_or_pos nd with e0 | e0
  · exact e0
  · exfalso
    obtain ⟨b, o, h, -⟩ := hdR (by intro h; have h2 := congrArg List.length h; simp [intsV] at h2; have h3 := HND.out; rw [h2] at h3; simp at h3; omega); rw [e] at h
    cases h) (by omega) hdR)
 clear hwa hra hba hR hdR HM
 go_wp2_with fail
 refine HCL.out.mono ?_; rintro e w1 ⟨dA, dc, rfl, hb1, ho1⟩; have hout := outS_start hb1 HND.out ho1; have HCB := hd' hb1; clear HCL x3 xl hb1 ho1
 go_upto_region 2 with fail
 obtain ⟨W1, hW1⟩ := ex' (w1.alloc (.cells #[.slice none 0 0, .slice none 0 0, .slice none 0 0, .slice dA nd dc, .slice none 0 0, .int .i64 0] 42))
 rw [hW1] at hout ⊢; obtain ⟨Ob, hOb⟩ := ex' w1.heap.size
 rw [hOb] at hout ⊢; have HS1 := hd' hout; have HRD : Hid (∀ W, Below wa.heap.size wa W → MkM W0 W X m v d xA yA zA xc yc zc its iA ic fg bg s.first s.begin_) := hd' fun W hW => HMA.out.below hW
 have HXL := hd' HMA.out.blk.lt
 have HAD : Hid (∀ W n (j : Int), 0 ≤ j → Below wa.heap.size wa W → Calls Tryd.prog 52 #[.pointer (some ⟨X, 0, none⟩), .int .i64 j, .int .i64 size] (W.drewN n) fun e w' => e = .returned (.int .i64 (addrK its size j)) ∧ w' = W.drewN n) := hd' fun W n j hj hW => by
  obtain ⟨q, rfl⟩ := Int.eq_ofNat_of_zero_le hj; exact address_any (HRD.out _ (below_drewN hW n)) q size
 have HPA : Hid (∀ W (k : Nat) (p : PartD), Below wa.heap.size wa W → l[k]? = some p → ∃ (g o : Nat) (bA : Option Addr) (bc : Nat), A = some ⟨g, o, none⟩ ∧ g < W.heap.size ∧ W.cell? ⟨g, o + k * 2, none⟩ = some (.int .i64 p.fn) ∧ W.cell? ⟨g, o + k * 2 + 1, none⟩ = some (.slice bA p.bs.length bc)) := hd' fun W k p hW hk => by
  obtain ⟨g, o, bA, bc, h1, h2, h3, h4, -⟩ := (HP.out.below (HRD.out W hW).bel).at hk; exact ⟨g, o, bA, bc, h1, h2, h3, h4⟩
 have HFL : Hid (∀ k, k ≤ nl → ((outFuncs m s its size l).take k).length = k) := hd' fun k hk => by
  rw [List.length_take, outFuncs_len, HNL.out]; omega
 clear hW1 hOb hout
 go_upto_block 0 with fail
 go_cut [] (fun wx => ∃ V : ImgV, Hid (OutS wa wx Ob Ob ⟨[], outFuncs m s its size l, [], m.data, [], outEntry m.entry 0 0 l⟩ V))
 case first =>
  go_wp2_with fail
  go_loopg [31] nl (fun gk s31 wr => ∃ (k : Nat) (V : ImgV), k ≤ nl ∧ s31 = .int .i64 k ∧ Hid (OutS wa wr Ob Ob ⟨[], (outFuncs m s its size l).take k, [], m.data, [], outEntry m.entry 0 0 (l.take k)⟩ V) ∧ nl - k ≤ gk)
  case atStart => exact ⟨0, _, Nat.zero_le _, rfl, HS1, Nat.le_refl _⟩
  case round =>
   obtain ⟨k, V, hk, rfl, HS, hgk⟩ := hrel
   by_cases hlt : k < nl
   · have hltK : (k : Int) < (nl : Int) := by omega
     have hk0 : (0 : Int) ≤ (k : Int) := by omega
     have hpk : l[k]? = some (l[k]'(by have := HNL.out; omega)) := gE' _; obtain ⟨p, hpe⟩ := ex' (l[k]'(by have := HNL.out; omega))
     rw [hpe] at hpk; have HPK := hd' hpk; obtain ⟨pg, po, qA, qc, hlA, hpgl, hp0, hp1⟩ := HPA.out wr k p HS.out.bel hpk; obtain ⟨fn, bs⟩ := p; simp only at hp0 hp1; have hfn := HK.out.parts _ (mG' hpk); simp only at hfn; rw [HNF.out] at hfn; obtain ⟨fN, rfl⟩ := Int.eq_ofNat_of_zero_le hfn.1; have hfN : fN < nf := by omega
     have hfNI : (fN : Int) < (nf : Int) := hfn.2; obtain ⟨qn, hqn⟩ := ex' bs.length
     rw [hqn] at hp1; subst hlA; clear hpk hpe hfn hqn
     go_upto_region 6 with fail
     obtain ⟨U, hU⟩ := ex' (wr.alloc (.cells #[.int .i64 fN, .slice qA qn qc] 66))
     rw [hU]; have hbU : Below wr.heap.size wr U := by rw [← hU]; exact (Below.refl _ _).alloc lr' _
     have hpU : Blk U wr.heap.size 66 [.int .i64 fN, .slice qA qn qc] := by rw [← hU]; exact Blk.new wr _ _
     obtain ⟨BP, hBP⟩ := ex' wr.heap.size
     have hBPw : wa.heap.size ≤ BP := by have := HS.out.bel.size; omega
     rw [hBP] at hpU ⊢; have HSU := hd' (HS.out.keep hbU); have HPU := hd' hpU; have hMU := HRD.out U HSU.out.bel; have x10 := hMU.blk.cell 11 rfl; rw [HNB.out] at x10; have xl := hMU.blk.lt; have hbj : s.begin_[fN]? = some (s.begin_[fN]'(by have := HNB.out; omega)) := gE' _; obtain ⟨bv, hbv⟩ := ex' (s.begin_[fN]'(by have := HNB.out; omega))
     rw [hbv] at hbj; obtain ⟨b10, -, bl10⟩ := own_cellf hMU.bgn (intsV_at .i64 hbj); have hb0 := (HK.out.beg bv (mG' hbj)).1; have HADU : Hid (∀ n, Calls Tryd.prog 52 #[.pointer (some ⟨X, 0, none⟩), .int .i64 bv, .int .i64 size] (U.drewN n) fun e w' => e = .returned (.int .i64 (addrK its size bv)) ∧ w' = U.drewN n) := hd' fun n => HAD.out U n bv hb0 HSU.out.bel
     obtain ⟨sv, hsv⟩ := ex' (addrK its size bv)
     have hsb := HK.out.addr ⟨hs0, hs4⟩ bv; rw [hsv] at HADU hsb; have HSV : Hid (addrK its size (s.begin_.getD ((fN : Nat) : Int).toNat 0) = sv) := hd' (by rw [Int.toNat_natCast, List.getD_eq_getElem?_getD, hbj]; exact hsv); obtain ⟨ev, hev⟩ := ex' (((l[k + 1]?).map fun q => addrK its size (s.begin_.getD q.fn.toNat 0)).getD size)
     have HEV := hd' hev; have u0 := hpU.cell 0 rfl; have ul := hpU.lt; clear hp0 hp1 hpgl hU hbU hpU hBP hMU hbj hbv hsv hev
     go_upto_if 41 with fail
     go_cut [10] (fun s10 wx => s10 = .int .i64 ev ∧ Hid (OutS wa wx Ob Ob ⟨[], (outFuncs m s its size l).take k, [], m.data, [], outEntry m.entry 0 0 (l.take k)⟩ V) ∧ Hid (Blk wx BP 66 [.int .i64 fN, .slice qA qn qc]))
     case first =>
      by_cases h1 : k + 1 < nl
      · have h1I : (k : Int) + 1 < (nl : Int) := by omega
        have hqk : l[k + 1]? = some (l[k + 1]'(by have := HNL.out; omega)) := gE' _; obtain ⟨q, hqe⟩ := ex' (l[k + 1]'(by have := HNL.out; omega))
        rw [hqe] at hqk; obtain ⟨pg2, po2, qA2, qc2, hlA2, hpgl2, hq0, -⟩ := HPA.out U (k + 1) q HSU.out.bel hqk; injection hlA2 with hlA2; injection hlA2 with e1 e2; subst e1 e2; have hfq := HK.out.parts _ (mG' hqk); rw [HNF.out] at hfq; obtain ⟨fq, bq⟩ := q; simp only at hq0 hfq; obtain ⟨fM, rfl⟩ := Int.eq_ofNat_of_zero_le hfq.1; have hfMI : (fM : Int) < (nf : Int) := hfq.2; have hfM0 : (0 : Int) ≤ (fM : Int) := hfq.1; have hcj : s.begin_[fM]? = some (s.begin_[fM]'(by have := HNB.out; omega)) := gE' _
        obtain ⟨cv, hcv⟩ := ex' (s.begin_[fM]'(by have := HNB.out; omega))
        rw [hcv] at hcj; obtain ⟨c10, -, -⟩ := own_cellf (HRD.out U HSU.out.bel).bgn (intsV_at .i64 hcj); have hc0 := (HK.out.beg cv (mG' hcj)).1
        have HADV : Hid (∀ n, Calls Tryd.prog 52 #[.pointer (some ⟨X, 0, none⟩), .int .i64 cv, .int .i64 size] (U.drewN n) fun e w' => e = .returned (.int .i64 ev) ∧ w' = U.drewN n) := hd' fun n => by
         have h := HAD.out U n cv hc0 HSU.out.bel
         have e : addrK its size cv = ev := by
          rw [← HEV.out, hqk]; show _ = addrK its size (s.begin_.getD ((fM : Int)).toNat 0); rw [Int.toNat_natCast, List.getD_eq_getElem?_getD, hcj]
          rfl
         rw [e] at h; exact h
        have qk1 : IntKind.i64.wrap ((k : Int) + 1) = (k : Int) + 1 := IntWalk.i64_in _ (by omega); clear hqk hqe hcj hcv hc0 hfq b10 bl10
        go_wp2_with fail
        go_quiet (first | (go_at_call 52; refine Calls.quiet_of_same (HADV.out _)))
        go_wp2_with fail
        go_meet
        exact ⟨rfl, hd' (HSU.out.keep (below_drewN (Below.refl _ _) _)), hd' (HPU.out.drewN _)⟩
      · have h1I : ¬ (k : Int) + 1 < (nl : Int) := by omega
        have HE2 : Hid (size = ev) := hd' (by rw [← HEV.out, List.getElem?_eq_none (by have := HNL.out; omega)]; rfl); clear b10 bl10
        go_wp2_with fail
        go_meet
        exact ⟨by rw [HE2.out], HSU, HPU⟩
     case rest =>
      obtain ⟨rfl, HSC, HPC⟩ := hcut; clear x10 xl b10 bl10 u0 ul HADU HSU HPU; have hMC := HRD.out wc HSC.out.bel; have x10 := hMC.blk.cell 11 rfl; rw [HNB.out] at x10; have xl := hMC.blk.lt; have hbj : s.begin_[fN]? = some (s.begin_[fN]'(by have := HNB.out; omega)) := gE' _; obtain ⟨bv2, hbv⟩ := ex' (s.begin_[fN]'(by have := HNB.out; omega))
      rw [hbv] at hbj
      have HSV2 : Hid (addrK its size bv2 = sv) := hd' (by
       rw [← HSV.out, Int.toNat_natCast, List.getD_eq_getElem?_getD, hbj]
       rfl)
      obtain ⟨b10, -, bl10⟩ := own_cellf hMC.bgn (intsV_at .i64 hbj); have hb20 := (HK.out.beg bv2 (mG' hbj)).1
      have HADC : Hid (∀ n, Calls Tryd.prog 52 #[.pointer (some ⟨X, 0, none⟩), .int .i64 bv2, .int .i64 size] (wc.drewN n) fun e w' => e = .returned (.int .i64 sv) ∧ w' = wc.drewN n) := hd' fun n => by
       have h := HAD.out wc n bv2 hb20 HSC.out.bel; rw [HSV2.out] at h; exact h
      have u0 := HPC.out.cell 0 rfl; have ul := HPC.out.lt; have hfN0 : (0 : Int) ≤ (fN : Int) := by omega
      clear hMC hbj hbv hb20
      go_upto_region 8 with fail
      go_cut [11] (fun s11 wx => s11 = .int .i64 sv ∧ Hid (OutS wa wx Ob Ob ⟨[], (outFuncs m s its size l).take k, [], m.data, [], outEntry m.entry 0 0 (l.take k)⟩ V) ∧ Hid (Blk wx BP 66 [.int .i64 fN, .slice qA qn qc]))
      case first =>
       go_quiet (first | (go_at_call 52; refine Calls.quiet_of_same (HADC.out _)))
       go_wp2_with fail
       go_meet
       exact ⟨rfl, hd' (HSC.out.keep (below_drewN (Below.refl _ _) _)), hd' (HPC.out.drewN _)⟩
      case rest =>
       clear x10 xl b10 bl10 u0 ul HADC HSC HPC HSV2; obtain ⟨rfl, HSC, HPC⟩ := hcut; have x5 := (HRD.out wc HSC.out.bel).blk.cell 5 rfl; have xl := (HRD.out wc HSC.out.bel).blk.lt; have u0 := HPC.out.cell 0 rfl; have ul := HPC.out.lt; have o5 := HSC.out.blk.cell 5 rfl; have of5 := HSC.out.blk.free 5; have ol := HSC.out.blk.lt
       go_upto_region 9 with fail
       have HEN := hd' (outEntry_take m.entry l 0 0 k _ HPK.out); simp only [Int.zero_add] at HEN
       go_quiet (fail)
       go_upto_if 75 with fail
       go_cut [] (fun wx => Hid (OutS wa wx Ob Ob ⟨[], (outFuncs m s its size l).take k, [], m.data, [], outEntry m.entry 0 0 (l.take (k + 1))⟩ V) ∧ Hid (Blk wx BP 66 [.int .i64 fN, .slice qA qn qc]))
       case first =>
        by_cases he : (fN : Int) = m.entry
        · have q75 : ((fN : Int) == m.entry) = true := by rw [he]; simp
          have HE2 : Hid (outEntry m.entry 0 0 (l.take (k + 1)) = (k : Int)) := hd' (by have := HEN.out; rw [if_pos he] at this; exact this); clear he
          go_wp2_with fail
          go_meet
          exact ⟨hd' (by rw [HE2.out]; exact (HSC.out.keep (below_drewN (Below.refl wc.heap.size wc) _)).entry k), hd' ((HPC.out.drewN _).keepT (gb_setCell (gb_refl (wc.drewN _) (some Ob)) 5 (.int .i64 k)) (fun g e => by injection e with e; subst e; exact (HSC.out.blk.drewN _).typ) (by decide))⟩
        · have q75 : ((fN : Int) == m.entry) = false := by simpa using he
          have HE2 : Hid (outEntry m.entry 0 0 (l.take (k + 1)) = outEntry m.entry 0 0 (l.take k)) := hd' (by have := HEN.out; rw [if_neg he] at this; exact this); clear he
          go_wp2_with fail
          go_meet
          exact ⟨by rw [HE2.out]; exact hd' (HSC.out.keep (below_drewN (Below.refl _ _) _)), hd' (HPC.out.drewN _)⟩
       case rest =>
        clear x5 xl u0 ul o5 of5 ol HSC HPC HEN; obtain ⟨HSC, HPC⟩ := hcut; obtain ⟨vtA, vtc, fA, fc, vbA, vbc, vdA, vdc, vlA, vlc⟩ := V; have hFk := HFL.out k hk; have o1 := HSC.out.blk.cell 1 rfl; rw [hFk] at o1; have of1 := HSC.out.blk.free 1; have ol := HSC.out.blk.lt; have hMC := HRD.out wc HSC.out.bel; have x1 := hMC.blk.cell 1 rfl; rw [HNF.out] at x1; have xl := hMC.blk.lt; have u0 := HPC.out.cell 0 rfl; have ul := HPC.out.lt; have hfg : m.funcs[fN]? = some (m.funcs[fN]'(by have := HNF.out; omega)) := gE' _
        obtain ⟨f, hfe⟩ := ex' (m.funcs[fN]'(by have := HNF.out; omega))
        rw [hfe] at hfg; obtain ⟨mg, mo, hmA, hmgl, hmc, -⟩ := hMC.rdI.funcs.at3 hfg; have hmfc : nf ≤ v.fc := by have := HOK.out.fc; rw [HNF.out] at this; exact this
        obtain ⟨nm, hnm⟩ := ex' f.name
        rw [hnm] at hmc; have HMA1 := hd' hmA
        have HMC : Hid (∀ W, Below wa.heap.size wa W → W.cell? ⟨mg, mo + fN * 3, none⟩ = some (.string nm)) := hd' fun W hW => by
         obtain ⟨mg2, mo2, hmA2, -, hmc2, -⟩ := (HRD.out W hW).rdI.funcs.at3 hfg; rw [hmA] at hmA2; injection hmA2 with hmA2; injection hmA2 with e1 e2; subst e1 e2; rw [hnm] at hmc2; exact hmc2
        rw [hmA] at x1
        have HNX : Hid (funcsV ((outFuncs m s its size l).take (k + 1)) = funcsV ((outFuncs m s its size l).take k) ++ [.string nm, .int .i64 sv, .int .i64 (ev - sv)]) := hd' (by
         rw [List.take_add_one, outFuncs_at m s its size l k _ HPK.out, Option.toList_some, funcsV_snoc]; simp only
         rw [HSV.out, HEV.out, List.getD_eq_getElem?_getD (l := m.funcs), Int.toNat_natCast, hfg, Option.getD_some, hnm])
        have HOF : Hid (wc.ownsRow wa.heap.size 72 3 (.slice fA k fc) k (funcsV ((outFuncs m s its size l).take k))) := hd' (by have := HSC.out.fn; simp only [hFk] at this; exact this)
        have hevb : 0 ≤ ev ∧ ev ≤ 400000 := by
         rw [← HEV.out]; rcases hq : l[k + 1]? with _ | q
         · exact ⟨hs0, hs4⟩
         · exact HK.out.addr ⟨hs0, hs4⟩ _
        have qw : IntKind.i64.wrap (ev - sv) = ev - sv := IntWalk.i64_in _ (by omega); have hfN0 : (0 : Int) ≤ (fN : Int) := by omega
        have hwac := HSC.out.bel.size; clear hFk hMC hfg hfe hmA hnm
        go_upto_region 11 with fail
        refine wp_region_W (fun w' => w'.cell? ⟨Ob, 1, none⟩ = some (.slice fA k fc) ∧ w'.cell? ⟨X, 1, none⟩ = some (.slice (some ⟨mg, mo, none⟩) nf v.fc) ∧ w'.cell? ⟨BP, 0, none⟩ = some (.int .i64 fN) ∧ w'.cell? ⟨mg, mo + fN * 3, none⟩ = some (.string nm)) 20 (by kernel_rfl) (by (try dsimp only); go_keep) (fun zH => ?_); refine wq 0 zH ?_; refine wq 1 zH ?_; refine wq 2 zH ?_; refine wq 3 zH ?_; refine wq 4 zH ?_; refine wq 5 zH ?_; refine wq 6 zH ?_; refine wq 7 zH ?_; refine wq 8 zH ?_; refine wq 9 zH ?_; refine wq 10 zH ?_; refine wq 11 zH ?_; refine wq 12 zH ?_; refine wq 13 zH ?_; refine wq 14 zH ?_; refine wq 15 zH ?_; refine wq 16 zH ?_
        refine wpW_one 17 rfl (by kernel_rfl) (fun K hK => ?_)
        go_simp
        refine hK.out _ _ (by (try dsimp only); go_keep) (fun zH => ?_); clear hK K; (try simp only [putE]); refine wpW_one 18 rfl (by kernel_rfl) (fun K hK => ?_); have hr1 : (wc.alloc (.cells #[.string nm, .int .i64 sv, .int .i64 (ev - sv)] 72)).drew.heap[wc.heap.size]? = some (.cells #[.string nm, .int .i64 sv, .int .i64 (ev - sv)] 72 (0, 0)) := heap_alloc_new wc _
        have ho1 : (wc.alloc (.cells #[.string nm, .int .i64 sv, .int .i64 (ev - sv)] 72)).drew.ownsRow wa.heap.size 72 3 (.slice fA k fc) k (funcsV ((outFuncs m s its size l).take k)) := World.ownsRow.alloc HOF.out _; have hz1 : (wc.alloc (.cells #[.string nm, .int .i64 sv, .int .i64 (ev - sv)] 72)).drew.heap.size = wc.heap.size + 1 := (by simp)
        have hbb : wa.heap.size ≤ (wc.alloc (.cells #[.string nm, .int .i64 sv, .int .i64 (ev - sv)] 72)).drew.heap.size := (by rw [hz1]; omega)
        refine step_app_one rfl _ _ 38 72 3 32 _ Tryd.underlying38 infoFunc rfl (by decide) rfl wa.heap.size _ k _ rfl ho1 wc.heap.size 1 rfl [.string nm, .int .i64 sv, .int .i64 (ev - sv)] 72 (0, 0) hr1 rfl (by simp [Value.oneCell']) (by omega) (by omega) hbb (wc.heap.size + 1) hz1 (fun g2 c2 w2 ho2 hgr2 hat2 hlt2 => ?_); have hbD : Below wc.heap.size wc (wc.alloc (.cells #[.string nm, .int .i64 sv, .int .i64 (ev - sv)] 72)).drew := ((Below.refl wc.heap.size wc).alloc lr' _).drew; have hSD := HSC.out.keep hbD
        have hgS : ((wc.alloc (.cells #[.string nm, .int .i64 sv, .int .i64 (ev - sv)] 72)).drew).grownBy w2 (Value.slice fA ((outFuncs m s its size l).take k).length fc).ownBlock := by rw [HFL.out k hk]; exact hgr2
        have hty : ∀ g, (Value.slice fA ((outFuncs m s its size l).take k).length fc).ownBlock = some g → TypB (wc.alloc (.cells #[.string nm, .int .i64 sv, .int .i64 (ev - sv)] 72)).drew g 72 := fun g e => own_typ hSD.fn e
        have hOb2 := hSD.var hgS hty (by decide); have hB2 : Below wa.heap.size wa w2 := below_gb hSD.bel hgS (fun g e => (World.ownsRow.lt hSD.fn g e).1); have HB2 := hd' hB2; have hP2 := (HPC.out.keep hbD).keepT hgS hty (by decide); have HP2 := hd' hP2; have HFIN := hd' (hSD.func (n := k + 1) (c' := c2) (A' := some ⟨g2, 0, none⟩) (L' := (outFuncs m s its size l).take (k + 1)) hgS (by rw [HNX.out]; exact ho2) (HFL.out (k + 1) (by omega))); have y1 := hOb2.cell 1 rfl; have hFk := HFL.out k hk; simp only [hFk] at y1; have yf1 := hOb2.free 1; have yl := hOb2.lt
        have y2 := (HRD.out w2 hB2).blk.cell 1 rfl; have hmA2 := HMA1.out; rw [HNF.out, hmA2] at y2; have y3 := hP2.cell 0 rfl; have y4 : w2.cell? ⟨mg, mo + fN * 3, none⟩ = some (.string nm) := HMC.out w2 hB2; clear hr1 ho1 hz1 hbb hgr2 hat2 hbD hSD hgS hty hOb2 hB2 hP2 hmA2 hFk ho2; refine hK.out _ _ (by (try dsimp only); exact ⟨y1, y2, y3, y4⟩) (fun zH => ?_); clear hK K; (try simp only [putE]); refine wpW_one 19 rfl (by kernel_rfl) (fun K hK => ?_)
        go_simp
        refine hK.out _ _ (by (try dsimp only); exact ⟨y1, y2, y3, y4⟩) (fun zH => ?_); clear hK K; (try simp only [putE]); refine wpW_last 20 rfl (by kernel_rfl) (by decide) (fun K hK => ?_)
        go_simp
        refine hK.out _ _ ?_; clear hK K; (try simp only [putE]); refine wpW_done (by kernel_rfl) ?_ _
        go_wp2_with fail
        go_roundg (nl - (k + 1))
        case measure => omega
        case rel => exact ⟨k + 1, _, by omega, by go_num, HFIN, Nat.le_refl _⟩
   · have hltK : ¬ (k : Int) < (nl : Int) := by omega
     obtain rfl : k = nl := by omega
     go_wp2_with fail
     go_meet
     exact ⟨V, by have := HS.out; rw [List.take_of_length_le (by rw [outFuncs_len, HNL.out]; exact Nat.le_refl _), List.take_of_length_le (by rw [HNL.out]; exact Nat.le_refl _)] at this; exact hd' this⟩
 case rest =>
  obtain ⟨V0, HS0⟩ := hcut; clear HCB HS1 HPA HFL HAD; have x9 := (HRD.out wc HS0.out.bel).blk.cell 9 rfl; rw [HNI.out] at x9; have xl := (HRD.out wc HS0.out.bel).blk.lt
  go_upto_block 2 with fail
  go_cut [] (fun wx => ∃ V : ImgV, Hid (OutS wa wx Ob Ob ⟨txtL its s its, outFuncs m s its size l, [], m.data, itLines 0 its, outEntry m.entry 0 0 l⟩ V))
  case first =>
   clear x9 xl
   go_wp2_with fail
   go_loopg [12, 104] ni (fun gk s12 s104 wr => ∃ (j : Nat) (V : ImgV), j ≤ ni ∧ s104 = .int .i64 j ∧ s12 = .int .i64 (lnAft 0 (its.take j)) ∧ Hid (OutS wa wr Ob Ob ⟨txtL its s (its.take j), outFuncs m s its size l, [], m.data, itLines 0 (its.take j), outEntry m.entry 0 0 l⟩ V) ∧ ni - j ≤ gk)
   case atStart => exact ⟨0, V0, Nat.zero_le _, rfl, rfl, HS0, Nat.le_refl _⟩
   case round =>
    obtain ⟨j, V, hj, rfl, rfl, HS, hgk⟩ := hrel
    by_cases hlt : j < ni
    · have hltJ : (j : Int) < (ni : Int) := by omega
      have hj0 : (0 : Int) ≤ (j : Int) := by omega
      have ht : its[j]? = some (its[j]'(by have := HNI.out; omega)) := gE' _; obtain ⟨t, hte⟩ := ex' (its[j]'(by have := HNI.out; omega))
      rw [hte] at ht; have hM := HRD.out wr HS.out.bel; obtain ⟨gi, hiA, hgl, -, hcs⟩ := hM.item ht; have hcap : ni ≤ ic := by have := own_capG hM.its; have := HNI.out; omega
      have HTJ := hd' ht; have hbk := HK.out.blk t (mG' ht); have hfk := HK.out.fn t (mG' ht); have hck := HK.out.chk t (mG' ht); have hps := HK.out.pos t (mG' ht); have HBK := hd' hbk; have HFK := hd' hfk; have HCK := hd' hck; obtain ⟨⟨ik, id, ia, ib, inn, il⟩, bk, fnn, old, line, pos⟩ := t; simp only at hps; subst hiA; have c0 := (hcs 0 _ rfl).1; have c1 := (hcs 1 _ rfl).1; have c2 := (hcs 2 _ rfl).1; have c3 := (hcs 3 _ rfl).1; have c4 := (hcs 4 _ rfl).1; have c5 := (hcs 5 _ rfl).1; have c6 := (hcs 6 _ rfl).1
      have c7 := (hcs 7 _ rfl).1; have c8 := (hcs 8 _ rfl).1; have c9 := (hcs 9 _ rfl).1; have c10 := (hcs 10 _ rfl).1; simp only [Nat.add_zero] at c0; clear hte ht hM hcs hbk hfk hck
      go_upto_block 4 with fail
      obtain ⟨U, hU⟩ := ex' (wr.alloc (.cells #[.int .i64 ik, .int .i64 id, .int .i64 ia, .int .i64 ib, .int .i64 inn, .bool il, .int .i64 bk, .int .i64 fnn, .int .i64 old, .int .i64 line, .int .i64 pos] 135))
      rw [hU]; have hbU : Below wr.heap.size wr U := by rw [← hU]; exact (Below.refl _ _).alloc lr' _
      have hpU : Blk U wr.heap.size 135 [.int .i64 ik, .int .i64 id, .int .i64 ia, .int .i64 ib, .int .i64 inn, .bool il, .int .i64 bk, .int .i64 fnn, .int .i64 old, .int .i64 line, .int .i64 pos] := by rw [← hU]; exact Blk.new wr _ _
      obtain ⟨BT, hBT⟩ := ex' wr.heap.size
      have hBTw : wa.heap.size ≤ BT := by have := HS.out.bel.size; omega
      have HBTO : Hid (Ob < BT) := hd' (by have := HS.out.blk.lt; omega); rw [hBT] at hpU ⊢; have HSU := hd' (HS.out.keep hbU); have HPU := hd' hpU; have hMU := HRD.out U HSU.out.bel; obtain ⟨gi2, hiA2, hgl2, hgw2, hcsU⟩ := hMU.item HTJ.out; injection hiA2 with hiA2; injection hiA2 with hiA2; subst hiA2; have x9 := hMU.blk.cell 9 rfl; have x10 := hMU.blk.cell 10 rfl; have x11 := hMU.blk.cell 11 rfl; rw [HNI.out] at x9; rw [HNFI.out] at x10; rw [HNB.out] at x11; have xl := hMU.blk.lt; have u6 := HPU.out.cell 6 rfl; have u7 := HPU.out.cell 7 rfl; have u10 := HPU.out.cell 10 rfl
      have uf4 := HPU.out.free 4; have ul := HPU.out.lt; have hTX : ¬ BT = X := by have := HXL.out; omega
      have hTG : ¬ BT = gi := by
       intro e; have := (HRD.out wa (Below.refl _ _)).item HTJ.out; obtain ⟨g3, e3, h3, -⟩ := this; injection e3 with e3; injection e3 with e3; omega
      clear hU hbU hpU hBT hMU c0 c1 c2 c3 c4 c5 c6 c7 c8 c9 c10 hgl hcsU
      go_cut [] (fun wx => Hid (OutS wa wx Ob Ob ⟨txtL its s (its.take j), outFuncs m s its size l, [], m.data, itLines 0 (its.take j), outEntry m.entry 0 0 l⟩ V) ∧ Hid (Blk wx BT 135 (itC { (⟨⟨ik, id, ia, ib, inn, il⟩, bk, fnn, old, line, pos⟩ : ItD) with i := resIt its s ⟨⟨ik, id, ia, ib, inn, il⟩, bk, fnn, old, line, pos⟩ })))
      case first =>
       by_cases hb : 0 ≤ bk
       · obtain ⟨bN, rfl⟩ := Int.eq_ofNat_of_zero_le hb; obtain ⟨k1, k2, k3⟩ := HBK.out hb; simp only [Int.toNat_natCast] at k1 k2 k3; rw [HNI.out] at k3
         have hfg : s.first[bN]? = some (s.first.getD bN 0) := by
          rw [List.getD_eq_getElem?_getD, gE' (by omega)]
          rfl
         obtain ⟨fv, hfv⟩ := ex' (s.first.getD bN 0)
         rw [hfv] at hfg k2 k3; obtain ⟨jN, rfl⟩ := Int.eq_ofNat_of_zero_le k2; have hMU := HRD.out U HSU.out.bel; obtain ⟨f10, -, fl10⟩ := own_cellf hMU.fst (intsV_at .i64 hfg); have htN : its[jN]? = some (its[jN]'(by have := HNI.out; omega)) := gE' _; obtain ⟨tN, htNe⟩ := ex' (its[jN]'(by have := HNI.out; omega))
         rw [htNe] at htN; obtain ⟨g3, e3, -, -, hcN⟩ := hMU.item htN; injection e3 with e3; injection e3 with e3; subst e3; have d10 := (hcN 10 _ rfl).1; obtain ⟨pj, hpj⟩ := ex' tN.pos
         rw [hpj] at d10; have hpb := HK.out.pos tN (mG' htN); rw [hpj] at hpb
         have HRES : Hid (resIt its s ⟨⟨ik, id, ia, ib, inn, il⟩, (bN : Int), fnn, old, line, pos⟩ = ⟨ik, id, ia, ib, pj - pos, il⟩) := hd' (by
          unfold resIt; rw [if_pos hb]; simp only [Int.toNat_natCast, hfv]; unfold posAt; rw [Int.toNat_natCast, htN]
          simp only [Option.map_some, Option.getD_some, hpj])
         have hbI : (bN : Int) < (nF : Int) := by have := HNFI.out; omega
         have hb0 : (0 : Int) ≤ (bN : Int) := hb; have hjI : (jN : Int) < (ni : Int) := by omega
         have hjN0 : (0 : Int) ≤ (jN : Int) := by omega
         have qw : IntKind.i64.wrap (pj - pos) = pj - pos := IntWalk.i64_in _ (by omega)
         have hTF : ¬ BT = fg := by
          intro e; have := (World.ownsRow.lt (HRD.out wa (Below.refl _ _)).fst fg rfl).2; omega
         clear hfg hfv hMU htN htNe hcN hpj hpb k1 k2 k3 hb x11 u7
         go_upto_region 18 with fail
         have tc4 := HPU.out.cell 4 rfl; refine wp_region_W (fun w' => w'.cell? ⟨X, 9, none⟩ = some (.slice (some ⟨gi, 0, none⟩) ni ic) ∧ w'.cell? ⟨X, 10, none⟩ = some (.slice (some ⟨fg, 0, none⟩) nF nF) ∧ w'.cell? ⟨BT, 6, none⟩ = some (.int .i64 (bN : Int)) ∧ w'.cell? ⟨fg, bN, none⟩ = some (.int .i64 (jN : Int)) ∧ w'.cell? ⟨gi, jN * 11 + 10, none⟩ = some (.int .i64 pj) ∧ w'.cell? ⟨BT, 10, none⟩ = some (.int .i64 pos)) 20 (by kernel_rfl) (by (try dsimp only); go_keep) (fun zH => ?_); refine wq 0 zH ?_; refine wq 1 zH ?_
         refine wq 2 zH ?_; refine wq 3 zH ?_; refine wq 4 zH ?_; refine wq 5 zH ?_; refine wq 6 zH ?_; refine wq 7 zH ?_; refine wq 8 zH ?_; refine wq 9 zH ?_; refine wq 10 zH ?_; refine wq 11 zH ?_; refine wq 12 zH ?_; refine wq 13 zH ?_
         refine wq 14 zH ?_; refine wq 15 zH ?_; refine wq 16 zH ?_; refine wq 17 zH ?_; refine wpW_one 18 rfl (by kernel_rfl) (fun K hK => ?_)
         go_simp
         refine hK.out _ _ (by (try dsimp only); go_keep) (fun zH => ?_); clear hK K; (try simp only [putE]); refine wq 19 zH ?_; refine wpW_last 20 rfl (by kernel_rfl) (by decide) (fun K hK => ?_)
         go_simp
         refine hK.out _ _ ?_; clear hK K; (try simp only [putE]); refine wpW_done (by kernel_rfl) ?_ _
         go_wp2_with fail
         go_meet
         have hset := HPU.out.set 4 (.int .i64 (pj - pos)); exact ⟨hd' ((HSU.out.keepV hBTw (by have := HBTO.out; omega) HPU.out.typ (by decide) 4 (.int .i64 (pj - pos))).keep (Below.refl _ _).drew), by rw [HRES.out]; exact hd' hset.drew⟩
       · by_cases hf : 0 ≤ fnn
         · obtain ⟨bN, rfl⟩ := Int.eq_ofNat_of_zero_le hf; obtain ⟨k1, k2, k3⟩ := HFK.out hf; simp only [Int.toNat_natCast] at k1 k2 k3; rw [HNI.out] at k3
           have hfg : s.begin_[bN]? = some (s.begin_.getD bN 0) := by
            rw [List.getD_eq_getElem?_getD, gE' (by omega)]
            rfl
           obtain ⟨fv, hfv⟩ := ex' (s.begin_.getD bN 0)
           rw [hfv] at hfg k2 k3; obtain ⟨jN, rfl⟩ := Int.eq_ofNat_of_zero_le k2; have hMU := HRD.out U HSU.out.bel; obtain ⟨f10, -, fl10⟩ := own_cellf hMU.bgn (intsV_at .i64 hfg); have htN : its[jN]? = some (its[jN]'(by have := HNI.out; omega)) := gE' _; obtain ⟨tN, htNe⟩ := ex' (its[jN]'(by have := HNI.out; omega))
           rw [htNe] at htN; obtain ⟨g3, e3, -, -, hcN⟩ := hMU.item htN; injection e3 with e3; injection e3 with e3; subst e3; have d10 := (hcN 10 _ rfl).1; obtain ⟨pj, hpj⟩ := ex' tN.pos
           rw [hpj] at d10; have hpb := HK.out.pos tN (mG' htN); rw [hpj] at hpb
           have HRES : Hid (resIt its s ⟨⟨ik, id, ia, ib, inn, il⟩, bk, (bN : Int), old, line, pos⟩ = ⟨ik, id, ia, ib, pj - pos, il⟩) := hd' (by
            unfold resIt; rw [if_neg hb, if_pos hf]; simp only [Int.toNat_natCast, hfv]; unfold posAt; rw [Int.toNat_natCast, htN]
            simp only [Option.map_some, Option.getD_some, hpj])
           have hbI : (bN : Int) < (nf : Int) := by have := HNB.out; omega
           have hb0 : (0 : Int) ≤ (bN : Int) := hf; have hjI : (jN : Int) < (ni : Int) := by omega
           have hjN0 : (0 : Int) ≤ (jN : Int) := by omega
           have qw : IntKind.i64.wrap (pj - pos) = pj - pos := IntWalk.i64_in _ (by omega)
           have hTF : ¬ BT = bg := by
            intro e; have := (World.ownsRow.lt (HRD.out wa (Below.refl _ _)).bgn bg rfl).2; omega
           clear hfg hfv hMU htN htNe hcN hpj hpb k1 k2 k3 hf x10
           go_upto_region 20 with fail
           have tc4 := HPU.out.cell 4 rfl; refine wp_region_W (fun w' => w'.cell? ⟨X, 9, none⟩ = some (.slice (some ⟨gi, 0, none⟩) ni ic) ∧ w'.cell? ⟨X, 11, none⟩ = some (.slice (some ⟨bg, 0, none⟩) nf nf) ∧ w'.cell? ⟨BT, 7, none⟩ = some (.int .i64 (bN : Int)) ∧ w'.cell? ⟨bg, bN, none⟩ = some (.int .i64 (jN : Int)) ∧ w'.cell? ⟨gi, jN * 11 + 10, none⟩ = some (.int .i64 pj) ∧ w'.cell? ⟨BT, 10, none⟩ = some (.int .i64 pos)) 20 (by kernel_rfl) (by (try dsimp only); go_keep) (fun zH => ?_); refine wq 0 zH ?_; refine wq 1 zH ?_
           refine wq 2 zH ?_; refine wq 3 zH ?_; refine wq 4 zH ?_; refine wq 5 zH ?_; refine wq 6 zH ?_; refine wq 7 zH ?_; refine wq 8 zH ?_; refine wq 9 zH ?_; refine wq 10 zH ?_; refine wq 11 zH ?_; refine wq 12 zH ?_; refine wq 13 zH ?_
           refine wq 14 zH ?_; refine wq 15 zH ?_; refine wq 16 zH ?_; refine wq 17 zH ?_; refine wpW_one 18 rfl (by kernel_rfl) (fun K hK => ?_)
           go_simp
           refine hK.out _ _ (by (try dsimp only); go_keep) (fun zH => ?_); clear hK K; (try simp only [putE]); refine wq 19 zH ?_; refine wpW_last 20 rfl (by kernel_rfl) (by decide) (fun K hK => ?_)
           go_simp
           refine hK.out _ _ ?_; clear hK K; (try simp only [putE]); refine wpW_done (by kernel_rfl) ?_ _
           go_wp2_with fail
           go_meet
           have hset := HPU.out.set 4 (.int .i64 (pj - pos)); exact ⟨hd' ((HSU.out.keepV hBTw (by have := HBTO.out; omega) HPU.out.typ (by decide) 4 (.int .i64 (pj - pos))).keep (Below.refl _ _).drew), by rw [HRES.out]; exact hd' hset.drew⟩
         · have HRES : Hid (resIt its s ⟨⟨ik, id, ia, ib, inn, il⟩, bk, fnn, old, line, pos⟩ = ⟨ik, id, ia, ib, inn, il⟩) := hd' (by
            unfold resIt
            rw [if_neg hb, if_neg hf])
           go_wp2_with fail
           go_meet
           exact ⟨HSU, by rw [HRES.out]; exact HPU⟩
      case rest =>
       clear x9 x10 x11 xl u6 u7 u10 uf4 ul HSU HPU; obtain ⟨HSC, HPC⟩ := hcut; obtain ⟨⟨rk, rd, ra, rb, rn, rl⟩, hri⟩ := ex' (resIt its s ⟨⟨ik, id, ia, ib, inn, il⟩, bk, fnn, old, line, pos⟩)
       rw [hri] at HPC; have hck := HCK.out; rw [hri] at hck; obtain ⟨ec, hec⟩ := ex' ((⟨rk, rd, ra, rb, rn, rl⟩ : Ins).enc)
       obtain ⟨el, hel⟩ := ex' ec.length
       have hep := enc_pos hck; rw [hec, hel] at hep; obtain ⟨hep1, hep2⟩ := hep; have HEL := hd' hel
       have HENC : Hid (∀ W, Tabs W → Calls Tryd.prog 53 #[.agg #[.int .i64 rk, .int .i64 rd, .int .i64 ra, .int .i64 rb, .int .i64 rn, .bool rl]] W (EncPost W ec)) := hd' fun W hW => by
        have h := encode_any ⟨rk, rd, ra, rb, rn, rl⟩ W hW hck; rw [hec] at h; exact h
       have hT4 := HT.out.below (HRD.out wc HSC.out.bel).bel; have htk : its.take (j + 1) = its.take j ++ [⟨⟨ik, id, ia, ib, inn, il⟩, bk, fnn, old, line, pos⟩] := by rw [List.take_add_one, HTJ.out]; rfl
       have HTX : Hid (txtL its s (its.take (j + 1)) = txtL its s (its.take j) ++ ec) := hd' (by rw [htk, txtL_snoc, hri, hec]); have HLN := hd' (itLines_snoc ⟨⟨ik, id, ia, ib, inn, il⟩, bk, fnn, old, line, pos⟩ (its.take j) 0); rw [← htk] at HLN; have HLA : Hid (lnAft 0 (its.take (j + 1)) = line) := hd' (by rw [htk, lnAft_snoc]); obtain ⟨TL, hTL⟩ := ex' ((txtL its s (its.take j)).length)
       have hTLb : TL ≤ 400000 := by
        have h1 := txtL_len (its := its) (s := s) (l := its.take j) fun u hu => HK.out.chk u (List.mem_of_mem_take hu)
        have h2 := List.length_take_le j its; omega
       have HTL := hd' hTL; obtain ⟨LL, hLL⟩ := ex' ((itLines 0 (its.take j)).length)
       have hLLb : LL ≤ 400000 := by
        have h1 := itLines_len (its.take j) 0; have h2 := List.length_take_le j its; omega
       have HLL := hd' hLL; obtain ⟨tA, tc, fA, fc, vbA, vbc, vdA, vdc, lA, lc⟩ := V; have u0 := HPC.out.cell 0 rfl; have u1 := HPC.out.cell 1 rfl; have u2 := HPC.out.cell 2 rfl; have u3 := HPC.out.cell 3 rfl; have u4 := HPC.out.cell 4 rfl; have u5 := HPC.out.cell 5 rfl; have u6 := HPC.out.cell 6 rfl; have u7 := HPC.out.cell 7 rfl; have u8 := HPC.out.cell 8 rfl; have u9 := HPC.out.cell 9 rfl; have u10 := HPC.out.cell 10 rfl; have ul := HPC.out.lt; have o0 := HSC.out.blk.cell 0 rfl; simp only [hTL] at o0; have of0 := HSC.out.blk.free 0; have ol := HSC.out.blk.lt
       obtain ⟨lnP, hlnP⟩ := ex' (lnAft 0 (its.take j))
       rw [hlnP] at HLN ⊢; clear hri hck hec hel htk hTL hLL hlnP HCK HTJ HBK HFK
       go_upto_region 21 with fail
       go_wp2_with fail
       refine (HENC.out _ hT4).mono ?_; rintro e w6 ⟨gE, cE, rfl, hE1, hE2, hE3, hE4, hE5, hE6⟩; rw [HEL.out]; have HS6 := hd' (HSC.out.keep hE4); have HP6 := hd' (HPC.out.keep hE4); have HE5 := hd' hE5; have HOW6 : Hid (OwnB w6 wa.heap.size (.slice tA TL tc) (txtL its s (its.take j))) := hd' (by have := HS6.out.tx; simp only [HTL.out] at this; exact this); have hs6 := HS6.out.bel.size; have o0 := HS6.out.blk.cell 0 rfl; simp only [HTL.out] at o0; have of0 := HS6.out.blk.free 0; have ol := HS6.out.blk.lt
       clear u0 u1 u2 u3 u4 u5 u6 u7 u8 u9 u10 ul hE1 hE2 hE3 hE4 hE5 hE6 HSC HPC HENC hT4
       go_upto_region 23 with (first | (at_builtin; refine app_bytes_lies rfl _ _ rfl wa.heap.size (.slice tA TL tc) (txtL its s (its.take j)) ec rfl HOW6.out gE el cE rfl HEL.out hep1 HE5.out ?n1 ?b1 ?a1))
       case n1 => rw [HTL.out]; omega
       case b1 => omega
       case a1 =>
        intro g2 c2 w2 ho2 hgr2 hat2 hlt2; obtain ⟨NL, hNL⟩ := ex' ((txtL its s (its.take (j + 1))).length)
        have hNL2 : (txtL its s (its.take j)).length + ec.length = NL := by rw [← hNL, HTX.out, List.length_append]
        rw [hNL2] at ho2
        try rw [hNL2]
        have hgS : w6.grownBy w2 (Value.slice tA (txtL its s (its.take j)).length tc).ownBlock := by rw [HTL.out]; exact hgr2
        have hty : ∀ g, (Value.slice tA (txtL its s (its.take j)).length tc).ownBlock = some g → TypB w6 g 5 := fun g e => own_typ HS6.out.tx e
        have hO2 := HS6.out.var hgS hty (by decide); have y0 := hO2.cell 0 rfl; simp only [HTL.out] at y0; have yf0 := hO2.free 0; have yl := hO2.lt; have hP2 := HP6.out.keepT hgS hty (by decide); have HP2 := hd' (hP2.keepT (gb_setCell (gb_refl w2 (some Ob)) 0 (.slice (some ⟨g2, 0, none⟩) NL c2)) (fun g e => by injection e with e; subst e; exact hO2.typ) (by decide)); have HFN := hd' (HS6.out.text (n := NL) (L' := txtL its s (its.take j) ++ ec) hgS ho2 (by rw [List.length_append]; exact hNL2)); simp only at HFN; rw [← HTX.out] at HFN
        clear hgS hty hO2 hP2 ho2 hgr2 hat2 hlt2 HS6 HP6 HOW6 o0 of0 ol hNL hNL2
        go_upto_region 23 with fail
        obtain ⟨w7, hw7⟩ := ex' (w2.setCell ⟨Ob, 0, none⟩ (.slice (some ⟨g2, 0, none⟩) NL c2))
        rw [hw7] at HFN HP2 ⊢; have u9 := HP2.out.cell 9 rfl; have u10 := HP2.out.cell 10 rfl; have ul := HP2.out.lt; have o4 := HFN.out.blk.cell 4 rfl; simp only [HLL.out] at o4; have of4 := HFN.out.blk.free 4; have ol := HFN.out.blk.lt; have hs7 := HFN.out.bel.size; clear hw7 y0 yf0 yl
        go_upto_if 170 with fail
        by_cases hln : line = lnP
        · have q1 : (line != lnP) = false := by simp [hln]
          have HL2 : Hid (itLines 0 (its.take (j + 1)) = itLines 0 (its.take j)) := hd' (by have := HLN.out; rw [if_neg (by simpa using hln), List.append_nil] at this; exact this); have HL3 := hd' hln; clear hln
          go_wp2_with fail
          go_roundg (ni - (j + 1))
          case measure => omega
          case rel =>
           refine ⟨j + 1, _, by omega, by go_num, ?_, by rw [HL2.out]; exact HFN, Nat.le_refl _⟩; rw [HLA.out, HL3.out]
        · have q1 : (line != lnP) = true := by simpa using hln
          have HL2 : Hid (itLines 0 (its.take (j + 1)) = itLines 0 (its.take j) ++ [(pos, line)]) := hd' (by have := HLN.out; rw [if_pos (by simpa using hln)] at this; exact this); have HOL : Hid (w7.ownsRow wa.heap.size 106 2 (.slice lA LL lc) LL (linesV (itLines 0 (its.take j)))) := hd' (by have := HFN.out.ln; simp only [HLL.out] at this; exact this); clear hln
          go_wp2_with (first | (at_builtin; refine app_one rfl _ _ 40 106 2 16 _ Tryd.underlying40 infoLineE rfl (by decide) rfl wa.heap.size _ LL _ rfl (World.ownsRow.alloc HOL.out _) w7.heap.size 1 rfl [.int .i64 pos, .int .i64 line] 106 (0, 0) (heap_alloc_new w7 _) rfl (by simp [Value.oneCell']) (by omega) (by omega) (by simp; omega) (w7.heap.size + 1) (by simp) ?a2))
          case a2 =>
           intro g4 c4 w4 ho4 hgr4 hat4 hlt4; have hbD : Below w7.heap.size w7 (w7.alloc (.cells #[.int .i64 pos, .int .i64 line] 106)) := (Below.refl _ _).alloc lr' _; have hSD := HFN.out.keep hbD; have hPD := HP2.out.keep hbD; have hgS : (w7.alloc (.cells #[.int .i64 pos, .int .i64 line] 106)).grownBy w4 (Value.slice lA (itLines 0 (its.take j)).length lc).ownBlock := by rw [HLL.out]; exact hgr4
           have hty : ∀ g, (Value.slice lA (itLines 0 (its.take j)).length lc).ownBlock = some g → TypB (w7.alloc (.cells #[.int .i64 pos, .int .i64 line] 106)) g 106 := fun g e => own_typ hSD.ln e
           have hO4 := hSD.var hgS hty (by decide); have z4 := hO4.cell 4 rfl; have zf4 := hO4.free 4; have zl := hO4.lt; have hP4 := hPD.keepT hgS hty (by decide); have hPX := hP4.keepT (gb_setCell (gb_refl w4 (some Ob)) 4 (.slice (some ⟨g4, 0, none⟩) (LL + 1) c4)) (fun g e => by injection e with e; subst e; exact hO4.typ) (by decide); have v9 := hPX.cell 9 rfl; have vl := hPX.lt; have p9 := hP4.cell 9 rfl; have pl := hP4.lt; have hBO : ¬ Ob = BT := by have := HBTO.out; omega
           have HFN2 := hd' (hSD.line (n := LL + 1) (c' := c4) (A' := some ⟨g4, 0, none⟩) (L' := itLines 0 (its.take (j + 1))) hgS (by rw [HL2.out, linesV_snoc2]; exact ho4) (by rw [HL2.out, List.length_append, HLL.out]; rfl)); clear hbD hSD hPD hgS hty hO4 hP4 hPX ho4 hgr4 hat4 hlt4 u9 u10 ul o4 of4 ol
           go_wp2_with fail
           go_roundg (ni - (j + 1))
           case measure => omega
           case rel => exact ⟨j + 1, _, by omega, by go_num, by rw [HLA.out], HFN2, Nat.le_refl _⟩
    · have hltJ : ¬ (j : Int) < (ni : Int) := by omega
      obtain rfl : j = ni := by omega
      go_wp2_with fail
      go_meet
      exact ⟨V, by have := HS.out; rw [List.take_of_length_le (by rw [HNI.out]; exact Nat.le_refl _)] at this; exact hd' this⟩
  case rest =>
   obtain ⟨V1, HS2⟩ := hcut; clear x9 xl HS0; obtain ⟨TP, hTP⟩ := ex' ((d.tables.map fun t => t.map fun b => posAt its (s.first.getD b.toNat 0)))
   have HTP := hd' hTP; have hTPl : TP.length = nt := by rw [← hTP, List.length_map]; exact HNT.out
   have HTPL := hd' hTPl
   have HTB : Hid (∀ W, Below wa.heap.size wa W → TbR W yA yc d.tables) := hd' fun W hW => by
    obtain ⟨-, -, -, -, h4, -⟩ := (HRD.out W hW).rdF; exact h4
   have x7 := (HRD.out wc HS2.out.bel).blk.cell 7 rfl; rw [HNT.out] at x7; have xl := (HRD.out wc HS2.out.bel).blk.lt; clear hTP hTPl
   go_upto_block 5 with fail
   go_cut [] (fun wx => ∃ V : ImgV, Hid (OutS wa wx Ob Ob ⟨txtL its s its, outFuncs m s its size l, TP, m.data, itLines 0 its, outEntry m.entry 0 0 l⟩ V))
   case first =>
    clear x7 xl
    go_wp2_with fail
    go_loopg [190] nt (fun gk s190 wr => ∃ (k : Nat) (V : ImgV), k ≤ nt ∧ s190 = .int .i64 k ∧ Hid (OutS wa wr Ob Ob ⟨txtL its s its, outFuncs m s its size l, TP.take k, m.data, itLines 0 its, outEntry m.entry 0 0 l⟩ V) ∧ nt - k ≤ gk)
    case atStart => exact ⟨0, V1, Nat.zero_le _, rfl, HS2, Nat.le_refl _⟩
    case round =>
     obtain ⟨k, V, hk, rfl, HS, hgk⟩ := hrel
     rename World => wt
     by_cases hlt : k < nt
     · have hltK : (k : Int) < (nt : Int) := by omega
       have hk0 : (0 : Int) ≤ (k : Int) := by omega
       have htk : d.tables[k]? = some (d.tables[k]'(by have := HNT.out; omega)) := gE' _; obtain ⟨t, hte⟩ := ex' (d.tables[k]'(by have := HNT.out; omega))
       rw [hte] at htk; obtain ⟨tvs, hv1, hv2, hv3⟩ := HTB.out wt HS.out.bel; obtain ⟨ta, tcc, hv4, hv5⟩ := hv3 k t htk; obtain ⟨yg, yo, hyA, hygl, hyc⟩ := hv2.1.at hv4; have hycap : nt ≤ yc := by have := hv2.2.1; rw [HNT.out] at this; exact this
       have hTK : TP[k]? = some (t.map (fun b : Int => posAt its (s.first.getD b.toNat 0))) := by
        rw [← HTP.out, List.getElem?_map, htk]
        rfl
       have HTK := hd' hTK; have htab := HK.out.tabs t (mG' htk); have HTAB := hd' htab.2; have HT5 := hd' hv5; obtain ⟨tl, htl⟩ := ex' t.length
       have htl2 := htab.1; rw [htl] at hyc htl2; have htcc : tl ≤ tcc := by have := hv5.2.1; rw [htl] at this; exact this
       have HTL := hd' htl; have hyA2 := hyA; subst hyA2; clear htk hte hv1 hv2 hv3 hv4 hv5 hTK htab htl hyA
       go_upto_block 7 with fail
       go_cut [19] (fun s19 wx => ∃ (A2 : Option Addr) (c2 : Nat), s19 = .slice A2 tl c2 ∧ Hid (wx.ownsRow wt.heap.size 3 1 (.slice A2 tl c2) tl (intsV .i64 (t.map (fun b : Int => posAt its (s.first.getD b.toNat 0))))) ∧ Hid (Below wt.heap.size wt wx))
       case first =>
        go_wp2_with fail
        go_loopg [19, 196] tl (fun gk s19 s196 wr => ∃ (i : Nat) (A2 : Option Addr) (c2 : Nat), i ≤ tl ∧ s196 = .int .i64 i ∧ s19 = .slice A2 i c2 ∧ Hid (wr.ownsRow wt.heap.size 3 1 (.slice A2 i c2) i (intsV .i64 ((t.take i).map (fun b : Int => posAt its (s.first.getD b.toNat 0))))) ∧ Hid (Below wt.heap.size wt wr) ∧ tl - i ≤ gk)
        case atStart => exact ⟨0, none, 0, Nat.zero_le _, rfl, rfl, hd' ⟨rfl, .inl ⟨rfl, rfl⟩⟩, hd' (Below.refl _ _), Nat.le_refl _⟩
        case round =>
         obtain ⟨i, A2, c2, hi, rfl, rfl, HOI, HBI, hgk2⟩ := hrel
         by_cases hilt : i < tl
         · have hiI : (i : Int) < (tl : Int) := by omega
           have hi0 : (0 : Int) ≤ (i : Int) := by omega
           have hbi : t[i]? = some (t[i]'(by have := HTL.out; omega)) := gE' _; obtain ⟨b, hbe⟩ := ex' (t[i]'(by have := HTL.out; omega))
           rw [hbe] at hbi; obtain ⟨tg, tgo, htA, htgl, htc⟩ := (HT5.out.1.below HBI.out).at (intsV_at .i64 hbi); have htgl2 := Nat.lt_of_lt_of_le htgl HBI.out.size; obtain ⟨k0, k1, k2, k3⟩ := HTAB.out b (mG' hbi); rw [HNFI.out] at k1; rw [HNI.out] at k3; obtain ⟨bN, rfl⟩ := Int.eq_ofNat_of_zero_le k0; simp only [Int.toNat_natCast] at k2 k3
           have hfg : s.first[bN]? = some (s.first.getD bN 0) := by
            rw [List.getD_eq_getElem?_getD, gE' (by have := HNFI.out; omega)]
            rfl
           obtain ⟨fv, hfv⟩ := ex' (s.first.getD bN 0)
           rw [hfv] at hfg k2 k3; obtain ⟨jN, rfl⟩ := Int.eq_ofNat_of_zero_le k2; have hBW : Below wa.heap.size wa wr := HS.out.bel.trans (HBI.out.mono HS.out.bel.size); have HBW := hd' hBW; have hMU := HRD.out wr hBW; have x9 := hMU.blk.cell 9 rfl; have x10 := hMU.blk.cell 10 rfl; rw [HNI.out] at x9; rw [HNFI.out] at x10; have xl := hMU.blk.lt; have htN : its[jN]? = some (its[jN]'(by have := HNI.out; omega)) := gE' _; obtain ⟨tN, htNe⟩ := ex' (its[jN]'(by have := HNI.out; omega))
           rw [htNe] at htN; obtain ⟨gi, hiA, hgl, -, hcN⟩ := hMU.item htN; have hcap : ni ≤ ic := by have := own_capG hMU.its; have := HNI.out; omega
           have HIA := hd' hiA; obtain ⟨pj, hpj⟩ := ex' tN.pos
           have HSC : Hid (∀ W, Below wa.heap.size wa W → W.cell? ⟨X, 9, none⟩ = some (.slice (some ⟨gi, 0, none⟩) ni ic) ∧ W.cell? ⟨X, 10, none⟩ = some (.slice (some ⟨fg, 0, none⟩) nF nF) ∧ W.cell? ⟨fg, bN, none⟩ = some (.int .i64 (jN : Int)) ∧ W.cell? ⟨gi, jN * 11 + 10, none⟩ = some (.int .i64 pj)) := hd' fun W hW => by
            have hM2 := HRD.out W hW; have z9 := hM2.blk.cell 9 rfl; have z10 := hM2.blk.cell 10 rfl; rw [HNI.out, HIA.out] at z9; rw [HNFI.out] at z10; obtain ⟨g3, e3, -, -, hcN3⟩ := hM2.item htN; rw [HIA.out] at e3; injection e3 with e3; injection e3 with e3; subst e3; have d10 := (hcN3 10 _ rfl).1; rw [hpj] at d10; exact ⟨z9, z10, (own_cellf hM2.fst (intsV_at .i64 hfg)).1, d10⟩
           have hPV : (t.take (i + 1)).map (fun b : Int => posAt its (s.first.getD b.toNat 0)) = (t.take i).map (fun b : Int => posAt its (s.first.getD b.toNat 0)) ++ [pj] := by
            rw [List.take_add_one, hbi, Option.toList_some, List.map_append]
            congr 1
            show [posAt its (s.first.getD ((bN : Int)).toNat 0)] = _; rw [Int.toNat_natCast, hfv]; unfold posAt; rw [Int.toNat_natCast, htN]; simp only [Option.map_some, Option.getD_some, hpj]
           have HPV := hd' hPV; have hbI : (bN : Int) < (nF : Int) := k1; have hb0 : (0 : Int) ≤ (bN : Int) := k0; have hjI : (jN : Int) < (ni : Int) := k3; have hjN0 : (0 : Int) ≤ (jN : Int) := k2; obtain ⟨s9, s10, s11, s12⟩ := HSC.out wr hBW; have fl10 := (own_cellf hMU.fst (intsV_at .i64 hfg)).2.2; have hwt := HBI.out.size; rw [hiA] at x9; have HTA := hd' htA; clear hbi hbe htgl hfg hfv hBW hMU htN htNe hiA hcN hpj hPV k0 k1 k2 k3
           go_upto_region 34 with fail
           refine wp_region_W (fun w' => w'.cell? ⟨X, 9, none⟩ = some (.slice (some ⟨gi, 0, none⟩) ni ic) ∧ w'.cell? ⟨X, 10, none⟩ = some (.slice (some ⟨fg, 0, none⟩) nF nF) ∧ w'.cell? ⟨fg, bN, none⟩ = some (.int .i64 (jN : Int)) ∧ w'.cell? ⟨gi, jN * 11 + 10, none⟩ = some (.int .i64 pj)) 18 (by kernel_rfl) (by (try dsimp only); go_keep) (fun zH => ?_); refine wq 0 zH ?_; refine wq 1 zH ?_; refine wq 2 zH ?_; refine wq 3 zH ?_; refine wq 4 zH ?_
           refine wq 5 zH ?_; refine wq 6 zH ?_; refine wq 7 zH ?_; refine wq 8 zH ?_; refine wq 9 zH ?_; refine wq 10 zH ?_; refine wq 11 zH ?_; refine wq 12 zH ?_; refine wq 13 zH ?_; refine wq 14 zH ?_; refine wpW_one 15 rfl (by kernel_rfl) (fun K hK => ?_)
           go_simp
           refine hK.out _ _ (by (try dsimp only); go_keep) (fun zH => ?_); clear hK K; (try simp only [putE]); refine wpW_one 16 rfl (by kernel_rfl) (fun K hK => ?_); have hr1 : (wr.alloc (.cells #[.int .i64 pj] 3)).drew.heap[wr.heap.size]? = some (.cells #[.int .i64 pj] 3 (0, 0)) := heap_alloc_new wr _; have ho1 : (wr.alloc (.cells #[.int .i64 pj] 3)).drew.ownsRow wt.heap.size 3 1 (.slice A2 i c2) i (intsV .i64 ((t.take i).map (fun b : Int => posAt its (s.first.getD b.toNat 0)))) := World.ownsRow.alloc HOI.out _
           have hz1 : (wr.alloc (.cells #[.int .i64 pj] 3)).drew.heap.size = wr.heap.size + 1 := (by simp)
           have hbb : wt.heap.size ≤ (wr.alloc (.cells #[.int .i64 pj] 3)).drew.heap.size := (by rw [hz1]; omega)
           refine step_app_one rfl _ _ 35 3 1 8 _ Tryd.underlying35 infoIntNOE rfl (by decide) rfl wt.heap.size _ i _ rfl ho1 wr.heap.size 1 rfl [.int .i64 pj] 3 (0, 0) hr1 rfl (by simp [Value.oneCell']) (by omega) (by omega) hbb (wr.heap.size + 1) hz1 (fun g3 c3 w3 ho3 hgr3 hat3 hlt3 => ?_); have hb3 : Below wt.heap.size wt w3 := (HBI.out.trans (((Below.refl wr.heap.size wr).alloc lr' (.cells #[.int .i64 pj] 3)).drew.mono HBI.out.size)).trans (gb_below_of hgr3 (fun q hq => (World.ownsRow.lt HOI.out q hq).1) hbb)
           have hB3 : Below wa.heap.size wa w3 := HS.out.bel.trans (hb3.mono HS.out.bel.size); obtain ⟨y1, y2, y3, y4⟩ := HSC.out w3 hB3; have HB3 := hd' hb3; have HO3 : Hid (w3.ownsRow wt.heap.size 3 1 (.slice (some ⟨g3, 0, none⟩) (i + 1) c3) (i + 1) (intsV .i64 ((t.take (i + 1)).map (fun b : Int => posAt its (s.first.getD b.toNat 0))))) := hd' (by rw [HPV.out]; simpa [intsV] using ho3); clear hr1 ho1 hz1 hbb hgr3 hat3 hb3 hB3 ho3; refine hK.out _ _ (by (try dsimp only); exact ⟨y1, y2, y3, y4⟩) (fun zH => ?_); clear hK K; (try simp only [putE]); refine wq 17 zH ?_; refine wpW_done (by kernel_rfl) ?_ _
           go_wp2_with fail
           rw [← HTA.out]
           go_roundg (tl - (i + 1))
           case measure => omega
           case rel => exact ⟨i + 1, _, _, by omega, by go_num, rfl, HO3, HB3, Nat.le_refl _⟩
         · have hiI : ¬ (i : Int) < (tl : Int) := by omega
           obtain rfl : i = tl := by omega
           go_wp2_with fail
           go_meet
           exact ⟨A2, c2, rfl, by have := HOI.out; rw [List.take_of_length_le (by rw [HTL.out]; exact Nat.le_refl _)] at this; exact hd' this, HBI⟩
       case rest =>
        obtain ⟨A2, c2, rfl, HOT, HBT⟩ := hcut; obtain ⟨tA, tc, fA, fc, bA, bc, vdA, vdc, lA, lc⟩ := V; have hTKl : (TP.take k).length = k := by rw [List.length_take, HTPL.out]; omega
        have hob := HS.out.tb; simp only [hTKl] at hob; obtain ⟨vs, hOB, hpush⟩ := TabsAt.push2 hob hTKl (HBT.out.trans (((Below.refl wc.heap.size wc).alloc lr' (.cells #[.slice A2 tl c2] 35)).mono HBT.out.size)) (World.ownsRow.alloc HOT.out _) (by rw [List.length_map]; exact HTL.out) htl2 HS.out.ble; have HSC := hd' (HS.out.keep HBT.out); have o2 := HSC.out.blk.cell 2 rfl; simp only [hTKl] at o2; have of2 := HSC.out.blk.free 2; have ol := HSC.out.blk.lt; have HOB := hd' hOB; have HPUSH := hd' hpush; have HTKL := hd' hTKl; have hob1 := HSC.out.ble
        clear hTKl hob hOB hpush hygl hyc
        go_wp2_with (first | (at_builtin; refine app_one rfl _ _ 39 35 1 24 _ Tryd.underlying39 infoIntsE rfl (by decide) rfl Ob _ k _ rfl HOB.out wc.heap.size 1 rfl [.slice A2 tl c2] 35 (0, 0) (heap_alloc_new wc _) rfl (by simp [Value.oneCell']) (by omega) (by omega) (by simp; omega) (wc.heap.size + 1) (by simp) ?a1))
        case a1 =>
         intro g3 c3 w3 ho3 hgr3 hat3 hlt3; have hbD : Below wc.heap.size wc (wc.alloc (.cells #[.slice A2 tl c2] 35)) := (Below.refl _ _).alloc lr' _; have hSD := HSC.out.keep hbD; have hTN := HPUSH.out w3 g3 c3 _ ho3 hgr3 hat3 (by simp); have hgS : (wc.alloc (.cells #[.slice A2 tl c2] 35)).grownBy w3 (Value.slice bA (TP.take k).length bc).ownBlock := by rw [HTKL.out]; exact hgr3
         have hty : ∀ g, (Value.slice bA (TP.take k).length bc).ownBlock = some g → TypB (wc.alloc (.cells #[.slice A2 tl c2] 35)) g 35 := fun g e => by
          obtain ⟨vs2, hv2⟩ := hSD.tb.row; exact own_typ hv2 e
         have hO3 := hSD.var hgS hty (by decide); have z2 := hO3.cell 2 rfl; have zf2 := hO3.free 2; have zl := hO3.lt; have HFN := hd' (hSD.tabs (n := k + 1) (c' := c3) (A' := some ⟨g3, 0, none⟩) (L' := TP.take (k + 1)) hgS (by rw [List.take_add_one, HTK.out]; exact hTN) (by rw [List.length_take, HTPL.out]; omega)); clear hbD hSD hTN hgS hty hO3 ho3 hgr3 hat3 hlt3 o2 of2 ol
         go_wp2_with fail
         go_roundg (nt - (k + 1))
         case measure => omega
         case rel => exact ⟨k + 1, _, by omega, by go_num, HFN, Nat.le_refl _⟩
     · have hltK : ¬ (k : Int) < (nt : Int) := by omega
       obtain rfl : k = nt := by omega
       go_wp2_with fail
       go_meet
       exact ⟨V, by have := HS.out; rw [List.take_of_length_le (by rw [HTPL.out]; exact Nat.le_refl _)] at this; exact hd' this⟩
   case rest =>
    clear x7 xl HS2; obtain ⟨⟨tA, tc, fA, fc, bA, bc, vdA, vdc, lA, lc⟩, HS⟩ := hcut; obtain ⟨TX, hTX⟩ := ex' (txtL its s its)
    obtain ⟨FX, hFX⟩ := ex' (outFuncs m s its size l)
    obtain ⟨LX, hLX⟩ := ex' (itLines 0 its)
    obtain ⟨EX, hEX⟩ := ex' (outEntry m.entry 0 0 l)
    rw [hTX, hFX, hLX, hEX] at HS; have HEQ : Hid (RX = ⟨TX, FX, TP, m.data, LX, EX⟩) := hd' (by rw [← HRX.out, ← hTX, ← hFX, ← hLX, ← hEX, ← HTP.out, HSZ.out]; rfl); have hrr := HRA.out.below HS.out.bel HRA.out.lt; have HRR := hd' hrr; have rf0 := hrr.free 0; have rf1 := hrr.free 1; have rf2 := hrr.free 2; have rf3 := hrr.free 3; have rf4 := hrr.free 4; have rf5 := hrr.free 5; have r0 := hrr.cell 0 rfl; have r1 := hrr.cell 1 rfl; have r2 := hrr.cell 2 rfl; have r3 := hrr.cell 3 rfl; have r4 := hrr.cell 4 rfl; have r5 := hrr.cell 5 rfl; have rl := hrr.lt; have o0 := HS.out.blk.cell 0 rfl
    have o1 := HS.out.blk.cell 1 rfl; have o2 := HS.out.blk.cell 2 rfl; have o3 := HS.out.blk.cell 3 rfl; have o4 := HS.out.blk.cell 4 rfl; have o5 := HS.out.blk.cell 5 rfl; have ol := HS.out.blk.lt; have hRO : ¬ R = Ob := by have h1 := HRA.out.lt; have h2 := HS.out.oge; omega
    simp only at o0 o1 o2 o3 o4 o5; obtain ⟨n0, hn0⟩ := ex' TX.length
    obtain ⟨n1, hn1⟩ := ex' FX.length
    obtain ⟨n2, hn2⟩ := ex' TP.length
    obtain ⟨n3, hn3⟩ := ex' m.data.length
    obtain ⟨n4, hn4⟩ := ex' LX.length
    rw [hn0] at o0; rw [hn1] at o1; rw [hn2] at o2; rw [hn3] at o3; rw [hn4] at o4; have HVAL : Hid (RX.val ⟨tA, tc, fA, fc, bA, bc, vdA, vdc, lA, lc⟩ = #[.slice tA n0 tc, .slice fA n1 fc, .slice bA n2 bc, .slice vdA n3 vdc, .slice lA n4 lc, .int .i64 EX]) := hd' (by rw [HEQ.out, ← hn0, ← hn1, ← hn2, ← hn3, ← hn4]; rfl); clear hTX hFX hLX hEX hrr hn0 hn1 hn2 hn3 hn4
    go_wp2
    refine bodyPost_ret (results_cell_row rfl _ _ R 42 #[.slice tA n0 tc, .slice fA n1 fc, .slice bA n2 bc, .slice vdA n3 vdc, .slice lA n4 lc, .int .i64 EX] (0, 0) _ rfl (show Blk _ R 42 [.slice tA n0 tc, .slice fA n1 fc, .slice bA n2 bc, .slice vdA n3 vdc, .slice lA n4 lc, .int .i64 EX] from ((((((HRR.out.set 0 _).set 1 _).set 2 _).set 3 _).set 4 _).set 5 _)) Tryd.underlying42 rfl (by kernel_rfl)) rfl ?_
    have hgb := gb_setCell (gb_setCell (gb_setCell (gb_setCell (gb_setCell (gb_setCell (gb_refl wc (some R)) 0 (.slice tA n0 tc)) 1 (.slice fA n1 fc)) 2 (.slice bA n2 bc)) 3 (.slice vdA n3 vdc)) 4 (.slice lA n4 lc)) 5 (.int .i64 EX); have hbel := HBA.out.trans (HS.out.bel.mono HBA.out.size); refine HPO.out _ _ ⟨tA, tc, fA, fc, bA, bc, vdA, vdc, lA, lc⟩ (by rw [HVAL.out]) (hbel.trans (gb_to_below hgb (by have := HRE.out; omega) hbel.size)) ?_; rw [HEQ.out]; exact (HS.out.own.gb hgb HRA.out.lt).more HBA.out.size
end Go.Proofs.YtcafhoobeggmeaaDoor
