/- The given statement on RecoverGood, proved: the blocks of a program are all its code, one behind the other. No condition of its own. -/
import Derived.Test.YtlekjnnofhjgjaaDoorLawS
import Derived.Test.YtlekjnnofhjgjaaDoorPgmG
import Derived.Test.YtlekjnnofhjgjaaDoorFlowU
import Derived.Test.YtlekjnnofhjgjaaDoorRcvW
import Derived.Deep.DeepCutAuto
import Derived.Deep.CutBlock
import Derived.Deep.LoopGhost
import Derived.Deep.QuietTactic
import Derived.BigQuiet
import Derived.IntWalk
import Derived.WalkLawsBesides
namespace Go.Proofs.YtlekjnnofhjgjaaDoor
open Go.ChangeShapes Go.WideShapes Go.ChangeAt Go.RowKit Go.Joins
open Go.ChangeMaps (open_string)
set_option maxHeartbeats 8000000 in
set_option maxRecDepth 100000 in
theorem recoverGood_walk (l : List RawI) (A : Option Addr) (c : Nat) (w : World) (hT : Tabs w) (hR : RdR w w.heap.size A l) (hl : l.length ≤ 140737488355328) (hc : l.length ≤ c) :
    Calls Tryd.prog 4 #[.slice A l.length c] w fun e w' => e = .returned (.bool true) ∧ Below w.heap.size w w' := by
  have HPG := Lib.hid (program_any l A c w hT hR hc hl)
  have HT := Lib.hid hT
  obtain ⟨ll, hll⟩ : ∃ z, l.length = z := ⟨_, rfl⟩
  rw [hll] at HPG ⊢
  clear hT hR hl hc hll
  go_enter Tryd.func4, Tryd.ntmps4
  go_wp2_with fail
  refine HPG.out.mono ?_
  rintro e w1 ⟨hb1, v, m, rfl, hown, hok, hpg⟩
  have hre := hpg.recE
  have htx := hpg.text
  obtain ⟨ld, bm, S, gs, d, hd, hF⟩ := hpg.flow
  have HB1 := Lib.hid hb1
  have HRD := Lib.hid hown.rd
  have HOK := Lib.hid hok
  have HRE := Lib.hid hre
  have HD := Lib.hid hd
  have HF := Lib.hid hF
  have HTX := Lib.hid htx
  obtain ⟨tA, tc, fA, fc, bA, bc, dA, dc, lA, lc⟩ := v
  have HREC : Hid (∀ W, Below w1.heap.size w1 W → Calls Tryd.prog 16 #[.agg (m.val ⟨tA, tc, fA, fc, bA, bc, dA, dc, lA, lc⟩)] W (GoodPost W d)) := Lib.hid fun W hW => by
    have h := rec_any m ⟨tA, tc, fA, fc, bA, bc, dA, dc, lA, lc⟩ W (HT.out.below (HB1.out.trans (hW.mono HB1.out.size))) ((HRD.out.below hW).more hW.size) HOK.out
    rw [HRE.out] at h
    exact h.mono fun e w' hp => hp.2 d rfl HD.out
  have htcap := hok.tc
  clear hb1 hown hok hpg hre htx hd hF HPG
  unfold Img.val at HREC ⊢
  simp only at HREC htcap ⊢
  obtain ⟨T, hTe⟩ : ∃ z, m.text.length = z := ⟨_, rfl⟩
  obtain ⟨NF, hNF⟩ : ∃ z, m.funcs.length = z := ⟨_, rfl⟩
  obtain ⟨nb, hnb⟩ : ∃ z, m.tables.length = z := ⟨_, rfl⟩
  obtain ⟨nd, hnd⟩ : ∃ z, m.data.length = z := ⟨_, rfl⟩
  obtain ⟨nl, hnl⟩ : ∃ z, m.lines.length = z := ⟨_, rfl⟩
  rw [hTe, hNF, hnb, hnd, hnl] at HREC ⊢
  rw [hTe] at htcap
  have HTE := Lib.hid hTe
  have HNF := Lib.hid hNF
  clear hTe hNF hnb hnd hnl
  go_upto_region 2 with fail
  obtain ⟨X, hX⟩ : ∃ X, w1.alloc (.cells #[.slice tA T tc, .slice fA NF fc, .slice bA nb bc, .slice dA nd dc, .slice lA nl lc, .int .i64 m.entry] 31) = X := ⟨_, rfl⟩
  rw [hX]
  have hm1 : Blk X w1.heap.size 31 [.slice tA T tc, .slice fA NF fc, .slice bA nb bc, .slice dA nd dc, .slice lA nl lc, .int .i64 m.entry] := by rw [← hX]; exact Blk.new w1 _ _
  have hbX : Below w1.heap.size w1 X := by rw [← hX]; exact (Below.refl _ _).alloc (Nat.le_refl _) _
  have HM := Lib.hid hm1
  have HBX := Lib.hid hbX
  have m0 := hm1.cell 0 rfl
  have m1 := hm1.cell 1 rfl
  have m2 := hm1.cell 2 rfl
  have m3 := hm1.cell 3 rfl
  have m4 := hm1.cell 4 rfl
  have m5 := hm1.cell 5 rfl
  have ml := hm1.lt
  clear hX hm1 hbX
  go_wp2_with fail
  refine (HREC.out _ HBX.out).mono ?_
  rintro e w2 ⟨xA, xc, yA, yc, zA, zc, rfl, hb2, hfl⟩
  have HB2 := Lib.hid (HBX.out.trans (hb2.mono HBX.out.size))
  have HFL := Lib.hid hfl
  have HM2 := Lib.hid (HM.out.keep hb2)
  clear hb2 hfl m0 m1 m2 m3 m4 m5 ml HREC HM HBX
  obtain ⟨NB, hNB⟩ : ∃ z, d.blocks.length = z := ⟨_, rfl⟩
  obtain ⟨nt, hnt⟩ : ∃ z, d.tables.length = z := ⟨_, rfl⟩
  have hff : d.firsts.length = NF := HF.out.firsts.1.trans HNF.out
  rw [hNB, hnt, hff]
  have HNB := Lib.hid hNB
  have HFF := Lib.hid hff
  clear hNB hnt hff
  go_upto_region 3 with fail
  obtain ⟨Y, hY⟩ : ∃ Y, w2.alloc (.cells #[.slice xA NB xc, .slice yA nt yc, .slice zA NF zc] 39) = Y := ⟨_, rfl⟩
  rw [hY]
  have hfY : Blk Y w2.heap.size 39 [.slice xA NB xc, .slice yA nt yc, .slice zA NF zc] := by rw [← hY]; exact Blk.new w2 _ _
  have hbY : Below w2.heap.size w2 Y := by rw [← hY]; exact (Below.refl _ _).alloc (Nat.le_refl _) _
  have hmY := HM2.out.keep hbY
  have HFY := Lib.hid hfY
  have HMY := Lib.hid hmY
  have HFLY := Lib.hid (HFL.out.below hbY)
  have HRY := Lib.hid ((HRD.out.below (HB2.out.trans (hbY.mono HB2.out.size))).more (HB2.out.trans (hbY.mono HB2.out.size)).size)
  have HWY := Lib.hid (HB1.out.trans ((HB2.out.trans (hbY.mono HB2.out.size)).mono HB1.out.size))
  have f0 := hfY.cell 0 rfl
  have f2 := hfY.cell 2 rfl
  have fl := hfY.lt
  have m1 := hmY.cell 1 rfl
  have ml := hmY.lt
  clear hY hfY hbY hmY
  go_upto_region 7 with fail
  go_loopg [6, 37] NB (fun gk s6 s37 wr => ∃ i : Nat, i ≤ NB ∧ s37 = .int .i64 i ∧ s6 = .int .i64 (posP gs [] i 0) ∧ Hid (Below Y.heap.size Y wr) ∧ NB - i ≤ gk)
  case atStart => exact ⟨0, Nat.zero_le _, rfl, rfl, Below.refl _ _, Nat.le_refl _⟩
  case round =>
    obtain ⟨i, hi, rfl, rfl, HB, hgk⟩ := hrel
    by_cases hlt : i < NB
    · have hltI : (i : Int) < (NB : Int) := by omega
      have hbi : d.blocks[i]? = some (d.blocks[i]'(by have := HNB.out; omega)) := List.getElem?_eq_getElem _
      obtain ⟨b, hbe⟩ : ∃ z, d.blocks[i]'(by have := HNB.out; omega) = z := ⟨_, rfl⟩
      rw [hbe] at hbi
      obtain ⟨x, r, hg, -, b1, b2, b3⟩ := HF.out.blk hbi
      have hfl := HFLY.out.below HB.out
      obtain ⟨v, g, o, hxA, hgl, hbr, hcs⟩ := hfl.at hbi
      obtain ⟨bf, bst, bco, bat, ⟨lk, lld, la, lb, ln, llb⟩, ben, bds, bel, bli⟩ := b
      obtain ⟨cA, cc, aA, ac, liA, lic⟩ := v
      obtain ⟨-, hat, -⟩ := hbr
      simp only at b1 b2 b3 hat
      have c0 := hcs 0 _ rfl
      have c1 := hcs 1 _ rfl
      have c2 := hcs 2 _ rfl
      have c3 := hcs 3 _ rfl
      have c4 := hcs 4 _ rfl
      have c5 := hcs 5 _ rfl
      have c6 := hcs 6 _ rfl
      have c7 := hcs 7 _ rfl
      have c8 := hcs 8 _ rfl
      have c9 := hcs 9 _ rfl
      have c10 := hcs 10 _ rfl
      have c11 := hcs 11 _ rfl
      have c12 := hcs 12 _ rfl
      have c13 := hcs 13 _ rfl
      simp only [Nat.add_zero] at c0 c1 c2 c3 c4 c5 c6 c7 c8 c9 c10 c11 c12 c13
      have hp0 : posP gs [] i 0 = bst := by
        rw [b2, (HF.out.spot hg (j := 0) rfl).1]
        rfl
      rw [hp0]
      have hbl : bat.length = r.length + 1 := by rw [b3]; simp
      have hba : bat[0]? = some bst := by rw [b3, b2]; rfl
      obtain ⟨ag, ao, hag, hagl, hac⟩ := hat.1.at (intsV_at .i64 hba)
      rw [Nat.add_zero] at hac
      obtain ⟨NA, hNA⟩ : ∃ z, bat.length = z := ⟨_, rfl⟩
      rw [hNA] at hbl c3
      have hxcap : NB ≤ xc := by
        obtain ⟨l0, e1, e2, -⟩ := HFLY.out
        rw [← HNB.out]
        exact e2.2.1
      have hacap : NA ≤ ac := by rw [← hNA]; exact hat.2.1
      have HX := Lib.hid hg
      have HB3 := Lib.hid b3
      have HB1 := Lib.hid b1
      have HNA := Lib.hid hNA
      have HAT := Lib.hid hat
      have HP0 := Lib.hid hp0
      have HBL := Lib.hid hbl
      have q1 : (bst != bst) = false := by simp
      have q2 : ((NA : Int) == 0) = false := by simp; omega
      have hNA0 : (0 : Int) < (NA : Int) := by omega
      subst hxA hag
      have HCS := Lib.hid hcs
      have HBI := Lib.hid hbi
      clear hbe hbi hg b1 b2 b3 hfl hcs hat hp0 hNA hba hbl
      go_upto_region 9 with fail
      obtain ⟨Z, hZ⟩ : ∃ Z, wr.alloc (.cells #[.int .i64 bf, .int .i64 bst, .slice cA bco.length cc, .slice (some ⟨ag, ao, none⟩) NA ac, .int .i64 lk, .int .i64 lld, .int .i64 la, .int .i64 lb, .int .i64 ln, .bool llb, .int .i64 ben, .int .i64 bds, .int .i64 bel, .slice liA bli.length lic] 49) = Z := ⟨_, rfl⟩
      rw [hZ]
      have htZ : Blk Z wr.heap.size 49 [.int .i64 bf, .int .i64 bst, .slice cA bco.length cc, .slice (some ⟨ag, ao, none⟩) NA ac, .int .i64 lk, .int .i64 lld, .int .i64 la, .int .i64 lb, .int .i64 ln, .bool llb, .int .i64 ben, .int .i64 bds, .int .i64 bel, .slice liA bli.length lic] := by rw [← hZ]; exact Blk.new wr _ _
      have hbZ : Below wr.heap.size wr Z := by rw [← hZ]; exact (Below.refl _ _).alloc (Nat.le_refl _) _
      have hsZ := hbZ.size
      have hBYZ := HB.out.trans (hbZ.mono HB.out.size)
      have HBZ := Lib.hid hBYZ
      have hfZ := HFY.out.keep hBYZ
      have hmZ := HMY.out.keep hBYZ
      have HTZ := Lib.hid htZ
      have HFZ := Lib.hid hfZ
      have HMZ := Lib.hid hmZ
      have t0 := htZ.cell 0 rfl
      have t1 := htZ.cell 1 rfl
      have t3 := htZ.cell 3 rfl
      have tl := htZ.lt
      have g0 := hfZ.cell 0 rfl
      have gl := hfZ.lt
      have hac2 := (hbZ.cell (p := ⟨ag, ao, none⟩) hagl).trans hac
      have hag2 : ag < Z.heap.size := by omega
      have HAG := Lib.hid hag2
      have HATZ := Lib.hid ((HAT.out.below hbZ).more hsZ)
      clear hZ htZ hbZ hBYZ hfZ hmZ c0 c1 c2 c3 c4 c5 c6 c7 c8 c9 c10 c11 c12 c13 hac f0 f2 fl m1 ml
      go_cut [75] (fun s75 wx => s75 = .bool false ∧ Hid (Below Z.heap.size Z wx))
      case first =>
        by_cases hi0 : i = 0
        · have q3 : decide ((0 : Int) < (i : Int)) = false := by simp; omega
          have q3n : decide (0 < i) = false := by simp; omega
          clear hi0
          go_quiet (fail)
          go_wp2
          go_meet
          exact ⟨rfl, below_drewN (Below.refl _ _) _⟩
        · obtain ⟨k, hik⟩ : ∃ k, i = k + 1 := ⟨i - 1, by omega⟩
          have hbk : d.blocks[k]? = some (d.blocks[k]'(by have := HNB.out; omega)) := List.getElem?_eq_getElem _
          obtain ⟨bk, hbke⟩ : ∃ z, d.blocks[k]'(by have := HNB.out; omega) = z := ⟨_, rfl⟩
          rw [hbke] at hbk
          obtain ⟨xk, rk, hgk1, -, kb1, -, -⟩ := HF.out.blk hbk
          have hle := HF.out.fnle hgk1 (by rw [← hik]; exact HX.out)
          obtain ⟨vk, gk1, ok1, hxk, hgkl, -, hck⟩ := (HFLY.out.below HBZ.out).at hbk
          injection hxk with hxk
          injection hxk with hx1 hx2 hx3
          subst hx1 hx2
          have ck := hck 0 _ rfl
          simp only [Nat.add_zero] at ck
          obtain ⟨bkf, hbkf⟩ : ∃ z, bk.fn = z := ⟨_, rfl⟩
          rw [hbkf] at ck kb1
          have q3 : decide ((0 : Int) < (i : Int)) = true := decide_eq_true (by omega)
          have q3n : decide (0 < i) = true := decide_eq_true (by omega)
          have q4 : decide (bf < bkf) = false := by have := HB1.out; simp; omega
          have hfew := HF.out.few
          have hfew2 := HTX.out.2
          have hfew3 := HNB.out
          have q5 : IntKind.i64.wrap ((i : Int) - 1) = (k : Int) := by rw [show (i : Int) - 1 = (k : Int) by omega]; exact IntWalk.i64_in _ (by omega)
          have q6 : (0 : Int) ≤ (k : Int) := by omega
          have q7 : (k : Int) < (NB : Int) := by omega
          clear hbk hbke hgk1 hle hck hx3 hbkf kb1 hi0 hik hfew hfew2 hfew3
          go_quiet (fail)
          go_wp2
          go_meet
          exact ⟨rfl, below_drewN (Below.refl _ _) _⟩
      case rest =>
        rename World => wx
        obtain ⟨rfl, HZX⟩ := hcut
        have htx := HTZ.out.keep HZX.out
        have t3 := htx.cell 3 rfl
        have tl := htx.lt
        have HBX := Lib.hid (HBZ.out.trans (HZX.out.mono HBZ.out.size))
        have HTX2 := Lib.hid htx
        have HATX := Lib.hid ((HATZ.out.below HZX.out).more HZX.out.size)
        clear htx
        go_wp2_with fail
        have hst0 : bst = posP gs (x :: r) i 0 := by rw [← HP0.out]; rfl
        go_loopg [6, 79] NA (fun gk s6 s79 wr2 => ∃ j : Nat, j ≤ NA ∧ s79 = .int .i64 j ∧ s6 = .int .i64 (posP gs (x :: r) i j) ∧ Hid (Below wx.heap.size wx wr2) ∧ NA - j ≤ gk)
        case atStart => exact ⟨0, Nat.zero_le _, rfl, by rw [← hst0], Below.refl _ _, Nat.le_refl _⟩
        case round =>
          rename World => wr2
          obtain ⟨j, hj, rfl, rfl, HB2', hgk2⟩ := hrel
          by_cases hlt2 : j < NA
          · have hltJ : (j : Int) < (NA : Int) := by omega
            have hyj : (x :: r)[j]? = some ((x :: r)[j]'(by have := HBL.out; simp; omega)) := List.getElem?_eq_getElem _
            obtain ⟨y, hye⟩ : ∃ z, (x :: r)[j]'(by have := HBL.out; simp; omega) = z := ⟨_, rfl⟩
            rw [hye] at hyj
            obtain ⟨s1, s2, s3, s4⟩ := HF.out.spot HX.out hyj
            have hpb := HF.out.posb s3
            rw [s1] at hpb
            obtain ⟨yf, yp, yz, ⟨ik, id, ia, ib, inn, il⟩⟩ := y
            simp only at s1 s2 s4 hpb
            have hbj : bat[j]? = some (posP gs (x :: r) i j) := by rw [HB3.out, List.getElem?_map, hyj, ← s1]; rfl
            obtain ⟨p, hp⟩ : ∃ z, posP gs (x :: r) i j = z := ⟨_, rfl⟩
            rw [hp] at s1 s2 s4 hpb hbj ⊢
            have hBW := HBX.out.trans (HB2'.out.mono HBX.out.size)
            obtain ⟨ag', ao', hag', hagl', hac'⟩ := ((HATX.out.below HB2'.out).more HB2'.out.size).1.at (intsV_at .i64 hbj)
            injection hag' with hag'
            injection hag' with e1 e2 e3
            subst e1 e2
            have hm2 := HMY.out.keep hBW
            have m0 := hm2.cell 0 rfl
            have ml := hm2.lt
            have hdc := decode_any m.text tA T tc p wr2 (HT.out.below (HWY.out.trans (hBW.mono HWY.out.size))) HTE.out.symm (rdg_bytes ((HRY.out.text.below hBW).more hBW.size) HOK.out.tb) (by have := HTX.out.2; have := HTE.out; omega) htcap
            rw [s4] at hdc
            unfold decV Ins.cells at hdc
            simp only at hdc
            have HDC := Lib.hid hdc
            have HS2 := Lib.hid s2
            have hwz : IntKind.i64.wrap (p + yz) = p + yz := IntWalk.i64_in _ (by have := HTX.out.2; omega)
            have hNAb : NA ≤ 1600 := (by have h1 := HF.out.glen HX.out; have h2 := HTX.out.2; have h3 := HBL.out; rw [List.length_cons] at h1; omega)
            have q1 : (p != p) = false := by simp
            clear hyj hye s1 s2 s3 s4 hpb hbj hp hBW e3 hm2 hdc
            go_wp2_with fail
            refine HDC.out.mono ?_
            rintro e w3 ⟨rfl, hb3⟩
            have HB3' := Lib.hid (HB2'.out.trans (hb3.mono HB2'.out.size))
            clear hb3 m0 ml hac'
            go_wp2
            go_roundg (NA - (j + 1))
            case measure => omega
            case rel => exact ⟨j + 1, by omega, (by go_num), by rw [HS2.out], HB3'.out.alloc HB3'.out.size _, Nat.le_refl _⟩
          · obtain rfl : j = NA := by omega
            have hltJ : ¬ (j : Int) < (j : Int) := by omega
            have hnx : posP gs (x :: r) i j = posP gs [] (i + 1) 0 := by
              rw [pos_next HX.out [], List.length_cons, ← HBL.out]
            have HNX := Lib.hid hnx
            have hNBb : NB ≤ 1600 := (by have h1 := HF.out.few; have h2 := HTX.out.2; have h3 := HNB.out; omega)
            have HBE := Lib.hid (HBX.out.trans (HB2'.out.mono HBX.out.size))
            clear hnx
            go_wp2
            go_roundg (NB - (i + 1))
            case measure => omega
            case rel => exact ⟨i + 1, by omega, (by go_num), by rw [HNX.out], HBE, Nat.le_refl _⟩
    · obtain rfl : i = NB := by omega
      have hltI : ¬ (i : Int) < (i : Int) := by omega
      have hpe : posP gs [] i 0 = (T : Int) := by
        have h1 := HF.out.few
        have h2 := HF.out.fin []
        rw [HNB.out] at h1
        rw [h1.1, h2, HTE.out]
      rw [hpe]
      have hfw := HFY.out.keep HB.out
      have f2 := hfw.cell 2 rfl
      have fl := hfw.lt
      have hxcap : i ≤ xc := by have := HFLY.out.fst.2.2; have := HNB.out; omega
      have hzcap : NF ≤ zc := by have := HFLY.out.fst.2.1; have := HFF.out; omega
      have hfcap : NF ≤ fc := by have h1 : m.funcs.length ≤ fc := HOK.out.fc; have := HNF.out; omega
      clear hpe hfw f0 m1 ml
      go_wp2_with fail
      go_loopg [106] NF (fun gk s106 wr2 => ∃ k : Nat, k ≤ NF ∧ s106 = .int .i64 k ∧ Hid (Below Y.heap.size Y wr2) ∧ NF - k ≤ gk)
      case atStart => exact ⟨0, Nat.zero_le _, rfl, HB, Nat.le_refl _⟩
      case round =>
        rename World => wr2
        obtain ⟨k, hk, rfl, HB2', hgk2⟩ := hrel
        have hfw2 := HFY.out.keep HB2'.out
        have hmw2 := HMY.out.keep HB2'.out
        have f0 := hfw2.cell 0 rfl
        have fl := hfw2.lt
        have m0 := hmw2.cell 0 rfl
        have m1 := hmw2.cell 1 rfl
        have ml := hmw2.lt
        clear hfw2 hmw2
        by_cases hlt3 : k < NF
        · have hltK : (k : Int) < (NF : Int) := by omega
          have hnk : d.firsts[k]? = some (d.firsts[k]'(by have := HFF.out; omega)) := List.getElem?_eq_getElem _
          obtain ⟨n, b, f, hn, hbn, hfk, hst⟩ := HF.out.first hnk
          rw [hn] at hnk
          have hfl := HFLY.out.below HB2'.out
          obtain ⟨zg, zo, hzA, hzgl, hzc⟩ := hfl.fst.1.at (intsV_at .i64 hnk)
          obtain ⟨v, g, o, hxA, hgl, -, hcs⟩ := hfl.at hbn
          have c1 := hcs 1 _ rfl
          rw [hst] at c1
          obtain ⟨fb, fo, hfA, hfbl, -, e1, -⟩ := ((HRY.out.funcs.below HB2'.out).more HB2'.out.size).at3 hfk
          simp only at hfA
          obtain ⟨st, hst2⟩ : ∃ z, f.start = z := ⟨_, rfl⟩
          rw [hst2] at c1 e1
          have hnI : (n : Int) < (i : Int) := by
            have h1 := (List.getElem?_eq_some_iff.1 hbn).1
            have := HNB.out
            omega
          have hn0 : (0 : Int) ≤ (n : Int) := by omega
          have q1 : (st != st) = false := by simp
          have hNFb : NF ≤ 140737488355328 := (by have h1 : m.funcs.length ≤ 140737488355328 := HOK.out.fl; have h3 := HNF.out; omega)
          subst hzA hxA hfA
          clear hnk hn hbn hfk hst hfl hcs hst2
          go_wp2_with fail
          go_region
          go_wp2
          go_roundg (NF - (k + 1))
          case measure => omega
          case rel => exact ⟨k + 1, by omega, (by go_num), Lib.hid (below_drewN HB2'.out _), Nat.le_refl _⟩
        · obtain rfl : k = NF := by omega
          have hltK : ¬ (k : Int) < (k : Int) := by omega
          have q1 : ((T : Int) == (T : Int)) = true := by simp
          have HBE := Lib.hid (HWY.out.trans (HB2'.out.mono HWY.out.size))
          go_wp2
          go_ret
          exact ⟨rfl, HBE.out⟩
set_option maxRecDepth 100000 in
theorem recoverGood_contract (H : Type) (enc : TypeId × Value → H) (W : World) (base : Nat) (args : Array Value) (ds gs : List (DataW H)) (before : List MemPlace)
    (hval : ∀ (j : Nat) t v, Tryd.f4.params[j]? = some t → args[j]? = some v → Value.okWide Tryd.prog W .any base t v)
    (hW : DataW.Whole enc Tryd.prog Tryd.f4.params.toList Rows.recoverGoodSpec.vars false W args.toList ds gs before) (hL : laidMetH Tryd.prog Rows.recoverGoodRow.laid W)
    (hz : (DataW.weightsEach Tryd.prog (Tryd.f4.params.toList ++ (OpenSpec.ofChange Rows.recoverGoodSpec).bare.plain.varTypes Tryd.prog) (ds ++ gs)).all (· ≤ reachBytes) = true) :
    Calls Tryd.prog 4 args W fun e W' => ∃ v, e = .returned v ∧ Rows.recoverGoodSpec.post enc Tryd.prog Tryd.f4 false true false false W args v W' := by
  have hT : Tabs W := tabs_of_laid5 hL
  have hW0 := hW
  obtain ⟨p, q, hA0, hV, rfl, hfz, hnd⟩ := hW
  have hA : DataW.TrodAll enc Tryd.prog W 0 (fun _ => true) true Tryd.f4.params.toList args.toList ds p := hA0
  rw [Tryd.params4] at hA hval
  obtain ⟨v0, vs0, d0, ds0, p0, q0, hargs, rfl, rfl, h0, r0⟩ := trodAll_cons hA
  obtain ⟨rfl, rfl, rfl⟩ := trodAll_nil r0
  obtain rfl : args = #[v0] := by cases args; simp_all
  obtain ⟨rfl, rfl⟩ := trodVars_none hV
  clear hA0
  obtain ⟨A, cap, L, rfl, hcap, hcm, hR, hd⟩ := open_raws (hval 0 43 v0 rfl rfl) h0
  have hL : L.length ≤ 140737488355328 := by
    rcases hd with ⟨-, rfl, -⟩ | ⟨elems, spare, rfl, hl⟩
    · exact Nat.zero_le _
    · have h1 := sized_slice hz (j := 0) (t := 43) (by rw [Tryd.params4]; rfl) rfl Tryd.underlying43
      have h2 : Tryd.prog.bytesOf 76 = 32 := by kernel_rfl
      have h3 := reachBytes_lt
      rw [h2, hl] at h1
      omega
  refine (recoverGood_walk L A cap W hT hR hL hcap).mono fun e W' ⟨he, hb⟩ => ?_
  subst he
  exact ⟨_, rfl, law_post hW0 rfl rfl (by kernel_rfl) (by kernel_rfl) hb⟩
set_option maxRecDepth 100000 in
theorem recoverGood_met (os : Os) : laidMet Tryd.prog Rows.recoverGoodRow.laid ((laidWorld5 os).forCall (fun _ _ => 0) ⟨#[], #[.slice none 0 0], []⟩).memory :=
  laidMet_of_run' 8 (by kernel_rfl) (by kernel_rfl)
set_option maxRecDepth 100000 in
theorem recoverGood_reads (os : Os) {H : Type} (enc : TypeId × Value → H) : ∃ places, DataW.whole enc Tryd.prog ((laidWorld5 os).forCall (fun _ _ => 0) ⟨#[], #[.slice none 0 0], []⟩).memory Tryd.f4.params.toList Rows.recoverGoodSpec.vars false (#[.slice none 0 0] : Array Value).toList 8 = some ([.nil], [], places) :=
  ⟨[], by kernel_rfl⟩
set_option maxRecDepth 100000 in
theorem recoverGood_lifted (os : Os) (started : os.Started) (H : Type) (enc : TypeId × Value → H) (F : Stop.Interp) :
    ReturnsInHanded {} Tryd.checked os 4 .any ((OpenSpec.ofChange Rows.recoverGoodSpec).preRow enc Tryd.prog Tryd.f4 Rows.recoverGoodRow.domain false Rows.recoverGoodRow.laid) (((OpenSpec.ofChange Rows.recoverGoodSpec).at F).post enc Tryd.prog Tryd.f4 false true false false) := by
  obtain ⟨places, hx⟩ := recoverGood_reads os enc
  refine returnsInHanded_of_row (C := Tryd.checked) (s := OpenSpec.ofChange Rows.recoverGoodSpec) ownP started (by kernel_rfl) Tryd.func4
    (witness_row_at (enc := enc) (C := Tryd.checked) false (laidWorld5 os) #[.slice none 0 0] rfl (by kernel_rfl) (by kernel_rfl) (by kernel_rfl)
      (OpenSpec.preRow_of_cond 8 hx (by kernel_rfl) (fun k hk => by cases hk) (by kernel_rfl) (recoverGood_met os))) ?_
  intro W base args ds gs before hval hW _ _ hreach hL _ _
  exact recoverGood_contract H enc W base args ds gs before hval hW hL hreach
set_option maxRecDepth 100000 in
theorem recoverGood_said : Rows.RecoverGoodSaid :=
  OpenClaim.holds_of_cond 4 Tryd.f4 rfl rfl rfl rfl rfl rfl rfl ⟨rfl, rfl, rfl, rfl, rfl⟩ rfl rfl rfl rfl rfl (by kernel_rfl) Tryd.func4 (by kernel_rfl)
    (of_decide_eq_true (by kernel_rfl)) (by unfold Func.isWrapper; first | (rw [if_pos (by decide +kernel)]; kernel_rfl) | (rw [if_neg (by decide +kernel)]; exact ⟨rfl, rfl⟩))
    (fun os started H enc _ F => by rw [OpenClaim.pre_eq_preRow]; exact recoverGood_lifted os started H enc F)
set_option maxRecDepth 100000 in
theorem recoverGood_plain (f : FuncId) (fn : Func) (hf : Tryd.pinned.checked.prog.funcNamed "bolthole/boltholekeep.RecoverGood" = some f) (hfn : Tryd.pinned.checked.prog.funcs[f]? = some fn) :
    ∀ (j : Nat) t, fn.params[j]? = some t → Tryd.pinned.checked.prog.wantsStandIn t = false := by
  obtain rfl : f = 4 := Option.some.inj ((show Tryd.prog.funcNamed "bolthole/boltholekeep.RecoverGood" = some 4 by kernel_rfl).symm.trans hf) |>.symm
  obtain rfl : fn = Tryd.f4 := (Option.some.inj (Tryd.func4.symm.trans hfn)).symm
  intro j t ht
  have hall : ∀ t ∈ Tryd.f4.params, Tryd.prog.wantsStandIn t = false := by
    rw [Tryd.params4]
    intro t ht
    simp only [List.mem_toArray, List.mem_cons, List.not_mem_nil, or_false] at ht
    rcases ht with rfl
    all_goals kernel_rfl
  exact hall t (Array.mem_of_getElem? ht)
set_option maxRecDepth 100000 in
theorem recoverGood_card : Rows.RecoverGoodCardSaid :=
  Claim7.holds_tied_plain_at .later [] _ _ _ _ recoverGood_said (fun _ h => by cases h) (by kernel_rfl) (fun _ h => by cases h) recoverGood_row_tie rfl ⟨rfl, rfl⟩ (by kernel_rfl) rfl (fun f fn hf hfn => ⟨by kernel_rfl, recoverGood_plain f fn hf hfn⟩) (by kernel_rfl)
end Go.Proofs.YtlekjnnofhjgjaaDoor
