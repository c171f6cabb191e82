/- The given statement on RecoverLines, proved: blocks have the lines of their code. No condition of its own. -/
import Derived.Test.YtbdlmafhcgndeaaDoorLawS
import Derived.Test.YtbdlmafhcgndeaaDoorFlwR
import Derived.Deep.DeepCutAuto
import Derived.Deep.CutBlock
import Derived.Deep.LoopGhost
import Derived.Deep.QuietTactic
import Derived.BigQuiet
import Derived.IntWalk
import Derived.WalkLawsBesides
namespace Go.Proofs.YtbdlmafhcgndeaaDoor
open Go.ChangeShapes Go.WideShapes Go.ChangeAt Go.RowKit Go.Joins
open Go.ChangeMaps (open_string)
set_option maxHeartbeats 8000000 in
set_option maxRecDepth 100000 in
theorem recoverLines_walk (l : List RawI) (A : Option Addr) (c : Nat) (w : World) (hT : Tabs w) (hR : RdR w w.heap.size A l) (hl : l.length ≤ 140737488355328) (hc : l.length ≤ c) :
    Calls Tryd.prog 3 #[.slice A l.length c] w fun e w' => e = .returned (.bool true) ∧ Below w.heap.size w w' := by
  have HFT := Lib.hid (flowTells_any w hT)
  have HFW : Hid (∀ W, Below w.heap.size w W → Calls Tryd.prog 15 #[.slice A l.length c] W (ProgPost W l)) := Lib.hid fun W hW => program_any l A c W (hT.below hW) ((hR.below hW).more hW.size) hc hl
  have HT := Lib.hid hT
  obtain ⟨ll, hll⟩ : ∃ z, l.length = z := ⟨_, rfl⟩
  rw [hll] at HFW ⊢
  clear hT hR hl hc hll
  go_enter Tryd.func3, Tryd.ntmps3
  go_wp2_with fail
  refine HFT.out.mono ?_
  rintro e w0 ⟨rfl, hb0⟩
  have HB0 := Lib.hid hb0
  clear hb0 HFT
  go_wp2_with fail
  refine (HFW.out _ HB0.out).mono ?_
  rintro e w1 ⟨hb1, v, m, rfl, hown, hok, hpg⟩
  have hre := hpg.recE
  obtain ⟨d, hd⟩ := hpg.rec
  obtain ⟨ld, bm, S, gs, hF, hFn⟩ := gen_flow hpg.check hd
  have HB1 := Lib.hid (HB0.out.trans (hb1.mono HB0.out.size))
  have HRD := Lib.hid hown.rd
  have HOK := Lib.hid hok
  have HRE := Lib.hid hre
  have HD := Lib.hid hd
  have HPG := Lib.hid hpg
  have HF := Lib.hid hF
  obtain ⟨tA, tc, fA, fc, bA, bc, dA, dc, lA, lc⟩ := v
  have HREC : Hid (∀ W, Below w1.heap.size w1 W → Calls Tryd.prog 16 #[.agg (m.val ⟨tA, tc, fA, fc, bA, bc, dA, dc, lA, lc⟩)] W (GoodPost W d)) := Lib.hid fun W hW => by
    have h := rec_any m ⟨tA, tc, fA, fc, bA, bc, dA, dc, lA, lc⟩ W (HT.out.below (HB1.out.trans (hW.mono HB1.out.size))) ((HRD.out.below hW).more hW.size) HOK.out
    rw [HRE.out] at h
    exact h.mono fun e w' hp => hp.2 d rfl HD.out
  have HLA : Hid (∀ p W, N64 p → ImgRd W W.heap.size m ⟨tA, tc, fA, fc, bA, bc, dA, dc, lA, lc⟩ → Calls Tryd.prog 17 #[.agg (m.val ⟨tA, tc, fA, fc, bA, bc, dA, dc, lA, lc⟩), .int .i64 p] W fun e w' => e = .returned (.int .i64 (lineAtF p 0 m.lines)) ∧ Below W.heap.size W w') := Lib.hid fun p W hp hW => lineAt_any m _ p W hW HOK.out hp
  clear hb1 hown hok hpg hre hd hF hFn HFW HB0
  unfold Img.val at HREC HLA ⊢
  simp only at HREC HLA ⊢
  obtain ⟨T, hTe⟩ : ∃ z, m.text.length = z := ⟨_, rfl⟩
  obtain ⟨NF, hNF⟩ : ∃ z, m.funcs.length = z := ⟨_, rfl⟩
  obtain ⟨nb, hnb⟩ : ∃ z, m.tables.length = z := ⟨_, rfl⟩
  obtain ⟨nd, hnd⟩ : ∃ z, m.data.length = z := ⟨_, rfl⟩
  obtain ⟨nl, hnl⟩ : ∃ z, m.lines.length = z := ⟨_, rfl⟩
  rw [hTe, hNF, hnb, hnd, hnl] at HREC HLA ⊢
  clear hTe hNF hnb hnd hnl
  go_upto_region 4 with fail
  obtain ⟨X, hX⟩ : ∃ X, w1.alloc (.cells #[.slice tA T tc, .slice fA NF fc, .slice bA nb bc, .slice dA nd dc, .slice lA nl lc, .int .i64 m.entry] 30) = X := ⟨_, rfl⟩
  rw [hX]
  have hm1 : Blk X w1.heap.size 30 [.slice tA T tc, .slice fA NF fc, .slice bA nb bc, .slice dA nd dc, .slice lA nl lc, .int .i64 m.entry] := by rw [← hX]; exact Blk.new w1 _ _
  have hbX : Below w1.heap.size w1 X := by rw [← hX]; exact (Below.refl _ _).alloc (Nat.le_refl _) _
  have m0 := hm1.cell 0 rfl
  have m1 := hm1.cell 1 rfl
  have m2 := hm1.cell 2 rfl
  have m3 := hm1.cell 3 rfl
  have m4 := hm1.cell 4 rfl
  have m5 := hm1.cell 5 rfl
  have ml := hm1.lt
  have HM := Lib.hid hm1
  have HBX := Lib.hid hbX
  clear hX hm1 hbX
  go_wp2_with fail
  refine (HREC.out _ HBX.out).mono ?_
  rintro e w2 ⟨xA, xc, yA, yc, zA, zc, rfl, hb2, hfl⟩
  have HB2 := Lib.hid (HBX.out.trans (hb2.mono HBX.out.size))
  have HFL := Lib.hid hfl
  have HM2 := Lib.hid (HM.out.keep hb2)
  clear hb2 hfl m0 m1 m2 m3 m4 m5 ml HREC HM HBX
  obtain ⟨NB, hNB⟩ : ∃ z, d.blocks.length = z := ⟨_, rfl⟩
  obtain ⟨nt, hnt⟩ : ∃ z, d.tables.length = z := ⟨_, rfl⟩
  obtain ⟨nz, hnz⟩ : ∃ z, d.firsts.length = z := ⟨_, rfl⟩
  rw [hNB, hnt, hnz]
  have HNB := Lib.hid hNB
  clear hNB hnt hnz
  go_upto_region 5 with fail
  obtain ⟨Y, hY⟩ : ∃ Y, w2.alloc (.cells #[.slice xA NB xc, .slice yA nt yc, .slice zA nz zc] 34) = Y := ⟨_, rfl⟩
  rw [hY]
  have hfY : Blk Y w2.heap.size 34 [.slice xA NB xc, .slice yA nt yc, .slice zA nz zc] := by rw [← hY]; exact Blk.new w2 _ _
  have hbY : Below w2.heap.size w2 Y := by rw [← hY]; exact (Below.refl _ _).alloc (Nat.le_refl _) _
  have hmY := HM2.out.keep hbY
  have HFLY := Lib.hid (HFL.out.below hbY)
  have hbWY := HB2.out.trans (hbY.mono HB2.out.size)
  have HRY := Lib.hid ((HRD.out.below hbWY).more hbWY.size)
  have HSTY : Hid (FlwSt Y l m ⟨tA, tc, fA, fc, bA, bc, dA, dc, lA, lc⟩ d xA yA zA xc yc zc) := Lib.hid ⟨HRY.out, HOK.out, HPG.out, HD.out, HFLY.out⟩
  have HWY := Lib.hid (HB1.out.trans (hbWY.mono HB1.out.size))
  obtain ⟨BX, hBX⟩ : ∃ z, w1.heap.size = z := ⟨_, rfl⟩
  obtain ⟨BY, hBY⟩ : ∃ z, w2.heap.size = z := ⟨_, rfl⟩
  rw [hBX] at hmY ⊢
  rw [hBY] at hfY ⊢
  have HFY := Lib.hid hfY
  have HMY := Lib.hid hmY
  have hNBb : NB ≤ 1600 := (by have h1 := HF.out.few; have h2 := HPG.out.text; have h3 := HNB.out; omega)
  have f0 := hfY.cell 0 rfl
  have fl := hfY.lt
  clear hY hfY hbY hmY hBX hBY hbWY HB2 HFL HM2
  go_wp2_with fail
  go_loopg [22] NB (fun gk s wr => ∃ i : Nat, i ≤ NB ∧ s = .int .i64 i ∧ Hid (Below Y.heap.size Y wr) ∧ NB - i ≤ gk)
  case atStart => exact ⟨0, Nat.zero_le _, rfl, Below.refl _ _, Nat.le_refl _⟩
  case round =>
    obtain ⟨i, hi, rfl, HB, hgk⟩ := hrel
    by_cases hlt : i < NB
    · have hltI : (i : Int) < (NB : Int) := by omega
      have hbi : d.blocks[i]? = some (d.blocks[i]'(by have := HNB.out; omega)) := List.getElem?_eq_getElem _
      obtain ⟨b, hbe⟩ : ∃ z, d.blocks[i]'(by have := HNB.out; omega) = z := ⟨_, rfl⟩
      rw [hbe] at hbi
      have HBI := Lib.hid hbi
      have HLN := Lib.hid (HF.out.lines hbi)
      obtain ⟨ea, y, eg, he1, he2, he3, he4, he5, hen⟩ := HF.out.ends hbi
      have HEN := Lib.hid (And.intro he1 (And.intro he2 (And.intro he3 (And.intro he4 (And.intro he5 hen)))))
      clear he1 he2 he3 he4 he5 hen
      obtain ⟨v, g, o, hxA, hgl, hbr, hcs⟩ := (HSTY.out.flow.below HB.out).at hbi
      obtain ⟨bf, bst, bco, bat, ⟨lk, lld, la, lb, ln, llb⟩, ben, bds, bel, bli⟩ := b
      obtain ⟨cA, cc, aA, ac, liA, lic⟩ := v
      have HBR := Lib.hid hbr
      have c0 := hcs 0 _ rfl
      have c1 := hcs 1 _ rfl
      have c2 := hcs 2 _ rfl
      have c3 := hcs 3 _ rfl
      have c4 := hcs 4 _ rfl
      have c5 := hcs 5 _ rfl
      have c6 := hcs 6 _ rfl
      have c7 := hcs 7 _ rfl
      have c8 := hcs 8 _ rfl
      have c9 := hcs 9 _ rfl
      have c10 := hcs 10 _ rfl
      have c11 := hcs 11 _ rfl
      have c12 := hcs 12 _ rfl
      have c13 := hcs 13 _ rfl
      simp only [Nat.add_zero] at c0 c1 c2 c3 c4 c5 c6 c7 c8 c9 c10 c11 c12 c13
      have hxcap : NB ≤ xc := by
        obtain ⟨l0, e1, e2, -⟩ := HSTY.out.flow
        rw [← HNB.out]
        exact e2.2.1
      obtain ⟨NA, hNA⟩ : ∃ z, bat.length = z := ⟨_, rfl⟩
      rw [hNA] at c3
      have HNA := Lib.hid hNA
      subst hxA
      clear hbe hbi hbr hcs hNA
      have hbln := HF.out.blen HBI.out
      have hlln := HLN.out.1
      simp only at hbln hlln
      rw [HNA.out] at hbln
      obtain ⟨NC, hNC⟩ : ∃ z, bco.length = z := ⟨_, rfl⟩
      obtain ⟨NL, hNL⟩ : ∃ z, bli.length = z := ⟨_, rfl⟩
      rw [hNC] at hbln hlln c2
      rw [hNL] at hlln c13
      have HNL := Lib.hid hNL
      have hTx := HPG.out.text
      have qa : IntKind.i64.wrap ((NC : Int) + 1) = (NL : Int) := by rw [IntWalk.i64_in _ (by omega)]; omega
      have qb : ((NL : Int) != (NL : Int)) = false := by simp
      have hNAb : NA ≤ 1600 := by omega
      have HLL := Lib.hid (And.intro hlln hbln)
      clear hNC hNL hlln hbln hTx
      go_upto_region 8 with fail
      obtain ⟨Z, hZ⟩ : ∃ Z, wr.alloc (.cells #[.int .i64 bf, .int .i64 bst, .slice cA NC cc, .slice aA NA ac, .int .i64 lk, .int .i64 lld, .int .i64 la, .int .i64 lb, .int .i64 ln, .bool llb, .int .i64 ben, .int .i64 bds, .int .i64 bel, .slice liA NL lic] 42) = Z := ⟨_, rfl⟩
      rw [hZ]
      have htZ : Blk Z wr.heap.size 42 [.int .i64 bf, .int .i64 bst, .slice cA NC cc, .slice aA NA ac, .int .i64 lk, .int .i64 lld, .int .i64 la, .int .i64 lb, .int .i64 ln, .bool llb, .int .i64 ben, .int .i64 bds, .int .i64 bel, .slice liA NL lic] := by rw [← hZ]; exact Blk.new wr _ _
      have hbZ : Below wr.heap.size wr Z := by rw [← hZ]; exact (Below.refl _ _).alloc (Nat.le_refl _) _
      have hBYZ := HB.out.trans (hbZ.mono HB.out.size)
      obtain ⟨BZ, hBZ⟩ : ∃ z, wr.heap.size = z := ⟨_, rfl⟩
      rw [hBZ] at htZ ⊢
      have HBZ := Lib.hid hBYZ
      have HTZ := Lib.hid htZ
      have HBRZ : Hid (BRd Z (⟨bf, bst, bco, bat, ⟨lk, lld, la, lb, ln, llb⟩, ben, bds, bel, bli⟩, ⟨cA, cc, aA, ac, liA, lic⟩)) := Lib.hid ⟨(HBR.out.1.below hbZ).more hbZ.size, (HBR.out.2.1.below hbZ).more hbZ.size, (HBR.out.2.2.below hbZ).more hbZ.size⟩
      have HFZ := Lib.hid (HFY.out.keep hBYZ)
      have HMZ := Lib.hid (HMY.out.keep hBYZ)
      have t0 := htZ.cell 0 rfl
      have t2 := htZ.cell 2 rfl
      have t3 := htZ.cell 3 rfl
      have t4 := htZ.cell 4 rfl
      have t10 := htZ.cell 10 rfl
      have t11 := htZ.cell 11 rfl
      have t12 := htZ.cell 12 rfl
      have t13 := htZ.cell 13 rfl
      have tl := htZ.lt
      have g0 := HFZ.out.cell 0 rfl
      have gl := HFZ.out.lt
      have m0 := HMZ.out.cell 0 rfl
      have m1 := HMZ.out.cell 1 rfl
      have ml := HMZ.out.lt
      clear hZ htZ hbZ hBYZ hBZ c0 c1 c2 c3 c4 c5 c6 c7 c8 c9 c10 c11 c12 c13 f0 fl HBR
      obtain ⟨aq, ao, haA, hagl, hac⟩ := HBRZ.out.2.1.1 (by intro e; have h1 := HLL.out.2.1; have h2 := HNA.out; have h3 := congrArg List.length e; rw [intsV_len] at h3; simp at h3; rw [h3] at h2; simp at h2; omega)
      simp only at haA
      subst haA
      have hacap : NA ≤ ac := by have := HBRZ.out.2.1.2.1; have h2 := HNA.out; simp only at this; omega
      obtain ⟨lg, lo, hlA, hlgl, hlc⟩ := HBRZ.out.2.2.1 (by intro e; have h1 := HLL.out.1; have h2 := HNL.out; have h3 := congrArg List.length e; rw [intsV_len] at h3; simp at h3; rw [h3] at h2; simp at h2; omega)
      simp only at hlA
      subst hlA
      have hlcap : NL ≤ lic := by have := HBRZ.out.2.2.2.1; have h2 := HNL.out; simp only at this; omega
      have HAC := Lib.hid hac
      have HLC := Lib.hid hlc
      have HAL := Lib.hid (And.intro hagl hlgl)
      clear hac hlc hagl hlgl
      go_wp2_with fail
      go_loopg [37] NA (fun gk s wr2 => ∃ j : Nat, j ≤ NA ∧ s = .int .i64 j ∧ Hid (Below Z.heap.size Z wr2) ∧ NA - j ≤ gk)
      case atStart => exact ⟨0, Nat.zero_le _, rfl, Below.refl _ _, Nat.le_refl _⟩
      case round =>
        obtain ⟨j, hj, rfl, HB2, hgk2⟩ := hrel
        rename World => wr2
        by_cases hlt2 : j < NA
        · have hltJ : (j : Int) < (NA : Int) := by omega
          have hpj : bat[j]? = some (bat[j]'(by have := HNA.out; omega)) := List.getElem?_eq_getElem _
          obtain ⟨p, hpe⟩ : ∃ z, bat[j]'(by have := HNA.out; omega) = z := ⟨_, rfl⟩
          rw [hpe] at hpj
          have hlj := HLN.out.2 j p hpj
          try simp only at hlj
          have HLJ := Lib.hid hlj
          have hac := (HB2.out.cell (p := ⟨aq, ao + j, none⟩) HAL.out.1).trans (HAC.out j _ (intsV_at .i64 hpj))
          have hlc := (HB2.out.cell (p := ⟨lg, lo + j, none⟩) HAL.out.2).trans (HLC.out j _ (intsV_at .i64 hlj))
          have hBW := HBZ.out.trans (HB2.out.mono HBZ.out.size)
          have htw := HTZ.out.keep HB2.out
          have hmw := HMY.out.keep hBW
          have y13 := htw.cell 13 rfl
          have tl2 := htw.lt
          have x0 := hmw.cell 0 rfl
          have x1 := hmw.cell 1 rfl
          have x2 := hmw.cell 2 rfl
          have x3 := hmw.cell 3 rfl
          have x4 := hmw.cell 4 rfl
          have x5 := hmw.cell 5 rfl
          have ml2 := hmw.lt
          obtain ⟨R, hR⟩ : ∃ z, lineAtF p 0 m.lines = z := ⟨_, rfl⟩
          rw [hR] at hlc
          have hpN : N64 p := by
            obtain ⟨x, r, hg, -, -, -, b3⟩ := HF.out.blk HBI.out
            simp only at b3
            rw [b3, List.getElem?_map, Option.map_eq_some_iff] at hpj
            obtain ⟨u, hu, rfl⟩ := hpj
            obtain ⟨s1, -, s3, -⟩ := HF.out.spot hg hu
            have hpb := HF.out.posb s3
            have hTx := HPG.out.text
            constructor <;> omega
          have HLAp : Hid (∀ W, Below wr2.heap.size wr2 W → Calls Tryd.prog 17 #[.agg #[.slice tA T tc, .slice fA NF fc, .slice bA nb bc, .slice dA nd dc, .slice lA nl lc, .int .i64 m.entry], .int .i64 p] W fun e w' => e = .returned (.int .i64 R) ∧ Below W.heap.size W w') := Lib.hid fun W hW => by
            have := HLA.out p W hpN ((HRY.out.below (hBW.trans (hW.mono hBW.size))).more (hBW.trans (hW.mono hBW.size)).size)
            rw [hR] at this
            exact this
          have hljI : (j : Int) < (NL : Int) := by have h1 := (List.getElem?_eq_some_iff.1 (HLJ.out)).1; have h2 := HNL.out; omega
          have qn : (R != R) = false := by simp
          have HBW := Lib.hid hBW
          clear hpe hpj hlj hBW htw hmw hR hpN t0 t2 t3 t4 t10 t11 t12 t13 tl g0 gl m0 m1 ml HLA
          go_upto_region 13 with fail
          refine wp_region_W (fun w' => w'.cell? ⟨BZ, 13, none⟩ = some (.slice (some ⟨lg, lo, none⟩) NL lic) ∧ w'.cell? ⟨lg, lo + j, none⟩ = some (.int .i64 R) ∧ w'.cell? ⟨BX, 0, none⟩ = some (.slice tA T tc) ∧ w'.cell? ⟨BX, 1, none⟩ = some (.slice fA NF fc) ∧ w'.cell? ⟨BX, 2, none⟩ = some (.slice bA nb bc) ∧ w'.cell? ⟨BX, 3, none⟩ = some (.slice dA nd dc) ∧ w'.cell? ⟨BX, 4, none⟩ = some (.slice lA nl lc) ∧ w'.cell? ⟨BX, 5, none⟩ = some (.int .i64 m.entry)) 9 (by kernel_rfl) (by (try dsimp only); go_keep) (fun hHeld => ?_)
          refine wpW_take 0 (v := ?_) rfl (by kernel_rfl) (by kernel_rfl) (by kernel_rfl) (by kernel_rfl) (fun _ _ _ h => h) (Or.inl ⟨by rfl, ?_⟩) hHeld ?_
          rotate_left
          · intro w hSw
            try dsimp only at hSw
            go_simp
            try with_reducible rfl
          try simp only [Act.put, List.setIfInBounds_toArray, List.set_cons_zero, List.set_cons_succ]
          refine wpW_take 1 (v := ?_) rfl (by kernel_rfl) (by kernel_rfl) (by kernel_rfl) (by kernel_rfl) (fun _ _ _ h => h) (Or.inl ⟨by rfl, ?_⟩) hHeld ?_
          rotate_left
          · intro w hSw
            try dsimp only at hSw
            go_simp
            try with_reducible rfl
          try simp only [Act.put, List.setIfInBounds_toArray, List.set_cons_zero, List.set_cons_succ]
          refine wpW_take 2 (v := ?_) rfl (by kernel_rfl) (by kernel_rfl) (by kernel_rfl) (by kernel_rfl) (fun _ _ _ h => h) (Or.inl ⟨by rfl, ?_⟩) hHeld ?_
          rotate_left
          · intro w hSw
            try dsimp only at hSw
            go_simp
            try with_reducible rfl
          try simp only [Act.put, List.setIfInBounds_toArray, List.set_cons_zero, List.set_cons_succ]
          refine wpW_take 3 (v := ?_) rfl (by kernel_rfl) (by kernel_rfl) (by kernel_rfl) (by kernel_rfl) (fun _ _ _ h => h) (Or.inl ⟨by rfl, ?_⟩) hHeld ?_
          rotate_left
          · intro w hSw
            try dsimp only at hSw
            go_simp
            try with_reducible rfl
          try simp only [Act.put, List.setIfInBounds_toArray, List.set_cons_zero, List.set_cons_succ]
          refine wpW_take 4 (v := ?_) rfl (by kernel_rfl) (by kernel_rfl) (by kernel_rfl) (by kernel_rfl) (fun _ _ _ h => h) (Or.inl ⟨by rfl, ?_⟩) hHeld ?_
          rotate_left
          · intro w hSw
            try dsimp only at hSw
            go_simp
            try with_reducible rfl
          try simp only [Act.put, List.setIfInBounds_toArray, List.set_cons_zero, List.set_cons_succ]
          refine wpW_take 5 (v := ?_) rfl (by kernel_rfl) (by kernel_rfl) (by kernel_rfl) (by kernel_rfl) (fun _ _ _ h => h) (Or.inl ⟨by rfl, ?_⟩) hHeld ?_
          rotate_left
          · intro w hSw
            try dsimp only at hSw
            go_simp
            try with_reducible rfl
          try simp only [Act.put, List.setIfInBounds_toArray, List.set_cons_zero, List.set_cons_succ]
          refine wpW_take 6 (v := ?_) rfl (by kernel_rfl) (by kernel_rfl) (by kernel_rfl) (by kernel_rfl) (fun _ _ _ h => h) (Or.inl ⟨by rfl, ?_⟩) hHeld ?_
          rotate_left
          · intro w hSw
            try dsimp only at hSw
            go_simp
            try with_reducible rfl
          try simp only [Act.put, List.setIfInBounds_toArray, List.set_cons_zero, List.set_cons_succ]
          refine wpW_one 7 rfl (by kernel_rfl) (fun K hK => ?_)
          go_simp
          refine (HLAp.out _ ((Below.refl _ _).drew)).mono ?_
          rintro e w7 ⟨rfl, hb7'⟩
          have hb7 : Below wr2.heap.size wr2 w7 := ((Below.refl wr2.heap.size wr2).drew).trans hb7'
          have k13 : w7.cell? ⟨BZ, 13, none⟩ = some (.slice (some ⟨lg, lo, none⟩) NL lic) := (hb7.cell (p := ⟨BZ, 13, none⟩) tl2).trans y13
          have kl : w7.cell? ⟨lg, lo + j, none⟩ = some (.int .i64 R) := (hb7.cell (p := ⟨lg, lo + j, none⟩) (Nat.lt_of_lt_of_le HAL.out.2 HB2.out.size)).trans hlc
          have k0 : w7.cell? ⟨BX, 0, none⟩ = some (.slice tA T tc) := (hb7.cell (p := ⟨BX, 0, none⟩) ml2).trans x0
          have k1 : w7.cell? ⟨BX, 1, none⟩ = some (.slice fA NF fc) := (hb7.cell (p := ⟨BX, 1, none⟩) ml2).trans x1
          have k2 : w7.cell? ⟨BX, 2, none⟩ = some (.slice bA nb bc) := (hb7.cell (p := ⟨BX, 2, none⟩) ml2).trans x2
          have k3 : w7.cell? ⟨BX, 3, none⟩ = some (.slice dA nd dc) := (hb7.cell (p := ⟨BX, 3, none⟩) ml2).trans x3
          have k4 : w7.cell? ⟨BX, 4, none⟩ = some (.slice lA nl lc) := (hb7.cell (p := ⟨BX, 4, none⟩) ml2).trans x4
          have k5 : w7.cell? ⟨BX, 5, none⟩ = some (.int .i64 m.entry) := (hb7.cell (p := ⟨BX, 5, none⟩) ml2).trans x5
          refine hK.out _ _ (by (try dsimp only); exact ⟨k13, kl, k0, k1, k2, k3, k4, k5⟩) (fun hHeld => ?_)
          clear hK K
          try simp only [Act.put, List.setIfInBounds_toArray, List.set_cons_zero, List.set_cons_succ]
          refine wpW_take 8 (v := ?_) rfl (by kernel_rfl) (by kernel_rfl) (by kernel_rfl) (by kernel_rfl) (fun _ _ _ h => h) (Or.inl ⟨by rfl, ?_⟩) hHeld ?_
          rotate_left
          · intro w hSw
            try dsimp only at hSw
            go_simp
            try with_reducible rfl
          try simp only [Act.put, List.setIfInBounds_toArray, List.set_cons_zero, List.set_cons_succ]
          refine wpW_done (by kernel_rfl) ?_ _
          go_wp2
          go_roundg (NA - (j + 1))
          case measure => omega
          case rel => exact ⟨j + 1, by omega, (by go_num), Lib.hid (HB2.out.trans (hb7.mono HB2.out.size)), Nat.le_refl _⟩
        · obtain rfl : j = NA := by omega
          have hltJ : ¬ (j : Int) < (j : Int) := by omega
          have HBE := Lib.hid (HBZ.out.trans (HB2.out.mono HBZ.out.size))
          go_wp2
          go_roundg (NB - (i + 1))
          case measure => omega
          case rel => exact ⟨i + 1, by omega, (by go_num), HBE, Nat.le_refl _⟩
    · obtain rfl : i = NB := by omega
      have hltI : ¬ (i : Int) < (i : Int) := by omega
      have HBE := Lib.hid (HWY.out.trans (HB.out.mono HWY.out.size))
      go_wp2_with fail
      go_ret
      exact ⟨by simp, HBE.out⟩
set_option maxRecDepth 100000 in
theorem recoverLines_contract (H : Type) (enc : TypeId × Value → H) (W : World) (base : Nat) (args : Array Value) (ds gs : List (DataW H)) (before : List MemPlace)
    (hval : ∀ (j : Nat) t v, Tryd.f3.params[j]? = some t → args[j]? = some v → Value.okWide Tryd.prog W .any base t v)
    (hW : DataW.Whole enc Tryd.prog Tryd.f3.params.toList Rows.recoverLinesSpec.vars false W args.toList ds gs before) (hL : laidMetH Tryd.prog Rows.recoverLinesRow.laid W)
    (hz : (DataW.weightsEach Tryd.prog (Tryd.f3.params.toList ++ (OpenSpec.ofChange Rows.recoverLinesSpec).bare.plain.varTypes Tryd.prog) (ds ++ gs)).all (· ≤ reachBytes) = true) :
    Calls Tryd.prog 3 args W fun e W' => ∃ v, e = .returned v ∧ Rows.recoverLinesSpec.post enc Tryd.prog Tryd.f3 false true false false W args v W' := by
  have hT : Tabs W := tabs_of_laid5 hL
  have hW0 := hW
  obtain ⟨p, q, hA0, hV, rfl, hfz, hnd⟩ := hW
  have hA : DataW.TrodAll enc Tryd.prog W 0 (fun _ => true) true Tryd.f3.params.toList args.toList ds p := hA0
  rw [Tryd.params3] at hA hval
  obtain ⟨v0, vs0, d0, ds0, p0, q0, hargs, rfl, rfl, h0, r0⟩ := trodAll_cons hA
  obtain ⟨rfl, rfl, rfl⟩ := trodAll_nil r0
  obtain rfl : args = #[v0] := by cases args; simp_all
  obtain ⟨rfl, rfl⟩ := trodVars_none hV
  clear hA0
  obtain ⟨A, cap, L, rfl, hcap, hcm, hR, hd⟩ := open_raws (hval 0 22 v0 rfl rfl) h0
  have hL : L.length ≤ 140737488355328 := by
    rcases hd with ⟨-, rfl, -⟩ | ⟨elems, spare, rfl, hl⟩
    · exact Nat.zero_le _
    · have h1 := sized_slice hz (j := 0) (t := 22) (by rw [Tryd.params3]; rfl) rfl Tryd.underlying22
      have h2 : Tryd.prog.bytesOf 57 = 32 := by kernel_rfl
      have h3 := reachBytes_lt
      rw [h2, hl] at h1
      omega
  refine (recoverLines_walk L A cap W hT hR hL hcap).mono fun e W' ⟨he, hb⟩ => ?_
  subst he
  exact ⟨_, rfl, law_post hW0 rfl rfl (by kernel_rfl) (by kernel_rfl) hb⟩
set_option maxRecDepth 100000 in
theorem recoverLines_met (os : Os) : laidMet Tryd.prog Rows.recoverLinesRow.laid ((laidWorld5 os).forCall (fun _ _ => 0) ⟨#[], #[.slice none 0 0], []⟩).memory :=
  laidMet_of_run' 8 (by kernel_rfl) (by kernel_rfl)
set_option maxRecDepth 100000 in
theorem recoverLines_reads (os : Os) {H : Type} (enc : TypeId × Value → H) : ∃ places, DataW.whole enc Tryd.prog ((laidWorld5 os).forCall (fun _ _ => 0) ⟨#[], #[.slice none 0 0], []⟩).memory Tryd.f3.params.toList Rows.recoverLinesSpec.vars false (#[.slice none 0 0] : Array Value).toList 8 = some ([.nil], [], places) :=
  ⟨[], by kernel_rfl⟩
set_option maxRecDepth 100000 in
theorem recoverLines_lifted (os : Os) (started : os.Started) (H : Type) (enc : TypeId × Value → H) (F : Stop.Interp) :
    ReturnsInHanded {} Tryd.checked os 3 .any ((OpenSpec.ofChange Rows.recoverLinesSpec).preRow enc Tryd.prog Tryd.f3 Rows.recoverLinesRow.domain false Rows.recoverLinesRow.laid) (((OpenSpec.ofChange Rows.recoverLinesSpec).at F).post enc Tryd.prog Tryd.f3 false true false false) := by
  obtain ⟨places, hx⟩ := recoverLines_reads os enc
  refine returnsInHanded_of_row (C := Tryd.checked) (s := OpenSpec.ofChange Rows.recoverLinesSpec) ownP started (by kernel_rfl) Tryd.func3
    (witness_row_at (enc := enc) (C := Tryd.checked) false (laidWorld5 os) #[.slice none 0 0] rfl (by kernel_rfl) (by kernel_rfl) (by kernel_rfl)
      (OpenSpec.preRow_of_cond 8 hx (by kernel_rfl) (fun k hk => by cases hk) (by kernel_rfl) (recoverLines_met os))) ?_
  intro W base args ds gs before hval hW _ _ hreach hL _ _
  exact recoverLines_contract H enc W base args ds gs before hval hW hL hreach
set_option maxRecDepth 100000 in
theorem recoverLines_said : Rows.RecoverLinesSaid :=
  OpenClaim.holds_of_cond 3 Tryd.f3 rfl rfl rfl rfl rfl rfl rfl ⟨rfl, rfl, rfl, rfl, rfl⟩ rfl rfl rfl rfl rfl (by kernel_rfl) Tryd.func3 (by kernel_rfl)
    (of_decide_eq_true (by kernel_rfl)) (by unfold Func.isWrapper; first | (rw [if_pos (by decide +kernel)]; kernel_rfl) | (rw [if_neg (by decide +kernel)]; exact ⟨rfl, rfl⟩))
    (fun os started H enc _ F => by rw [OpenClaim.pre_eq_preRow]; exact recoverLines_lifted os started H enc F)
set_option maxRecDepth 100000 in
theorem recoverLines_plain (f : FuncId) (fn : Func) (hf : Tryd.pinned.checked.prog.funcNamed "bolthole/boltholekeep.RecoverLines" = some f) (hfn : Tryd.pinned.checked.prog.funcs[f]? = some fn) :
    ∀ (j : Nat) t, fn.params[j]? = some t → Tryd.pinned.checked.prog.wantsStandIn t = false := by
  obtain rfl : f = 3 := Option.some.inj ((show Tryd.prog.funcNamed "bolthole/boltholekeep.RecoverLines" = some 3 by kernel_rfl).symm.trans hf) |>.symm
  obtain rfl : fn = Tryd.f3 := (Option.some.inj (Tryd.func3.symm.trans hfn)).symm
  intro j t ht
  have hall : ∀ t ∈ Tryd.f3.params, Tryd.prog.wantsStandIn t = false := by
    rw [Tryd.params3]
    intro t ht
    simp only [List.mem_toArray, List.mem_cons, List.not_mem_nil, or_false] at ht
    rcases ht with rfl
    all_goals kernel_rfl
  exact hall t (Array.mem_of_getElem? ht)
set_option maxRecDepth 100000 in
theorem recoverLines_card : Rows.RecoverLinesCardSaid :=
  Claim7.holds_tied_plain_at .later [] _ _ _ _ recoverLines_said (fun _ h => by cases h) (by kernel_rfl) (fun _ h => by cases h) recoverLines_row_tie rfl ⟨rfl, rfl⟩ (by kernel_rfl) rfl (fun f fn hf hfn => ⟨by kernel_rfl, recoverLines_plain f fn hf hfn⟩) (by kernel_rfl)
end Go.Proofs.YtbdlmafhcgndeaaDoor
