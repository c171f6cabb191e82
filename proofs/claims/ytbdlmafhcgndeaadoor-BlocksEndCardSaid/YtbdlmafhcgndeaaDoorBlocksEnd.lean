/- The given statement on BlocksEnd, proved: a block ends as its last instruction says. No condition of its own. -/
import Derived.Test.YtbdlmafhcgndeaaDoorLawS
import Derived.Test.YtbdlmafhcgndeaaDoorFlwR
import Derived.Deep.DeepCutAuto
import Derived.Deep.CutBlock
import Derived.Deep.LoopGhost
import Derived.Deep.QuietTactic
import Derived.BigQuiet
import Derived.IntWalk
import Derived.WalkLawsBesides
namespace Go.Proofs.YtbdlmafhcgndeaaDoor
open Go.ChangeShapes Go.WideShapes Go.ChangeAt Go.RowKit Go.Joins
open Go.ChangeMaps (open_string)
set_option maxHeartbeats 8000000 in
set_option maxRecDepth 100000 in
theorem blocksEnd_walk (l : List RawI) (A : Option Addr) (c : Nat) (w : World) (hT : Tabs w) (hR : RdR w w.heap.size A l) (hl : l.length ≤ 140737488355328) (hc : l.length ≤ c) :
    Calls Tryd.prog 4 #[.slice A l.length c] w fun e w' => e = .returned (.bool true) ∧ Below w.heap.size w w' := by
  have HFT := Lib.hid (flowTells_any w hT)
  have HFW : Hid (∀ W, Below w.heap.size w W → Calls Tryd.prog 18 #[.slice A l.length c] W (FlwPost W l)) := Lib.hid fun W hW => flowed_any l A c W (hT.below hW) ((hR.below hW).more hW.size) hc hl
  have HT := Lib.hid hT
  obtain ⟨ll, hll⟩ : ∃ z, l.length = z := ⟨_, rfl⟩
  rw [hll] at HFW ⊢
  clear hT hR hl hc hll
  go_enter Tryd.func4, Tryd.ntmps4
  go_wp2_with fail
  refine HFT.out.mono ?_
  rintro e w0 ⟨rfl, hb0⟩
  have HB0 := Lib.hid hb0
  clear hb0 HFT
  go_wp2_with fail
  refine (HFW.out _ HB0.out).mono ?_
  rintro e w1 ⟨hb1, m, v, d, xA, yA, zA, xc, yc, zc, rfl, hst⟩
  obtain ⟨ld, bm, S, gs, hF, hFn⟩ := gen_flow hst.pgm.check hst.rc
  have HB1 := Lib.hid (HB0.out.trans (hb1.mono HB0.out.size))
  have HST := Lib.hid hst
  have HF := Lib.hid hF
  have HFN := Lib.hid hFn
  obtain ⟨tA, tc, fA, fc, bA, bc, dA, dc, lA, lc⟩ := v
  clear hb1 hst hF hFn HFW HB0
  unfold Img.val flowV
  simp only
  obtain ⟨T, hTe⟩ : ∃ z, m.text.length = z := ⟨_, rfl⟩
  obtain ⟨NF, hNF⟩ : ∃ z, m.funcs.length = z := ⟨_, rfl⟩
  obtain ⟨nb, hnb⟩ : ∃ z, m.tables.length = z := ⟨_, rfl⟩
  obtain ⟨nd, hnd⟩ : ∃ z, m.data.length = z := ⟨_, rfl⟩
  obtain ⟨nl, hnl⟩ : ∃ z, m.lines.length = z := ⟨_, rfl⟩
  obtain ⟨NB, hNB⟩ : ∃ z, d.blocks.length = z := ⟨_, rfl⟩
  obtain ⟨nt, hnt⟩ : ∃ z, d.tables.length = z := ⟨_, rfl⟩
  obtain ⟨nz, hnz⟩ : ∃ z, d.firsts.length = z := ⟨_, rfl⟩
  rw [hTe, hNF, hnb, hnd, hnl, hNB, hnt, hnz]
  have HTE := Lib.hid hTe
  have HNF := Lib.hid hNF
  have HN5 := Lib.hid (And.intro hnb (And.intro hnd hnl))
  have HNB := Lib.hid hNB
  have HNT := Lib.hid hnt
  have HNZ := Lib.hid hnz
  clear hTe hNF hnb hnd hnl hNB hnt hnz
  go_upto_region 4 with fail
  obtain ⟨X, hX⟩ : ∃ X, w1.alloc (.cells #[.slice tA T tc, .slice fA NF fc, .slice bA nb bc, .slice dA nd dc, .slice lA nl lc, .int .i64 m.entry] 30) = X := ⟨_, rfl⟩
  rw [hX]
  have hm1 : Blk X w1.heap.size 30 [.slice tA T tc, .slice fA NF fc, .slice bA nb bc, .slice dA nd dc, .slice lA nl lc, .int .i64 m.entry] := by rw [← hX]; exact Blk.new w1 _ _
  have hbX : Below w1.heap.size w1 X := by rw [← hX]; exact (Below.refl _ _).alloc (Nat.le_refl _) _
  have hxs : X.heap.size = w1.heap.size + 1 := by rw [← hX]; simp
  obtain ⟨Y, hY⟩ : ∃ Y, X.alloc (.cells #[.slice xA NB xc, .slice yA nt yc, .slice zA nz zc] 34) = Y := ⟨_, rfl⟩
  rw [hY]
  have hfY : Blk Y (w1.heap.size + 1) 34 [.slice xA NB xc, .slice yA nt yc, .slice zA nz zc] := by rw [← hY, ← hxs]; exact Blk.new X _ _
  have hbY : Below X.heap.size X Y := by rw [← hY]; exact (Below.refl _ _).alloc (Nat.le_refl _) _
  have hmY := hm1.keep hbY
  have hbWY := hbX.trans (hbY.mono hbX.size)
  obtain ⟨BX, hBX⟩ : ∃ z, w1.heap.size = z := ⟨_, rfl⟩
  rw [hBX] at hfY hmY ⊢
  have HFY := Lib.hid hfY
  have HMY := Lib.hid hmY
  have HSTY := Lib.hid (HST.out.below hbWY)
  have HWY := Lib.hid (HB1.out.trans (hbWY.mono HB1.out.size))
  have HTXT := Lib.hid HST.out.pgm.text
  have hfew := HF.out.few
  have hNBb : NB ≤ 1600 := (by have h2 := HST.out.pgm.text; have h3 := HNB.out; omega)
  have f0 := hfY.cell 0 rfl
  have fl := hfY.lt
  clear hX hY hm1 hbX hbY hfY hmY hbWY hxs hfew HST hBX
  go_wp2_with fail
  go_loopg [23] NB (fun gk s wr => ∃ i : Nat, i ≤ NB ∧ s = .int .i64 i ∧ Hid (Below Y.heap.size Y wr) ∧ NB - i ≤ gk)
  case atStart => exact ⟨0, Nat.zero_le _, rfl, Below.refl _ _, Nat.le_refl _⟩
  case round =>
    obtain ⟨i, hi, rfl, HB, hgk⟩ := hrel
    by_cases hlt : i < NB
    · have hltI : (i : Int) < (NB : Int) := by omega
      have hbi : d.blocks[i]? = some (d.blocks[i]'(by have := HNB.out; omega)) := List.getElem?_eq_getElem _
      obtain ⟨b, hbe⟩ : ∃ z, d.blocks[i]'(by have := HNB.out; omega) = z := ⟨_, rfl⟩
      rw [hbe] at hbi
      have HBI := Lib.hid hbi
      have HLN := Lib.hid (HF.out.lines hbi)
      obtain ⟨ea, y, eg, he1, he2, he3, he4, he5, hen⟩ := HF.out.ends hbi
      have HEN := Lib.hid (And.intro he1 (And.intro he2 (And.intro he3 (And.intro he4 (And.intro he5 hen)))))
      clear he1 he2 he3 he4 he5 hen
      obtain ⟨v, g, o, hxA, hgl, hbr, hcs⟩ := (HSTY.out.flow.below HB.out).at hbi
      obtain ⟨bf, bst, bco, bat, ⟨lk, lld, la, lb, ln, llb⟩, ben, bds, bel, bli⟩ := b
      obtain ⟨cA, cc, aA, ac, liA, lic⟩ := v
      have HBR := Lib.hid hbr
      have c0 := hcs 0 _ rfl
      have c1 := hcs 1 _ rfl
      have c2 := hcs 2 _ rfl
      have c3 := hcs 3 _ rfl
      have c4 := hcs 4 _ rfl
      have c5 := hcs 5 _ rfl
      have c6 := hcs 6 _ rfl
      have c7 := hcs 7 _ rfl
      have c8 := hcs 8 _ rfl
      have c9 := hcs 9 _ rfl
      have c10 := hcs 10 _ rfl
      have c11 := hcs 11 _ rfl
      have c12 := hcs 12 _ rfl
      have c13 := hcs 13 _ rfl
      simp only [Nat.add_zero] at c0 c1 c2 c3 c4 c5 c6 c7 c8 c9 c10 c11 c12 c13
      have hxcap : NB ≤ xc := by
        obtain ⟨l0, e1, e2, -⟩ := HSTY.out.flow
        rw [← HNB.out]
        exact e2.2.1
      obtain ⟨NA, hNA⟩ : ∃ z, bat.length = z := ⟨_, rfl⟩
      rw [hNA] at c3
      have HNA := Lib.hid hNA
      subst hxA
      clear hbe hbi hbr hcs hNA
      obtain ⟨ha, hdec, hyS, hgs, hgl2, hen⟩ := HEN.out
      obtain ⟨yf, P, yz, ⟨ik, id, ia, ib, inn, il⟩⟩ := y
      simp only at ha hdec hyS
      have hbln := HF.out.blen HBI.out
      have hTx := HTXT.out
      simp only at hbln
      rw [HNA.out] at hbln
      obtain ⟨NK, hNK⟩ : ∃ k, NA = k + 1 := ⟨NA - 1, by omega⟩
      have hlast : bat[NK]? = some P := by
        have : bat.length = ea.length + 1 := by rw [ha]; simp
        have h2 := HNA.out
        rw [ha, List.getElem?_append_right (by omega), show NK - ea.length = 0 by omega]
        rfl
      have hpb := HF.out.posb hyS
      simp only at hpb
      have qk : IntKind.i64.wrap ((NA : Int) - 1) = (NK : Int) := by rw [IntWalk.i64_in _ (by omega)]; omega
      have hNK0 : (0 : Int) ≤ (NK : Int) := by omega
      have hNK1 : (NK : Int) < (NA : Int) := by omega
      obtain ⟨nx, hnx⟩ : ∃ z, P + yz = z := ⟨_, rfl⟩
      have hyz := decB_sz (L := m.text) (p := P) (by rw [hdec])
      have hchk := decB_ok (L := m.text) (p := P) (by rw [hdec])
      rw [hdec] at hyz hchk
      simp only at hyz hchk
      have hinn := (chk_n hchk.1).1
      simp only at hinn
      have qnx : IntKind.i64.wrap (P + yz) = nx := by rw [IntWalk.i64_in _ (by omega)]; exact hnx
      have HP := Lib.hid (And.intro ha (And.intro hdec (And.intro hyS (And.intro hgs (And.intro hgl2 hen)))))
      have HPB := Lib.hid (And.intro hpb (And.intro hyz (And.intro hchk (And.intro hinn (And.intro hnx (And.intro hNK hTx))))))
      have HLAST := Lib.hid hlast
      clear ha hdec hyS hgs hgl2 hen hbln hTx hlast hpb hyz hchk hinn hnx hNK HEN
      go_upto_region 7 with fail
      obtain ⟨Z, hZ⟩ : ∃ Z, wr.alloc (.cells #[.int .i64 bf, .int .i64 bst, .slice cA bco.length cc, .slice aA NA ac, .int .i64 lk, .int .i64 lld, .int .i64 la, .int .i64 lb, .int .i64 ln, .bool llb, .int .i64 ben, .int .i64 bds, .int .i64 bel, .slice liA bli.length lic] 42) = Z := ⟨_, rfl⟩
      rw [hZ]
      have htZ : Blk Z wr.heap.size 42 [.int .i64 bf, .int .i64 bst, .slice cA bco.length cc, .slice aA NA ac, .int .i64 lk, .int .i64 lld, .int .i64 la, .int .i64 lb, .int .i64 ln, .bool llb, .int .i64 ben, .int .i64 bds, .int .i64 bel, .slice liA bli.length lic] := by rw [← hZ]; exact Blk.new wr _ _
      have hbZ : Below wr.heap.size wr Z := by rw [← hZ]; exact (Below.refl _ _).alloc (Nat.le_refl _) _
      have hBYZ := HB.out.trans (hbZ.mono HB.out.size)
      obtain ⟨BZ, hBZ⟩ : ∃ z, wr.heap.size = z := ⟨_, rfl⟩
      rw [hBZ] at htZ ⊢
      have HBZ := Lib.hid hBYZ
      have HTZ := Lib.hid htZ
      have HBRZ : Hid (BRd Z (⟨bf, bst, bco, bat, ⟨lk, lld, la, lb, ln, llb⟩, ben, bds, bel, bli⟩, ⟨cA, cc, aA, ac, liA, lic⟩)) := Lib.hid ⟨(HBR.out.1.below hbZ).more hbZ.size, (HBR.out.2.1.below hbZ).more hbZ.size, (HBR.out.2.2.below hbZ).more hbZ.size⟩
      have HFZ := Lib.hid (HFY.out.keep hBYZ)
      have HMZ := Lib.hid (HMY.out.keep hBYZ)
      have t0 := htZ.cell 0 rfl
      have t2 := htZ.cell 2 rfl
      have t3 := htZ.cell 3 rfl
      have t4 := htZ.cell 4 rfl
      have t10 := htZ.cell 10 rfl
      have t11 := htZ.cell 11 rfl
      have t12 := htZ.cell 12 rfl
      have t13 := htZ.cell 13 rfl
      have tl := htZ.lt
      have g0 := HFZ.out.cell 0 rfl
      have gl := HFZ.out.lt
      have m0 := HMZ.out.cell 0 rfl
      have m1 := HMZ.out.cell 1 rfl
      have ml := HMZ.out.lt
      clear hZ htZ hbZ hBYZ hBZ c0 c1 c2 c3 c4 c5 c6 c7 c8 c9 c10 c11 c12 c13 f0 fl HBR
      obtain ⟨aq, ao, haA, hagl, hac⟩ := HBRZ.out.2.1.1.at (intsV_at .i64 HLAST.out)
      simp only at haA
      subst haA
      have hacap : NA ≤ ac := by have := HBRZ.out.2.1.2.1; have h2 := HNA.out; simp only at this; omega
      have HDC : Hid (∀ W, Below Z.heap.size Z W → Calls Tryd.prog 19 #[.slice tA T tc, .int .i64 P] W fun e w' => e = .returned (.tuple #[.agg #[.int .i64 ik, .int .i64 id, .int .i64 ia, .int .i64 ib, .int .i64 inn, .bool il], .int .i64 yz, .int .i64 0]) ∧ Below W.heap.size W w') := Lib.hid fun W hW => by
        have hBW := HBZ.out.trans (hW.mono HBZ.out.size)
        have hst := HSTY.out.below hBW
        have hdc := decode_any m.text tA T tc P W (HT.out.below (HWY.out.trans (hBW.mono HWY.out.size))) HTE.out.symm (rdg_bytes hst.img.text HSTY.out.ok.tb) (by have := HTE.out; have := HPB.out.2.2.2.2.2.2; omega) (show T ≤ tc from by rw [← HTE.out]; exact HSTY.out.ok.tc)
        rw [HP.out.2.1] at hdc
        exact hdc
      have HAC := Lib.hid (And.intro hac hagl)
      clear hac hagl
      go_cut [8, 9, 10] (fun s8 s9 s10 wx => ∃ z, s8 = .pointer (some ⟨z, 0, none⟩) ∧ s9 = .int .i64 yz ∧ s10 = .int .i64 0 ∧ Hid (InsVar Z wx z ⟨ik, id, ia, ib, inn, il⟩))
      case first =>
        have hac := HAC.out.1
        refine wp_region_W (fun w' => w'.cell? ⟨BX, 0, none⟩ = some (.slice tA T tc) ∧ w'.cell? ⟨BZ, 3, none⟩ = some (.slice (some ⟨aq, ao, none⟩) NA ac) ∧ w'.cell? ⟨aq, ao + NK, none⟩ = some (.int .i64 P)) 19 (by kernel_rfl) (by (try dsimp only); go_keep) (fun hHeld => ?_)
        have hbD : Below Z.heap.size Z Z.drew := (Below.refl _ _).drew
        refine wpW_take 0 (v := ?_) rfl (by kernel_rfl) (by kernel_rfl) (by kernel_rfl) (by kernel_rfl) (fun _ _ _ h => h) (Or.inl ⟨by rfl, ?_⟩) hHeld ?_
        rotate_left
        · intro w hSw
          try dsimp only at hSw
          go_simp
          try with_reducible rfl
        try simp only [Act.put, List.setIfInBounds_toArray, List.set_cons_zero, List.set_cons_succ]
        refine wpW_take 1 (v := ?_) rfl (by kernel_rfl) (by kernel_rfl) (by kernel_rfl) (by kernel_rfl) (fun _ _ _ h => h) (Or.inl ⟨by rfl, ?_⟩) hHeld ?_
        rotate_left
        · intro w hSw
          try dsimp only at hSw
          go_simp
          try with_reducible rfl
        try simp only [Act.put, List.setIfInBounds_toArray, List.set_cons_zero, List.set_cons_succ]
        refine wpW_take 2 (v := ?_) rfl (by kernel_rfl) (by kernel_rfl) (by kernel_rfl) (by kernel_rfl) (fun _ _ _ h => h) (Or.inl ⟨by rfl, ?_⟩) hHeld ?_
        rotate_left
        · intro w hSw
          try dsimp only at hSw
          go_simp
          try with_reducible rfl
        try simp only [Act.put, List.setIfInBounds_toArray, List.set_cons_zero, List.set_cons_succ]
        refine wpW_take 3 (v := ?_) rfl (by kernel_rfl) (by kernel_rfl) (by kernel_rfl) (by kernel_rfl) (fun _ _ _ h => h) (Or.inl ⟨by rfl, ?_⟩) hHeld ?_
        rotate_left
        · intro w hSw
          try dsimp only at hSw
          go_simp
          try with_reducible rfl
        try simp only [Act.put, List.setIfInBounds_toArray, List.set_cons_zero, List.set_cons_succ]
        refine wpW_take 4 (v := ?_) rfl (by kernel_rfl) (by kernel_rfl) (by kernel_rfl) (by kernel_rfl) (fun _ _ _ h => h) (Or.inl ⟨by rfl, ?_⟩) hHeld ?_
        rotate_left
        · intro w hSw
          try dsimp only at hSw
          go_simp
          try with_reducible rfl
        try simp only [Act.put, List.setIfInBounds_toArray, List.set_cons_zero, List.set_cons_succ]
        refine wpW_take 5 (v := ?_) rfl (by kernel_rfl) (by kernel_rfl) (by kernel_rfl) (by kernel_rfl) (fun _ _ _ h => h) (Or.inl ⟨by rfl, ?_⟩) hHeld ?_
        rotate_left
        · intro w hSw
          try dsimp only at hSw
          go_simp
          try with_reducible rfl
        try simp only [Act.put, List.setIfInBounds_toArray, List.set_cons_zero, List.set_cons_succ]
        refine wpW_take 6 (v := ?_) rfl (by kernel_rfl) (by kernel_rfl) (by kernel_rfl) (by kernel_rfl) (fun _ _ _ h => h) (Or.inl ⟨by rfl, ?_⟩) hHeld ?_
        rotate_left
        · intro w hSw
          try dsimp only at hSw
          go_simp
          try with_reducible rfl
        try simp only [Act.put, List.setIfInBounds_toArray, List.set_cons_zero, List.set_cons_succ]
        refine wpW_take 7 (v := ?_) rfl (by kernel_rfl) (by kernel_rfl) (by kernel_rfl) (by kernel_rfl) (fun _ _ _ h => h) (Or.inl ⟨by rfl, ?_⟩) hHeld ?_
        rotate_left
        · intro w hSw
          try dsimp only at hSw
          go_simp
          try with_reducible rfl
        try simp only [Act.put, List.setIfInBounds_toArray, List.set_cons_zero, List.set_cons_succ]
        refine wpW_take 8 (v := ?_) rfl (by kernel_rfl) (by kernel_rfl) (by kernel_rfl) (by kernel_rfl) (fun _ _ _ h => h) (Or.inl ⟨by rfl, ?_⟩) hHeld ?_
        rotate_left
        · intro w hSw
          try dsimp only at hSw
          go_simp
          try with_reducible rfl
        try simp only [Act.put, List.setIfInBounds_toArray, List.set_cons_zero, List.set_cons_succ]
        refine wpW_take 9 (v := ?_) rfl (by kernel_rfl) (by kernel_rfl) (by kernel_rfl) (by kernel_rfl) (fun _ _ _ h => h) (Or.inl ⟨by rfl, ?_⟩) hHeld ?_
        rotate_left
        · intro w hSw
          try dsimp only at hSw
          go_simp
          try with_reducible rfl
        try simp only [Act.put, List.setIfInBounds_toArray, List.set_cons_zero, List.set_cons_succ]
        refine wpW_all [10, 15] (by kernel_rfl) (by simp) ?_
        refine AllW.cons (i := 10) rfl (fun K hK => ?_) ?_
        · skip
          go_simp
          refine (HDC.out Z.drew hbD).mono ?_
          rintro e w10 ⟨rfl, hb10⟩
          have hbX10 : Below Z.heap.size Z w10 := hbD.trans (hb10.mono hbD.size)
          have y10_0 : w10.cell? ⟨BX, 0, none⟩ = some (.slice tA T tc) := (hbX10.cell HMZ.out.lt).trans m0
          have y10_1 : w10.cell? ⟨BZ, 3, none⟩ = some (.slice (some ⟨aq, ao, none⟩) NA ac) := (hbX10.cell HTZ.out.lt).trans t3
          have y10_2 : w10.cell? ⟨aq, ao + NK, none⟩ = some (.int .i64 P) := (hbX10.cell HAC.out.2).trans hac
          refine hK.out _ _ (by (try dsimp only); go_keep) (fun hHeld => ?_)
          clear hK K
          try simp only [Act.put, List.setIfInBounds_toArray, List.set_cons_zero, List.set_cons_succ]
          refine wpW_take 11 (v := ?_) rfl (by kernel_rfl) (by kernel_rfl) (by kernel_rfl) (by kernel_rfl) (fun _ _ _ h => h) (Or.inl ⟨by rfl, ?_⟩) hHeld ?_
          rotate_left
          · intro w hSw
            try dsimp only at hSw
            go_simp
            try with_reducible rfl
          try simp only [Act.put, List.setIfInBounds_toArray, List.set_cons_zero, List.set_cons_succ]
          refine wpW_take 12 (v := ?_) rfl (by kernel_rfl) (by kernel_rfl) (by kernel_rfl) (by kernel_rfl) (fun _ _ _ h => h) (Or.inl ⟨by rfl, ?_⟩) hHeld ?_
          rotate_left
          · intro w hSw
            try dsimp only at hSw
            go_simp
            try with_reducible rfl
          try simp only [Act.put, List.setIfInBounds_toArray, List.set_cons_zero, List.set_cons_succ]
          refine wpW_take 13 (v := ?_) rfl (by kernel_rfl) (by kernel_rfl) (by kernel_rfl) (by kernel_rfl) (fun _ _ _ h => h) (Or.inl ⟨by rfl, ?_⟩) hHeld ?_
          rotate_left
          · intro w hSw
            try dsimp only at hSw
            go_simp
            try with_reducible rfl
          try simp only [Act.put, List.setIfInBounds_toArray, List.set_cons_zero, List.set_cons_succ]
          refine wpW_take 14 (v := ?_) rfl (by kernel_rfl) (by kernel_rfl) (by kernel_rfl) (by kernel_rfl) (fun _ _ _ h => h) (Or.inl ⟨by rfl, ?_⟩) hHeld ?_
          rotate_left
          · intro w hSw
            try dsimp only at hSw
            go_simp
            try with_reducible rfl
          try simp only [Act.put, List.setIfInBounds_toArray, List.set_cons_zero, List.set_cons_succ]
          refine wpW_one 15 rfl (by kernel_rfl) (fun K hK => ?_)
          go_simp
          have zb0 : Blk (w10.alloc (.cells #[.int .i64 0, .int .i64 0, .int .i64 0, .int .i64 0, .int .i64 0, .bool false] 40)) (w10.heap.size) 40 [.int .i64 0, .int .i64 0, .int .i64 0, .int .i64 0, .int .i64 0, .bool false] := Blk.new w10 _ _
          have hbA : Below Z.heap.size Z (w10.alloc (.cells #[.int .i64 0, .int .i64 0, .int .i64 0, .int .i64 0, .int .i64 0, .bool false] 40)) := hbX10.alloc (hbX10.size) _
          have hneA0 : ¬ w10.heap.size = BX := by have h1 := hbX10.size; have h2 := HMZ.out.lt; omega
          have hneA1 : ¬ w10.heap.size = BZ := by have h1 := hbX10.size; have h2 := HTZ.out.lt; omega
          have hneA2 : ¬ w10.heap.size = aq := by have h1 := hbX10.size; have h2 := HAC.out.2; omega
          refine hK.out _ _ (by (try dsimp only); go_keep) (fun hHeld => ?_)
          clear hK K
          try simp only [Act.put, List.setIfInBounds_toArray, List.set_cons_zero, List.set_cons_succ]
          refine wpW_one 16 rfl (by kernel_rfl) (fun K hK => ?_)
          go_simp
          refine hK.out _ _ (by (try dsimp only); go_keep) (fun hHeld => ?_)
          clear hK K
          try simp only [Act.put, List.setIfInBounds_toArray, List.set_cons_zero, List.set_cons_succ]
          refine wpW_take 17 (v := ?_) rfl (by kernel_rfl) (by kernel_rfl) (by kernel_rfl) (by kernel_rfl) (fun _ _ _ h => h) (Or.inl ⟨by rfl, ?_⟩) hHeld ?_
          rotate_left
          · intro w hSw
            try dsimp only at hSw
            go_simp
            try with_reducible rfl
          try simp only [Act.put, List.setIfInBounds_toArray, List.set_cons_zero, List.set_cons_succ]
          refine wpW_take 18 (v := ?_) rfl (by kernel_rfl) (by kernel_rfl) (by kernel_rfl) (by kernel_rfl) (fun _ _ _ h => h) (Or.inl ⟨by rfl, ?_⟩) hHeld ?_
          rotate_left
          · intro w hSw
            try dsimp only at hSw
            go_simp
            try with_reducible rfl
          try simp only [Act.put, List.setIfInBounds_toArray, List.set_cons_zero, List.set_cons_succ]
          refine wpW_done (by kernel_rfl) ?_ _
          go_wp2
          go_meet
          exact ⟨_, rfl, rfl, rfl, Lib.hid (insVar_new hbX10)⟩
        refine AllW.cons (i := 15) rfl (fun K hK => ?_) AllW.nil
        go_simp
        have zb0 : Blk (Z.alloc (.cells #[.int .i64 0, .int .i64 0, .int .i64 0, .int .i64 0, .int .i64 0, .bool false] 40)).drew (Z.heap.size) 40 [.int .i64 0, .int .i64 0, .int .i64 0, .int .i64 0, .int .i64 0, .bool false] := Blk.drew (Blk.new Z _ _)
        have hbA : Below Z.heap.size Z (Z.alloc (.cells #[.int .i64 0, .int .i64 0, .int .i64 0, .int .i64 0, .int .i64 0, .bool false] 40)).drew := ((Below.refl _ _).alloc (Nat.le_refl _) _).drew
        have hneA0 : ¬ Z.heap.size = BX := by have h1 := hbD.size; have h2 := HMZ.out.lt; omega
        have hneA1 : ¬ Z.heap.size = BZ := by have h1 := hbD.size; have h2 := HTZ.out.lt; omega
        have hneA2 : ¬ Z.heap.size = aq := by have h1 := hbD.size; have h2 := HAC.out.2; omega
        refine hK.out _ _ (by (try dsimp only); go_keep) (fun hHeld => ?_)
        clear hK K
        try simp only [Act.put, List.setIfInBounds_toArray, List.set_cons_zero, List.set_cons_succ]
        refine wpW_one 10 rfl (by kernel_rfl) (fun K hK => ?_)
        go_simp
        refine (HDC.out (Z.alloc (.cells #[.int .i64 0, .int .i64 0, .int .i64 0, .int .i64 0, .int .i64 0, .bool false] 40)).drew hbA).mono ?_
        rintro e w10 ⟨rfl, hb10⟩
        have hbX10 : Below Z.heap.size Z w10 := hbA.trans (hb10.mono hbA.size)
        have y10_0 : w10.cell? ⟨BX, 0, none⟩ = some (.slice tA T tc) := (hbX10.cell HMZ.out.lt).trans m0
        have y10_1 : w10.cell? ⟨BZ, 3, none⟩ = some (.slice (some ⟨aq, ao, none⟩) NA ac) := (hbX10.cell HTZ.out.lt).trans t3
        have y10_2 : w10.cell? ⟨aq, ao + NK, none⟩ = some (.int .i64 P) := (hbX10.cell HAC.out.2).trans hac
        have zb11 := zb0.keep hb10
        have zc10_0 := zb11.cell 0 rfl
        have zf10_0 := zb11.free 0
        have zc10_1 := zb11.cell 1 rfl
        have zf10_1 := zb11.free 1
        have zc10_2 := zb11.cell 2 rfl
        have zf10_2 := zb11.free 2
        have zc10_3 := zb11.cell 3 rfl
        have zf10_3 := zb11.free 3
        have zc10_4 := zb11.cell 4 rfl
        have zf10_4 := zb11.free 4
        have zc10_5 := zb11.cell 5 rfl
        have zf10_5 := zb11.free 5
        have zl10 := zb11.lt
        refine hK.out _ _ (by (try dsimp only); go_keep) (fun hHeld => ?_)
        clear hK K
        try simp only [Act.put, List.setIfInBounds_toArray, List.set_cons_zero, List.set_cons_succ]
        refine wpW_take 11 (v := ?_) rfl (by kernel_rfl) (by kernel_rfl) (by kernel_rfl) (by kernel_rfl) (fun _ _ _ h => h) (Or.inl ⟨by rfl, ?_⟩) hHeld ?_
        rotate_left
        · intro w hSw
          try dsimp only at hSw
          go_simp
          try with_reducible rfl
        try simp only [Act.put, List.setIfInBounds_toArray, List.set_cons_zero, List.set_cons_succ]
        refine wpW_take 12 (v := ?_) rfl (by kernel_rfl) (by kernel_rfl) (by kernel_rfl) (by kernel_rfl) (fun _ _ _ h => h) (Or.inl ⟨by rfl, ?_⟩) hHeld ?_
        rotate_left
        · intro w hSw
          try dsimp only at hSw
          go_simp
          try with_reducible rfl
        try simp only [Act.put, List.setIfInBounds_toArray, List.set_cons_zero, List.set_cons_succ]
        refine wpW_take 13 (v := ?_) rfl (by kernel_rfl) (by kernel_rfl) (by kernel_rfl) (by kernel_rfl) (fun _ _ _ h => h) (Or.inl ⟨by rfl, ?_⟩) hHeld ?_
        rotate_left
        · intro w hSw
          try dsimp only at hSw
          go_simp
          try with_reducible rfl
        try simp only [Act.put, List.setIfInBounds_toArray, List.set_cons_zero, List.set_cons_succ]
        refine wpW_take 14 (v := ?_) rfl (by kernel_rfl) (by kernel_rfl) (by kernel_rfl) (by kernel_rfl) (fun _ _ _ h => h) (Or.inl ⟨by rfl, ?_⟩) hHeld ?_
        rotate_left
        · intro w hSw
          try dsimp only at hSw
          go_simp
          try with_reducible rfl
        try simp only [Act.put, List.setIfInBounds_toArray, List.set_cons_zero, List.set_cons_succ]
        refine wpW_one 16 rfl (by kernel_rfl) (fun K hK => ?_)
        go_simp
        refine hK.out _ _ (by (try dsimp only); go_keep) (fun hHeld => ?_)
        clear hK K
        try simp only [Act.put, List.setIfInBounds_toArray, List.set_cons_zero, List.set_cons_succ]
        refine wpW_take 17 (v := ?_) rfl (by kernel_rfl) (by kernel_rfl) (by kernel_rfl) (by kernel_rfl) (fun _ _ _ h => h) (Or.inl ⟨by rfl, ?_⟩) hHeld ?_
        rotate_left
        · intro w hSw
          try dsimp only at hSw
          go_simp
          try with_reducible rfl
        try simp only [Act.put, List.setIfInBounds_toArray, List.set_cons_zero, List.set_cons_succ]
        refine wpW_take 18 (v := ?_) rfl (by kernel_rfl) (by kernel_rfl) (by kernel_rfl) (by kernel_rfl) (fun _ _ _ h => h) (Or.inl ⟨by rfl, ?_⟩) hHeld ?_
        rotate_left
        · intro w hSw
          try dsimp only at hSw
          go_simp
          try with_reducible rfl
        try simp only [Act.put, List.setIfInBounds_toArray, List.set_cons_zero, List.set_cons_succ]
        refine wpW_done (by kernel_rfl) ?_ _
        go_wp2
        go_meet
        exact ⟨_, rfl, rfl, rfl, Lib.hid (insVar_old zb11 hbX10 (Nat.le_refl _))⟩
      case rest =>
        obtain ⟨z, rfl, rfl, rfl, HIV⟩ := hcut
        rename World => wx
        have hbx := HIV.out.2.1
        have hiv := HIV.out.1
        have htx := HTZ.out.keep hbx
        have hfx := HFZ.out.keep hbx
        have hac := (hbx.cell (p := ⟨aq, ao + NK, none⟩) HAC.out.2).trans HAC.out.1
        have j0 := hiv.cell 0 rfl
        have j4 := hiv.cell 4 rfl
        have jl := hiv.lt
        have t2 := htx.cell 2 rfl
        have t3 := htx.cell 3 rfl
        have t4 := htx.cell 4 rfl
        have t10 := htx.cell 10 rfl
        have t11 := htx.cell 11 rfl
        have t12 := htx.cell 12 rfl
        have tl := htx.lt
        have g0 := hfx.cell 0 rfl
        have gl := hfx.lt
        have HBXX := Lib.hid (HBZ.out.trans (hbx.mono HBZ.out.size))
        clear hbx hiv htx hfx
        have hat : ∀ (k : Nat) (u : FSp) (r : List FSp), gs[k]? = some (u :: r) → (k : Int) < (NB : Int) ∧ wx.cell? ⟨g, o + k * 14 + 1, none⟩ = some (.int .i64 u.2.p) := fun k u r hk => by
          have hkl := (List.getElem?_eq_some_iff.1 hk).1
          have hfew := HF.out.few
          have hb : d.blocks[k]? = some (joinB bm (blkOf m (u :: r))) := by rw [HF.out.blocks, List.getElem?_map, hk]; rfl
          obtain ⟨v2, g2, o2, hx2, hg2, -, hc2⟩ := (HSTY.out.flow.below HBXX.out).at hb
          injection hx2 with hx2
          injection hx2 with e1 e2
          subst e1 e2
          have := hc2 1 _ rfl
          rw [← (blk_f m bm u r).2.1]
          exact ⟨by have := HNB.out; omega, this⟩
        obtain ⟨NC, hNC⟩ : ∃ z, bco.length = z := ⟨_, rfl⟩
        rw [hNC] at t2
        have HX := HP.out.2.2.2.2.2
        have hpb := HPB.out
        obtain ⟨hp1, hp2, hp3, hp4, hp5, hp6, hp7⟩ := hpb
        have hNAi := HNA.out
        cases HX with
        | stop h1 h2 h4 h5 =>
          simp only at h1 h2 h4
          rw [hNAi, hNC] at h4
          subst h1 h4
          have qc : ((NC : Int) != (NC : Int)) = false := by simp
          have HI : Hid (ik ≤ 3 ∨ ik = 24) := Lib.hid h2
          clear h2 h5 hNAi hNC hp1 hp2 hp3 hp4 hp5 hp6 hp7 hat
          rcases HI.out with h3 | h3
          · have q3 : decide (3 < ik) = false := decide_eq_false (by omega)
            clear h3
            go_wp2_with fail
            go_roundg (NB - (i + 1))
            case measure => omega
            case rel => exact ⟨i + 1, by omega, (by go_num), HBXX, Nat.le_refl _⟩
          · have q3 : decide (3 < ik) = true := decide_eq_true (by omega)
            have q4 : (ik != 24) = false := by simp [h3]
            clear h3
            go_wp2_with fail
            go_roundg (NB - (i + 1))
            case measure => omega
            case rel => exact ⟨i + 1, by omega, (by go_num), HBXX, Nat.le_refl _⟩
        | fall z' r' h1 h2 h4 h5 h6 h7 h8 =>
          simp only at h1 h2 h4 h5 h7
          obtain ⟨k1, c1⟩ := hat _ _ _ h6
          obtain ⟨k, hk⟩ : ∃ k, i + 1 = k := ⟨_, rfl⟩
          rw [hk] at h5 k1 c1
          rw [h7, hp5] at c1
          have qi : IntKind.i64.wrap ((i : Int) + 1) = (k : Int) := by rw [IntWalk.i64_in _ (by omega)]; omega
          have hk0 : (0 : Int) ≤ (k : Int) := by omega
          have qd : ((k : Int) != (k : Int)) = false := by simp
          have qn : (nx != nx) = false := by simp
          subst h1 h5
          have HI : Hid (ik < 18 ∨ ik = 23) := Lib.hid h2
          clear h2 h4 h6 h7 h8 hNAi hNC hp1 hp2 hp3 hp4 hp5 hp6 hp7 hat
          have HK := Lib.hid hk
          clear hk
          rcases HI.out with h3 | h3
          · have q3 : decide (18 ≤ ik) = false := decide_eq_false (by omega)
            clear h3
            go_wp2_with fail
            go_roundg (NB - (i + 1))
            case measure => omega
            case rel => exact ⟨i + 1, by omega, (by rw [← HK.out]), HBXX, Nat.le_refl _⟩
          · have q3 : decide (18 ≤ ik) = true := decide_eq_true (by omega)
            have q4 : (ik != 23) = false := by simp [h3]
            clear h3
            go_wp2_with fail
            go_roundg (NB - (i + 1))
            case measure => omega
            case rel => exact ⟨i + 1, by omega, (by rw [← HK.out]), HBXX, Nat.le_refl _⟩
        | jump j z2 r h1 h2 h4 h5 h6 h7 h8 =>
          simp only at h1 h2 h4 h5 h7
          obtain ⟨k1, c1⟩ := hat _ _ _ h6
          obtain ⟨tp, htp⟩ : ∃ z, P + inn = z := ⟨_, rfl⟩
          rw [h7, htp] at c1
          rw [hNC, hNAi] at h4
          have hk0 : (0 : Int) ≤ (j : Int) := by omega
          have qs : IntKind.i64.wrap (nx - yz) = P := by rw [IntWalk.i64_in _ (by omega)]; omega
          have qt : IntKind.i64.wrap (P + inn) = tp := by rw [IntWalk.i64_in _ (by omega)]; exact htp
          have qn : (tp != tp) = false := by simp
          have q3 : (ik != 22) = false := by simp [h2]
          have hCK : NC = NK := by omega
          subst hCK
          have qc : ((NC : Int) != (NC : Int)) = false := by simp
          subst h1 h5
          clear h2 h4 h6 h7 h8 htp hNAi hNC hp1 hp2 hp3 hp4 hp5 hp6 hp7 hat
          go_upto_region 21 with fail
          go_quiet (fail)
          go_wp2_with fail
          go_roundg (NB - (i + 1))
          case measure => omega
          case rel => exact ⟨i + 1, by omega, (by go_num), Lib.hid (below_drewN HBXX.out _), Nat.le_refl _⟩
        | branch j z2 r z3 r3 h1 h2 h3 h4 h5 h6 h7 h8 h9 h10 h11 h12 =>
          simp only at h1 h2 h3 h4 h5 h7 h9 h11
          obtain ⟨k1, c1⟩ := hat _ _ _ h6
          obtain ⟨k3, c3⟩ := hat _ _ _ h10
          obtain ⟨k, hk⟩ : ∃ k, i + 1 = k := ⟨_, rfl⟩
          rw [hk] at h9 k3 c3
          rw [h11, hp5] at c3
          obtain ⟨tp, htp⟩ : ∃ z, P + inn = z := ⟨_, rfl⟩
          rw [h7, htp] at c1
          have hk0 : (0 : Int) ≤ (j : Int) := by omega
          have hk2 : (0 : Int) ≤ (k : Int) := by omega
          have qs : IntKind.i64.wrap (nx - yz) = P := by rw [IntWalk.i64_in _ (by omega)]; omega
          have qt : IntKind.i64.wrap (P + inn) = tp := by rw [IntWalk.i64_in _ (by omega)]; exact htp
          have qn : (tp != tp) = false := by simp
          have qm : (nx != nx) = false := by simp
          have qk2 : (ik != ik) = false := by simp
          subst h1 h3 h5 h9
          have HK := Lib.hid hk
          clear h2 h4 h6 h7 h8 h10 h11 h12 hk htp hNAi hNC hp1 hp2 hp3 hp4 hp5 hp6 hp7 hat
          go_upto_region 12 with fail
          go_quiet (fail)
          go_wp2_with fail
          go_roundg (NB - (i + 1))
          case measure => omega
          case rel => exact ⟨i + 1, by omega, (by go_num), Lib.hid (below_drewN HBXX.out _), Nat.le_refl _⟩
    · obtain rfl : i = NB := by omega
      have hltI : ¬ (i : Int) < (i : Int) := by omega
      have HBE := Lib.hid (HWY.out.trans (HB.out.mono HWY.out.size))
      go_wp2_with fail
      go_ret
      exact ⟨by simp, HBE.out⟩
set_option maxRecDepth 100000 in
theorem blocksEnd_contract (H : Type) (enc : TypeId × Value → H) (W : World) (base : Nat) (args : Array Value) (ds gs : List (DataW H)) (before : List MemPlace)
    (hval : ∀ (j : Nat) t v, Tryd.f4.params[j]? = some t → args[j]? = some v → Value.okWide Tryd.prog W .any base t v)
    (hW : DataW.Whole enc Tryd.prog Tryd.f4.params.toList Rows.blocksEndSpec.vars false W args.toList ds gs before) (hL : laidMetH Tryd.prog Rows.blocksEndRow.laid W)
    (hz : (DataW.weightsEach Tryd.prog (Tryd.f4.params.toList ++ (OpenSpec.ofChange Rows.blocksEndSpec).bare.plain.varTypes Tryd.prog) (ds ++ gs)).all (· ≤ reachBytes) = true) :
    Calls Tryd.prog 4 args W fun e W' => ∃ v, e = .returned v ∧ Rows.blocksEndSpec.post enc Tryd.prog Tryd.f4 false true false false W args v W' := by
  have hT : Tabs W := tabs_of_laid5 hL
  have hW0 := hW
  obtain ⟨p, q, hA0, hV, rfl, hfz, hnd⟩ := hW
  have hA : DataW.TrodAll enc Tryd.prog W 0 (fun _ => true) true Tryd.f4.params.toList args.toList ds p := hA0
  rw [Tryd.params4] at hA hval
  obtain ⟨v0, vs0, d0, ds0, p0, q0, hargs, rfl, rfl, h0, r0⟩ := trodAll_cons hA
  obtain ⟨rfl, rfl, rfl⟩ := trodAll_nil r0
  obtain rfl : args = #[v0] := by cases args; simp_all
  obtain ⟨rfl, rfl⟩ := trodVars_none hV
  clear hA0
  obtain ⟨A, cap, L, rfl, hcap, hcm, hR, hd⟩ := open_raws (hval 0 22 v0 rfl rfl) h0
  have hL : L.length ≤ 140737488355328 := by
    rcases hd with ⟨-, rfl, -⟩ | ⟨elems, spare, rfl, hl⟩
    · exact Nat.zero_le _
    · have h1 := sized_slice hz (j := 0) (t := 22) (by rw [Tryd.params4]; rfl) rfl Tryd.underlying22
      have h2 : Tryd.prog.bytesOf 57 = 32 := by kernel_rfl
      have h3 := reachBytes_lt
      rw [h2, hl] at h1
      omega
  refine (blocksEnd_walk L A cap W hT hR hL hcap).mono fun e W' ⟨he, hb⟩ => ?_
  subst he
  exact ⟨_, rfl, law_post hW0 rfl rfl (by kernel_rfl) (by kernel_rfl) hb⟩
set_option maxRecDepth 100000 in
theorem blocksEnd_met (os : Os) : laidMet Tryd.prog Rows.blocksEndRow.laid ((laidWorld5 os).forCall (fun _ _ => 0) ⟨#[], #[.slice none 0 0], []⟩).memory :=
  laidMet_of_run' 8 (by kernel_rfl) (by kernel_rfl)
set_option maxRecDepth 100000 in
theorem blocksEnd_reads (os : Os) {H : Type} (enc : TypeId × Value → H) : ∃ places, DataW.whole enc Tryd.prog ((laidWorld5 os).forCall (fun _ _ => 0) ⟨#[], #[.slice none 0 0], []⟩).memory Tryd.f4.params.toList Rows.blocksEndSpec.vars false (#[.slice none 0 0] : Array Value).toList 8 = some ([.nil], [], places) :=
  ⟨[], by kernel_rfl⟩
set_option maxRecDepth 100000 in
theorem blocksEnd_lifted (os : Os) (started : os.Started) (H : Type) (enc : TypeId × Value → H) (F : Stop.Interp) :
    ReturnsInHanded {} Tryd.checked os 4 .any ((OpenSpec.ofChange Rows.blocksEndSpec).preRow enc Tryd.prog Tryd.f4 Rows.blocksEndRow.domain false Rows.blocksEndRow.laid) (((OpenSpec.ofChange Rows.blocksEndSpec).at F).post enc Tryd.prog Tryd.f4 false true false false) := by
  obtain ⟨places, hx⟩ := blocksEnd_reads os enc
  refine returnsInHanded_of_row (C := Tryd.checked) (s := OpenSpec.ofChange Rows.blocksEndSpec) ownP started (by kernel_rfl) Tryd.func4
    (witness_row_at (enc := enc) (C := Tryd.checked) false (laidWorld5 os) #[.slice none 0 0] rfl (by kernel_rfl) (by kernel_rfl) (by kernel_rfl)
      (OpenSpec.preRow_of_cond 8 hx (by kernel_rfl) (fun k hk => by cases hk) (by kernel_rfl) (blocksEnd_met os))) ?_
  intro W base args ds gs before hval hW _ _ hreach hL _ _
  exact blocksEnd_contract H enc W base args ds gs before hval hW hL hreach
set_option maxRecDepth 100000 in
theorem blocksEnd_said : Rows.BlocksEndSaid :=
  OpenClaim.holds_of_cond 4 Tryd.f4 rfl rfl rfl rfl rfl rfl rfl ⟨rfl, rfl, rfl, rfl, rfl⟩ rfl rfl rfl rfl rfl (by kernel_rfl) Tryd.func4 (by kernel_rfl)
    (of_decide_eq_true (by kernel_rfl)) (by unfold Func.isWrapper; first | (rw [if_pos (by decide +kernel)]; kernel_rfl) | (rw [if_neg (by decide +kernel)]; exact ⟨rfl, rfl⟩))
    (fun os started H enc _ F => by rw [OpenClaim.pre_eq_preRow]; exact blocksEnd_lifted os started H enc F)
set_option maxRecDepth 100000 in
theorem blocksEnd_plain (f : FuncId) (fn : Func) (hf : Tryd.pinned.checked.prog.funcNamed "bolthole/boltholekeep.BlocksEnd" = some f) (hfn : Tryd.pinned.checked.prog.funcs[f]? = some fn) :
    ∀ (j : Nat) t, fn.params[j]? = some t → Tryd.pinned.checked.prog.wantsStandIn t = false := by
  obtain rfl : f = 4 := Option.some.inj ((show Tryd.prog.funcNamed "bolthole/boltholekeep.BlocksEnd" = some 4 by kernel_rfl).symm.trans hf) |>.symm
  obtain rfl : fn = Tryd.f4 := (Option.some.inj (Tryd.func4.symm.trans hfn)).symm
  intro j t ht
  have hall : ∀ t ∈ Tryd.f4.params, Tryd.prog.wantsStandIn t = false := by
    rw [Tryd.params4]
    intro t ht
    simp only [List.mem_toArray, List.mem_cons, List.not_mem_nil, or_false] at ht
    rcases ht with rfl
    all_goals kernel_rfl
  exact hall t (Array.mem_of_getElem? ht)
set_option maxRecDepth 100000 in
theorem blocksEnd_card : Rows.BlocksEndCardSaid :=
  Claim7.holds_tied_plain_at .later [] _ _ _ _ blocksEnd_said (fun _ h => by cases h) (by kernel_rfl) (fun _ h => by cases h) blocksEnd_row_tie rfl ⟨rfl, rfl⟩ (by kernel_rfl) rfl (fun f fn hf hfn => ⟨by kernel_rfl, blocksEnd_plain f fn hf hfn⟩) (by kernel_rfl)
end Go.Proofs.YtbdlmafhcgndeaaDoor
