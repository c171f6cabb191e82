/- The given statement on CallsNamed, proved: a call in a block names its function. No condition of its own. -/
import Derived.Test.YtbdlmafhcgndeaaDoorLawS
import Derived.Test.YtbdlmafhcgndeaaDoorFlwR
import Derived.Deep.DeepCutAuto
import Derived.Deep.CutBlock
import Derived.Deep.LoopGhost
import Derived.Deep.QuietTactic
import Derived.BigQuiet
import Derived.IntWalk
import Derived.WalkLawsBesides
namespace Go.Proofs.YtbdlmafhcgndeaaDoor
open Go.ChangeShapes Go.WideShapes Go.ChangeAt Go.RowKit Go.Joins
open Go.ChangeMaps (open_string)
set_option maxHeartbeats 8000000 in
set_option maxRecDepth 100000 in
theorem callsNamed_walk (l : List RawI) (A : Option Addr) (c : Nat) (w : World) (hT : Tabs w) (hR : RdR w w.heap.size A l) (hl : l.length ≤ 140737488355328) (hc : l.length ≤ c) :
    Calls Tryd.prog 5 #[.slice A l.length c] w fun e w' => e = .returned (.bool true) ∧ Below w.heap.size w w' := by
  have HFT := Lib.hid (flowTells_any w hT)
  have HFW : Hid (∀ W, Below w.heap.size w W → Calls Tryd.prog 18 #[.slice A l.length c] W (FlwPost W l)) := Lib.hid fun W hW => flowed_any l A c W (hT.below hW) ((hR.below hW).more hW.size) hc hl
  have HT := Lib.hid hT
  obtain ⟨ll, hll⟩ : ∃ z, l.length = z := ⟨_, rfl⟩
  rw [hll] at HFW ⊢
  clear hT hR hl hc hll
  go_enter Tryd.func5, Tryd.ntmps5
  go_wp2_with fail
  refine HFT.out.mono ?_
  rintro e w0 ⟨rfl, hb0⟩
  have HB0 := Lib.hid hb0
  clear hb0 HFT
  go_wp2_with fail
  refine (HFW.out _ HB0.out).mono ?_
  rintro e w1 ⟨hb1, m, v, d, xA, yA, zA, xc, yc, zc, rfl, hst⟩
  obtain ⟨ld, bm, S, gs, hF, hFn⟩ := gen_flow hst.pgm.check hst.rc
  have HB1 := Lib.hid (HB0.out.trans (hb1.mono HB0.out.size))
  have HST := Lib.hid hst
  have HF := Lib.hid hF
  have HFN := Lib.hid hFn
  obtain ⟨tA, tc, fA, fc, bA, bc, dA, dc, lA, lc⟩ := v
  clear hb1 hst hF hFn HFW HB0
  unfold Img.val flowV
  simp only
  obtain ⟨T, hTe⟩ : ∃ z, m.text.length = z := ⟨_, rfl⟩
  obtain ⟨NF, hNF⟩ : ∃ z, m.funcs.length = z := ⟨_, rfl⟩
  obtain ⟨nb, hnb⟩ : ∃ z, m.tables.length = z := ⟨_, rfl⟩
  obtain ⟨nd, hnd⟩ : ∃ z, m.data.length = z := ⟨_, rfl⟩
  obtain ⟨nl, hnl⟩ : ∃ z, m.lines.length = z := ⟨_, rfl⟩
  obtain ⟨NB, hNB⟩ : ∃ z, d.blocks.length = z := ⟨_, rfl⟩
  obtain ⟨nt, hnt⟩ : ∃ z, d.tables.length = z := ⟨_, rfl⟩
  obtain ⟨nz, hnz⟩ : ∃ z, d.firsts.length = z := ⟨_, rfl⟩
  rw [hTe, hNF, hnb, hnd, hnl, hNB, hnt, hnz]
  have HTE := Lib.hid hTe
  have HNF := Lib.hid hNF
  have HN5 := Lib.hid (And.intro hnb (And.intro hnd hnl))
  have HNB := Lib.hid hNB
  have HNT := Lib.hid hnt
  have HNZ := Lib.hid hnz
  clear hTe hNF hnb hnd hnl hNB hnt hnz
  go_upto_region 4 with fail
  obtain ⟨X, hX⟩ : ∃ X, w1.alloc (.cells #[.slice tA T tc, .slice fA NF fc, .slice bA nb bc, .slice dA nd dc, .slice lA nl lc, .int .i64 m.entry] 30) = X := ⟨_, rfl⟩
  rw [hX]
  have hm1 : Blk X w1.heap.size 30 [.slice tA T tc, .slice fA NF fc, .slice bA nb bc, .slice dA nd dc, .slice lA nl lc, .int .i64 m.entry] := by rw [← hX]; exact Blk.new w1 _ _
  have hbX : Below w1.heap.size w1 X := by rw [← hX]; exact (Below.refl _ _).alloc (Nat.le_refl _) _
  have hxs : X.heap.size = w1.heap.size + 1 := by rw [← hX]; simp
  obtain ⟨Y, hY⟩ : ∃ Y, X.alloc (.cells #[.slice xA NB xc, .slice yA nt yc, .slice zA nz zc] 34) = Y := ⟨_, rfl⟩
  rw [hY]
  have hfY : Blk Y (w1.heap.size + 1) 34 [.slice xA NB xc, .slice yA nt yc, .slice zA nz zc] := by rw [← hY, ← hxs]; exact Blk.new X _ _
  have hbY : Below X.heap.size X Y := by rw [← hY]; exact (Below.refl _ _).alloc (Nat.le_refl _) _
  have hmY := hm1.keep hbY
  have hbWY := hbX.trans (hbY.mono hbX.size)
  obtain ⟨BX, hBX⟩ : ∃ z, w1.heap.size = z := ⟨_, rfl⟩
  rw [hBX] at hfY hmY ⊢
  have HFY := Lib.hid hfY
  have HMY := Lib.hid hmY
  have HSTY := Lib.hid (HST.out.below hbWY)
  have HWY := Lib.hid (HB1.out.trans (hbWY.mono HB1.out.size))
  have HTXT := Lib.hid HST.out.pgm.text
  have hfew := HF.out.few
  have hNBb : NB ≤ 1600 := (by have h2 := HST.out.pgm.text; have h3 := HNB.out; omega)
  have f0 := hfY.cell 0 rfl
  have fl := hfY.lt
  clear hX hY hm1 hbX hbY hfY hmY hbWY hxs hfew HST hBX
  go_wp2_with fail
  go_loopg [24] NB (fun gk s wr => ∃ i : Nat, i ≤ NB ∧ s = .int .i64 i ∧ Hid (Below Y.heap.size Y wr) ∧ NB - i ≤ gk)
  case atStart => exact ⟨0, Nat.zero_le _, rfl, Below.refl _ _, Nat.le_refl _⟩
  case round =>
    obtain ⟨i, hi, rfl, HB, hgk⟩ := hrel
    by_cases hlt : i < NB
    · have hltI : (i : Int) < (NB : Int) := by omega
      have hbi : d.blocks[i]? = some (d.blocks[i]'(by have := HNB.out; omega)) := List.getElem?_eq_getElem _
      obtain ⟨b, hbe⟩ : ∃ z, d.blocks[i]'(by have := HNB.out; omega) = z := ⟨_, rfl⟩
      rw [hbe] at hbi
      have HBI := Lib.hid hbi
      have HLN := Lib.hid (HF.out.lines hbi)
      obtain ⟨ea, y, eg, he1, he2, he3, he4, he5, hen⟩ := HF.out.ends hbi
      have HEN := Lib.hid (And.intro he1 (And.intro he2 (And.intro he3 (And.intro he4 (And.intro he5 hen)))))
      clear he1 he2 he3 he4 he5 hen
      obtain ⟨v, g, o, hxA, hgl, hbr, hcs⟩ := (HSTY.out.flow.below HB.out).at hbi
      obtain ⟨bf, bst, bco, bat, ⟨lk, lld, la, lb, ln, llb⟩, ben, bds, bel, bli⟩ := b
      obtain ⟨cA, cc, aA, ac, liA, lic⟩ := v
      have HBR := Lib.hid hbr
      have c0 := hcs 0 _ rfl
      have c1 := hcs 1 _ rfl
      have c2 := hcs 2 _ rfl
      have c3 := hcs 3 _ rfl
      have c4 := hcs 4 _ rfl
      have c5 := hcs 5 _ rfl
      have c6 := hcs 6 _ rfl
      have c7 := hcs 7 _ rfl
      have c8 := hcs 8 _ rfl
      have c9 := hcs 9 _ rfl
      have c10 := hcs 10 _ rfl
      have c11 := hcs 11 _ rfl
      have c12 := hcs 12 _ rfl
      have c13 := hcs 13 _ rfl
      simp only [Nat.add_zero] at c0 c1 c2 c3 c4 c5 c6 c7 c8 c9 c10 c11 c12 c13
      have hxcap : NB ≤ xc := by
        obtain ⟨l0, e1, e2, -⟩ := HSTY.out.flow
        rw [← HNB.out]
        exact e2.2.1
      obtain ⟨NA, hNA⟩ : ∃ z, bat.length = z := ⟨_, rfl⟩
      rw [hNA] at c3
      have HNA := Lib.hid hNA
      subst hxA
      clear hbe hbi hbr hcs hNA
      have hbln := HF.out.blen HBI.out
      simp only at hbln
      rw [HNA.out] at hbln
      obtain ⟨NC, hNC⟩ : ∃ z, bco.length = z := ⟨_, rfl⟩
      rw [hNC] at hbln c2
      have hTx := HTXT.out
      have hNCb : NC ≤ 1600 := by omega
      have HNC := Lib.hid hNC
      have HBL := Lib.hid hbln
      clear hNC hbln hTx
      go_upto_region 7 with fail
      obtain ⟨Z, hZ⟩ : ∃ Z, wr.alloc (.cells #[.int .i64 bf, .int .i64 bst, .slice cA NC cc, .slice aA NA ac, .int .i64 lk, .int .i64 lld, .int .i64 la, .int .i64 lb, .int .i64 ln, .bool llb, .int .i64 ben, .int .i64 bds, .int .i64 bel, .slice liA bli.length lic] 42) = Z := ⟨_, rfl⟩
      rw [hZ]
      have htZ : Blk Z wr.heap.size 42 [.int .i64 bf, .int .i64 bst, .slice cA NC cc, .slice aA NA ac, .int .i64 lk, .int .i64 lld, .int .i64 la, .int .i64 lb, .int .i64 ln, .bool llb, .int .i64 ben, .int .i64 bds, .int .i64 bel, .slice liA bli.length lic] := by rw [← hZ]; exact Blk.new wr _ _
      have hbZ : Below wr.heap.size wr Z := by rw [← hZ]; exact (Below.refl _ _).alloc (Nat.le_refl _) _
      have hBYZ := HB.out.trans (hbZ.mono HB.out.size)
      obtain ⟨BZ, hBZ⟩ : ∃ z, wr.heap.size = z := ⟨_, rfl⟩
      rw [hBZ] at htZ ⊢
      have HBZ := Lib.hid hBYZ
      have HTZ := Lib.hid htZ
      have HBRZ : Hid (BRd Z (⟨bf, bst, bco, bat, ⟨lk, lld, la, lb, ln, llb⟩, ben, bds, bel, bli⟩, ⟨cA, cc, aA, ac, liA, lic⟩)) := Lib.hid ⟨(HBR.out.1.below hbZ).more hbZ.size, (HBR.out.2.1.below hbZ).more hbZ.size, (HBR.out.2.2.below hbZ).more hbZ.size⟩
      have HFZ := Lib.hid (HFY.out.keep hBYZ)
      have HMZ := Lib.hid (HMY.out.keep hBYZ)
      have t0 := htZ.cell 0 rfl
      have t2 := htZ.cell 2 rfl
      have t3 := htZ.cell 3 rfl
      have t4 := htZ.cell 4 rfl
      have t10 := htZ.cell 10 rfl
      have t11 := htZ.cell 11 rfl
      have t12 := htZ.cell 12 rfl
      have t13 := htZ.cell 13 rfl
      have tl := htZ.lt
      have g0 := HFZ.out.cell 0 rfl
      have gl := HFZ.out.lt
      have m0 := HMZ.out.cell 0 rfl
      have m1 := HMZ.out.cell 1 rfl
      have ml := HMZ.out.lt
      clear hZ htZ hbZ hBYZ hBZ c0 c1 c2 c3 c4 c5 c6 c7 c8 c9 c10 c11 c12 c13 f0 fl HBR
      go_wp2_with fail
      go_loopg [31] NC (fun gk s wr2 => ∃ j : Nat, j ≤ NC ∧ s = .int .i64 j ∧ Hid (Below Z.heap.size Z wr2) ∧ NC - j ≤ gk)
      case atStart => exact ⟨0, Nat.zero_le _, rfl, Below.refl _ _, Nat.le_refl _⟩
      case round =>
        obtain ⟨j, hj, rfl, HB2, hgk2⟩ := hrel
        rename World => wr2
        by_cases hlt2 : j < NC
        · have hltJ : (j : Int) < (NC : Int) := by omega
          have hcj : bco[j]? = some (bco[j]'(by have := HNC.out; omega)) := List.getElem?_eq_getElem _
          obtain ⟨ci, hce⟩ : ∃ z, bco[j]'(by have := HNC.out; omega) = z := ⟨_, rfl⟩
          rw [hce] at hcj
          have hnm := fun h23 => HF.out.named HBI.out hcj h23
          have hcap : NC ≤ cc := by have := HBRZ.out.1.2.1; have h2 := HNC.out; simp only at this; omega
          obtain ⟨cg, co, hcA, hcgl, hcc⟩ := ((HBRZ.out.1.1.below HB2.out).more HB2.out.size) (by intro e; have h1 := insR_at hcj 0 _ rfl; simp only at e; rw [e] at h1; simp at h1)
          simp only at hcA hcc
          subst hcA
          obtain ⟨ik, id, ia, ib, inn, il⟩ := ci
          have k0 := hcc _ _ (insR_at hcj 0 _ rfl)
          have k1 := hcc _ _ (insR_at hcj 1 _ rfl)
          have k2 := hcc _ _ (insR_at hcj 2 _ rfl)
          have k3 := hcc _ _ (insR_at hcj 3 _ rfl)
          have k4 := hcc _ _ (insR_at hcj 4 _ rfl)
          have k5 := hcc _ _ (insR_at hcj 5 _ rfl)
          simp only [Nat.add_zero, ← Nat.add_assoc] at k0 k1 k2 k3 k4 k5
          have HNM := Lib.hid hnm
          have HBW := Lib.hid (HBZ.out.trans (HB2.out.mono HBZ.out.size))
          have HTW := Lib.hid (HTZ.out.keep HB2.out)
          clear hce hcj hcc hcgl hnm t0 t2 t3 t4 t10 t11 t12 t13 tl g0 gl m0 m1 ml
          go_upto_region 10 with fail
          obtain ⟨V, hV⟩ : ∃ V, wr2.alloc (.cells #[.int .i64 ik, .int .i64 id, .int .i64 ia, .int .i64 ib, .int .i64 inn, .bool il] 40) = V := ⟨_, rfl⟩
          rw [hV]
          have hiV : Blk V wr2.heap.size 40 [.int .i64 ik, .int .i64 id, .int .i64 ia, .int .i64 ib, .int .i64 inn, .bool il] := by rw [← hV]; exact Blk.new wr2 _ _
          have hbV : Below wr2.heap.size wr2 V := by rw [← hV]; exact (Below.refl _ _).alloc (Nat.le_refl _) _
          obtain ⟨BV, hBV⟩ : ∃ z, wr2.heap.size = z := ⟨_, rfl⟩
          have HBWV := Lib.hid (HBW.out.trans (hbV.mono HBW.out.size))
          have HBZV := Lib.hid (HB2.out.trans (hbV.mono HB2.out.size))
          rw [hBV] at hiV ⊢
          have HIV := Lib.hid hiV
          have HTV := Lib.hid (HTW.out.keep hbV)
          have HMV := Lib.hid (HMY.out.keep HBWV.out)
          have i0 := hiV.cell 0 rfl
          have il2 := hiV.lt
          clear hV hiV hbV hBV k0 k1 k2 k3 k4 k5
          by_cases h23 : ik = 23
          · obtain ⟨p, y, yz, q, f, n1, n2, n3, n4, n5⟩ := HNM.out h23
            simp only at n1 n3
            have q23 : (ik != 23) = false := by simp [h23]
            have t3 := HTV.out.cell 3 rfl
            have tl := HTV.out.lt
            have m0 := HMV.out.cell 0 rfl
            have ml := HMV.out.lt
            obtain ⟨aq, ao, haA, hagl, hac⟩ := ((HBRZ.out.2.1.1.below HBZV.out).more HBZV.out.size).at (intsV_at .i64 n1)
            simp only at haA
            subst haA
            have hacap : NA ≤ ac := by have := HBRZ.out.2.1.2.1; have h2 := HNA.out; simp only at this; omega
            have hjA : (j : Int) < (NA : Int) := by have := HBL.out; omega
            have hpb := decB_ok (L := m.text) (p := p) (by rw [n2])
            rw [n2] at hpb
            simp only at hpb
            have hinn := (chk_n hpb.1).1
            have hyz := decB_sz (L := m.text) (p := p) (by rw [n2])
            rw [n2] at hyz
            simp only at hyz
            have hTx := HTXT.out
            have HDC : Hid (∀ W, Below V.heap.size V W → Calls Tryd.prog 19 #[.slice tA T tc, .int .i64 p] W fun e w' => e = .returned (.tuple #[.agg #[.int .i64 y.k, .int .i64 y.d, .int .i64 y.a, .int .i64 y.b, .int .i64 y.n, .bool y.l], .int .i64 yz, .int .i64 0]) ∧ Below W.heap.size W w') := Lib.hid fun W hW => by
              have hBW := HBWV.out.trans (hW.mono HBWV.out.size)
              have hst := HSTY.out.below hBW
              have hdc := decode_any m.text tA T tc p W (HT.out.below (HWY.out.trans (hBW.mono HWY.out.size))) HTE.out.symm (rdg_bytes hst.img.text HSTY.out.ok.tb) (by have := HTE.out; omega) (show T ≤ tc from by rw [← HTE.out]; exact HSTY.out.ok.tc)
              rw [n2] at hdc
              exact hdc
            have HAC := Lib.hid (And.intro hac hagl)
            have HQ := Lib.hid (And.intro n4 (And.intro n5 (And.intro hpb (And.intro hinn hyz))))
            subst n3
            clear n1 n2 n4 n5 hpb hinn hyz hTx hac hagl h23
            go_upto_region 11 with fail
            go_cut [10, 11, 12] (fun s10 s11 s12 wx => ∃ z, s10 = .pointer (some ⟨z, 0, none⟩) ∧ s11 = .int .i64 yz ∧ s12 = .int .i64 0 ∧ Hid (InsVar V wx z y))
            case first =>
              have hac := HAC.out.1
              refine wp_region_W (fun w' => w'.cell? ⟨BX, 0, none⟩ = some (.slice tA T tc) ∧ w'.cell? ⟨BZ, 3, none⟩ = some (.slice (some ⟨aq, ao, none⟩) NA ac) ∧ w'.cell? ⟨aq, ao + j, none⟩ = some (.int .i64 p)) 16 (by kernel_rfl) (by (try dsimp only); go_keep) (fun hHeld => ?_)
              have hbD : Below V.heap.size V V.drew := (Below.refl _ _).drew
              refine wpW_take 0 (v := ?_) rfl (by kernel_rfl) (by kernel_rfl) (by kernel_rfl) (by kernel_rfl) (fun _ _ _ h => h) (Or.inl ⟨by rfl, ?_⟩) hHeld ?_
              rotate_left
              · intro w hSw
                try dsimp only at hSw
                go_simp
                try with_reducible rfl
              try simp only [Act.put, List.setIfInBounds_toArray, List.set_cons_zero, List.set_cons_succ]
              refine wpW_take 1 (v := ?_) rfl (by kernel_rfl) (by kernel_rfl) (by kernel_rfl) (by kernel_rfl) (fun _ _ _ h => h) (Or.inl ⟨by rfl, ?_⟩) hHeld ?_
              rotate_left
              · intro w hSw
                try dsimp only at hSw
                go_simp
                try with_reducible rfl
              try simp only [Act.put, List.setIfInBounds_toArray, List.set_cons_zero, List.set_cons_succ]
              refine wpW_take 2 (v := ?_) rfl (by kernel_rfl) (by kernel_rfl) (by kernel_rfl) (by kernel_rfl) (fun _ _ _ h => h) (Or.inl ⟨by rfl, ?_⟩) hHeld ?_
              rotate_left
              · intro w hSw
                try dsimp only at hSw
                go_simp
                try with_reducible rfl
              try simp only [Act.put, List.setIfInBounds_toArray, List.set_cons_zero, List.set_cons_succ]
              refine wpW_take 3 (v := ?_) rfl (by kernel_rfl) (by kernel_rfl) (by kernel_rfl) (by kernel_rfl) (fun _ _ _ h => h) (Or.inl ⟨by rfl, ?_⟩) hHeld ?_
              rotate_left
              · intro w hSw
                try dsimp only at hSw
                go_simp
                try with_reducible rfl
              try simp only [Act.put, List.setIfInBounds_toArray, List.set_cons_zero, List.set_cons_succ]
              refine wpW_take 4 (v := ?_) rfl (by kernel_rfl) (by kernel_rfl) (by kernel_rfl) (by kernel_rfl) (fun _ _ _ h => h) (Or.inl ⟨by rfl, ?_⟩) hHeld ?_
              rotate_left
              · intro w hSw
                try dsimp only at hSw
                go_simp
                try with_reducible rfl
              try simp only [Act.put, List.setIfInBounds_toArray, List.set_cons_zero, List.set_cons_succ]
              refine wpW_take 5 (v := ?_) rfl (by kernel_rfl) (by kernel_rfl) (by kernel_rfl) (by kernel_rfl) (fun _ _ _ h => h) (Or.inl ⟨by rfl, ?_⟩) hHeld ?_
              rotate_left
              · intro w hSw
                try dsimp only at hSw
                go_simp
                try with_reducible rfl
              try simp only [Act.put, List.setIfInBounds_toArray, List.set_cons_zero, List.set_cons_succ]
              refine wpW_take 6 (v := ?_) rfl (by kernel_rfl) (by kernel_rfl) (by kernel_rfl) (by kernel_rfl) (fun _ _ _ h => h) (Or.inl ⟨by rfl, ?_⟩) hHeld ?_
              rotate_left
              · intro w hSw
                try dsimp only at hSw
                go_simp
                try with_reducible rfl
              try simp only [Act.put, List.setIfInBounds_toArray, List.set_cons_zero, List.set_cons_succ]
              refine wpW_all [7, 12] (by kernel_rfl) (by simp) ?_
              refine AllW.cons (i := 7) rfl (fun K hK => ?_) ?_
              · skip
                go_simp
                refine (HDC.out V.drew hbD).mono ?_
                rintro e w7 ⟨rfl, hb7⟩
                have hbX7 : Below V.heap.size V w7 := hbD.trans (hb7.mono hbD.size)
                have y7_0 : w7.cell? ⟨BX, 0, none⟩ = some (.slice tA T tc) := (hbX7.cell HMV.out.lt).trans m0
                have y7_1 : w7.cell? ⟨BZ, 3, none⟩ = some (.slice (some ⟨aq, ao, none⟩) NA ac) := (hbX7.cell HTV.out.lt).trans t3
                have y7_2 : w7.cell? ⟨aq, ao + j, none⟩ = some (.int .i64 p) := (hbX7.cell HAC.out.2).trans hac
                refine hK.out _ _ (by (try dsimp only); go_keep) (fun hHeld => ?_)
                clear hK K
                try simp only [Act.put, List.setIfInBounds_toArray, List.set_cons_zero, List.set_cons_succ]
                refine wpW_take 8 (v := ?_) rfl (by kernel_rfl) (by kernel_rfl) (by kernel_rfl) (by kernel_rfl) (fun _ _ _ h => h) (Or.inl ⟨by rfl, ?_⟩) hHeld ?_
                rotate_left
                · intro w hSw
                  try dsimp only at hSw
                  go_simp
                  try with_reducible rfl
                try simp only [Act.put, List.setIfInBounds_toArray, List.set_cons_zero, List.set_cons_succ]
                refine wpW_take 9 (v := ?_) rfl (by kernel_rfl) (by kernel_rfl) (by kernel_rfl) (by kernel_rfl) (fun _ _ _ h => h) (Or.inl ⟨by rfl, ?_⟩) hHeld ?_
                rotate_left
                · intro w hSw
                  try dsimp only at hSw
                  go_simp
                  try with_reducible rfl
                try simp only [Act.put, List.setIfInBounds_toArray, List.set_cons_zero, List.set_cons_succ]
                refine wpW_take 10 (v := ?_) rfl (by kernel_rfl) (by kernel_rfl) (by kernel_rfl) (by kernel_rfl) (fun _ _ _ h => h) (Or.inl ⟨by rfl, ?_⟩) hHeld ?_
                rotate_left
                · intro w hSw
                  try dsimp only at hSw
                  go_simp
                  try with_reducible rfl
                try simp only [Act.put, List.setIfInBounds_toArray, List.set_cons_zero, List.set_cons_succ]
                refine wpW_take 11 (v := ?_) rfl (by kernel_rfl) (by kernel_rfl) (by kernel_rfl) (by kernel_rfl) (fun _ _ _ h => h) (Or.inl ⟨by rfl, ?_⟩) hHeld ?_
                rotate_left
                · intro w hSw
                  try dsimp only at hSw
                  go_simp
                  try with_reducible rfl
                try simp only [Act.put, List.setIfInBounds_toArray, List.set_cons_zero, List.set_cons_succ]
                refine wpW_one 12 rfl (by kernel_rfl) (fun K hK => ?_)
                go_simp
                have zb0 : Blk (w7.alloc (.cells #[.int .i64 0, .int .i64 0, .int .i64 0, .int .i64 0, .int .i64 0, .bool false] 40)) (w7.heap.size) 40 [.int .i64 0, .int .i64 0, .int .i64 0, .int .i64 0, .int .i64 0, .bool false] := Blk.new w7 _ _
                have hbA : Below V.heap.size V (w7.alloc (.cells #[.int .i64 0, .int .i64 0, .int .i64 0, .int .i64 0, .int .i64 0, .bool false] 40)) := hbX7.alloc (hbX7.size) _
                have hneA0 : ¬ w7.heap.size = BX := by have h1 := hbX7.size; have h2 := HMV.out.lt; omega
                have hneA1 : ¬ w7.heap.size = BZ := by have h1 := hbX7.size; have h2 := HTV.out.lt; omega
                have hneA2 : ¬ w7.heap.size = aq := by have h1 := hbX7.size; have h2 := HAC.out.2; omega
                refine hK.out _ _ (by (try dsimp only); go_keep) (fun hHeld => ?_)
                clear hK K
                try simp only [Act.put, List.setIfInBounds_toArray, List.set_cons_zero, List.set_cons_succ]
                refine wpW_one 13 rfl (by kernel_rfl) (fun K hK => ?_)
                go_simp
                refine hK.out _ _ (by (try dsimp only); go_keep) (fun hHeld => ?_)
                clear hK K
                try simp only [Act.put, List.setIfInBounds_toArray, List.set_cons_zero, List.set_cons_succ]
                refine wpW_take 14 (v := ?_) rfl (by kernel_rfl) (by kernel_rfl) (by kernel_rfl) (by kernel_rfl) (fun _ _ _ h => h) (Or.inl ⟨by rfl, ?_⟩) hHeld ?_
                rotate_left
                · intro w hSw
                  try dsimp only at hSw
                  go_simp
                  try with_reducible rfl
                try simp only [Act.put, List.setIfInBounds_toArray, List.set_cons_zero, List.set_cons_succ]
                refine wpW_take 15 (v := ?_) rfl (by kernel_rfl) (by kernel_rfl) (by kernel_rfl) (by kernel_rfl) (fun _ _ _ h => h) (Or.inl ⟨by rfl, ?_⟩) hHeld ?_
                rotate_left
                · intro w hSw
                  try dsimp only at hSw
                  go_simp
                  try with_reducible rfl
                try simp only [Act.put, List.setIfInBounds_toArray, List.set_cons_zero, List.set_cons_succ]
                refine wpW_done (by kernel_rfl) ?_ _
                go_wp2
                go_meet
                exact ⟨_, rfl, rfl, rfl, Lib.hid (insVar_new hbX7)⟩
              refine AllW.cons (i := 12) rfl (fun K hK => ?_) AllW.nil
              go_simp
              have zb0 : Blk (V.alloc (.cells #[.int .i64 0, .int .i64 0, .int .i64 0, .int .i64 0, .int .i64 0, .bool false] 40)).drew (V.heap.size) 40 [.int .i64 0, .int .i64 0, .int .i64 0, .int .i64 0, .int .i64 0, .bool false] := Blk.drew (Blk.new V _ _)
              have hbA : Below V.heap.size V (V.alloc (.cells #[.int .i64 0, .int .i64 0, .int .i64 0, .int .i64 0, .int .i64 0, .bool false] 40)).drew := ((Below.refl _ _).alloc (Nat.le_refl _) _).drew
              have hneA0 : ¬ V.heap.size = BX := by have h1 := hbD.size; have h2 := HMV.out.lt; omega
              have hneA1 : ¬ V.heap.size = BZ := by have h1 := hbD.size; have h2 := HTV.out.lt; omega
              have hneA2 : ¬ V.heap.size = aq := by have h1 := hbD.size; have h2 := HAC.out.2; omega
              refine hK.out _ _ (by (try dsimp only); go_keep) (fun hHeld => ?_)
              clear hK K
              try simp only [Act.put, List.setIfInBounds_toArray, List.set_cons_zero, List.set_cons_succ]
              refine wpW_one 7 rfl (by kernel_rfl) (fun K hK => ?_)
              go_simp
              refine (HDC.out (V.alloc (.cells #[.int .i64 0, .int .i64 0, .int .i64 0, .int .i64 0, .int .i64 0, .bool false] 40)).drew hbA).mono ?_
              rintro e w7 ⟨rfl, hb7⟩
              have hbX7 : Below V.heap.size V w7 := hbA.trans (hb7.mono hbA.size)
              have y7_0 : w7.cell? ⟨BX, 0, none⟩ = some (.slice tA T tc) := (hbX7.cell HMV.out.lt).trans m0
              have y7_1 : w7.cell? ⟨BZ, 3, none⟩ = some (.slice (some ⟨aq, ao, none⟩) NA ac) := (hbX7.cell HTV.out.lt).trans t3
              have y7_2 : w7.cell? ⟨aq, ao + j, none⟩ = some (.int .i64 p) := (hbX7.cell HAC.out.2).trans hac
              have zb8 := zb0.keep hb7
              have zc7_0 := zb8.cell 0 rfl
              have zf7_0 := zb8.free 0
              have zc7_1 := zb8.cell 1 rfl
              have zf7_1 := zb8.free 1
              have zc7_2 := zb8.cell 2 rfl
              have zf7_2 := zb8.free 2
              have zc7_3 := zb8.cell 3 rfl
              have zf7_3 := zb8.free 3
              have zc7_4 := zb8.cell 4 rfl
              have zf7_4 := zb8.free 4
              have zc7_5 := zb8.cell 5 rfl
              have zf7_5 := zb8.free 5
              have zl7 := zb8.lt
              refine hK.out _ _ (by (try dsimp only); go_keep) (fun hHeld => ?_)
              clear hK K
              try simp only [Act.put, List.setIfInBounds_toArray, List.set_cons_zero, List.set_cons_succ]
              refine wpW_take 8 (v := ?_) rfl (by kernel_rfl) (by kernel_rfl) (by kernel_rfl) (by kernel_rfl) (fun _ _ _ h => h) (Or.inl ⟨by rfl, ?_⟩) hHeld ?_
              rotate_left
              · intro w hSw
                try dsimp only at hSw
                go_simp
                try with_reducible rfl
              try simp only [Act.put, List.setIfInBounds_toArray, List.set_cons_zero, List.set_cons_succ]
              refine wpW_take 9 (v := ?_) rfl (by kernel_rfl) (by kernel_rfl) (by kernel_rfl) (by kernel_rfl) (fun _ _ _ h => h) (Or.inl ⟨by rfl, ?_⟩) hHeld ?_
              rotate_left
              · intro w hSw
                try dsimp only at hSw
                go_simp
                try with_reducible rfl
              try simp only [Act.put, List.setIfInBounds_toArray, List.set_cons_zero, List.set_cons_succ]
              refine wpW_take 10 (v := ?_) rfl (by kernel_rfl) (by kernel_rfl) (by kernel_rfl) (by kernel_rfl) (fun _ _ _ h => h) (Or.inl ⟨by rfl, ?_⟩) hHeld ?_
              rotate_left
              · intro w hSw
                try dsimp only at hSw
                go_simp
                try with_reducible rfl
              try simp only [Act.put, List.setIfInBounds_toArray, List.set_cons_zero, List.set_cons_succ]
              refine wpW_take 11 (v := ?_) rfl (by kernel_rfl) (by kernel_rfl) (by kernel_rfl) (by kernel_rfl) (fun _ _ _ h => h) (Or.inl ⟨by rfl, ?_⟩) hHeld ?_
              rotate_left
              · intro w hSw
                try dsimp only at hSw
                go_simp
                try with_reducible rfl
              try simp only [Act.put, List.setIfInBounds_toArray, List.set_cons_zero, List.set_cons_succ]
              refine wpW_one 13 rfl (by kernel_rfl) (fun K hK => ?_)
              go_simp
              refine hK.out _ _ (by (try dsimp only); go_keep) (fun hHeld => ?_)
              clear hK K
              try simp only [Act.put, List.setIfInBounds_toArray, List.set_cons_zero, List.set_cons_succ]
              refine wpW_take 14 (v := ?_) rfl (by kernel_rfl) (by kernel_rfl) (by kernel_rfl) (by kernel_rfl) (fun _ _ _ h => h) (Or.inl ⟨by rfl, ?_⟩) hHeld ?_
              rotate_left
              · intro w hSw
                try dsimp only at hSw
                go_simp
                try with_reducible rfl
              try simp only [Act.put, List.setIfInBounds_toArray, List.set_cons_zero, List.set_cons_succ]
              refine wpW_take 15 (v := ?_) rfl (by kernel_rfl) (by kernel_rfl) (by kernel_rfl) (by kernel_rfl) (fun _ _ _ h => h) (Or.inl ⟨by rfl, ?_⟩) hHeld ?_
              rotate_left
              · intro w hSw
                try dsimp only at hSw
                go_simp
                try with_reducible rfl
              try simp only [Act.put, List.setIfInBounds_toArray, List.set_cons_zero, List.set_cons_succ]
              refine wpW_done (by kernel_rfl) ?_ _
              go_wp2
              go_meet
              exact ⟨_, rfl, rfl, rfl, Lib.hid (insVar_old zb8 hbX7 (Nat.le_refl _))⟩
            case rest =>
              obtain ⟨z, rfl, rfl, rfl, HYV⟩ := hcut
              rename World => wx
              have hbx := HYV.out.2.1
              have hyv := HYV.out.1
              have htx := HTV.out.keep hbx
              have hmx := HMV.out.keep hbx
              have hix := HIV.out.keep hbx
              have hac := (hbx.cell (p := ⟨aq, ao + j, none⟩) HAC.out.2).trans HAC.out.1
              have j4 := hyv.cell 4 rfl
              have jl := hyv.lt
              have i4 := hix.cell 4 rfl
              have il3 := hix.lt
              have t3 := htx.cell 3 rfl
              have tl := htx.lt
              have m1 := hmx.cell 1 rfl
              have ml := hmx.lt
              have HBXX := Lib.hid (HBZV.out.trans (hbx.mono HBZV.out.size))
              obtain ⟨fb, fo, hfA, hfbl, -, e1, -⟩ := (HSTY.out.below (HBWV.out.trans (hbx.mono HBWV.out.size))).img.funcs.at3 HQ.out.1
              simp only at hfA
              rw [HQ.out.2.1] at e1
              have hql : q < NF := by have := (List.getElem?_eq_some_iff.1 HQ.out.1).1; have := HNF.out; omega
              have hfcap : NF ≤ fc := by rw [← HNF.out]; exact HSTY.out.ok.fc
              have hpb := HQ.out.2.2.1
              have hinn := HQ.out.2.2.2.1
              have hyz := HQ.out.2.2.2.2
              have hTx := HTXT.out
              obtain ⟨tp, htp⟩ : ∃ z, p + y.n = z := ⟨_, rfl⟩
              rw [htp] at e1
              have qt : IntKind.i64.wrap (p + y.n) = tp := by rw [IntWalk.i64_in _ (by omega)]; exact htp
              have qn : (tp != tp) = false := by simp
              have q0 : decide ((q : Int) < 0) = false := decide_eq_false (by omega)
              have q0n : (0 : Int) ≤ (q : Int) := by omega
              have q1 : decide ((NF : Int) ≤ (q : Int)) = false := decide_eq_false (by omega)
              have q1n : decide (NF ≤ q) = false := decide_eq_false (by omega)
              have q2 : (q : Int) < (NF : Int) := by omega
              subst hfA
              clear hbx hyv htx hmx hix hpb hinn hyz hTx htp hfbl
              go_upto_region 12 with fail
              go_quiet (fail)
              go_wp2_with fail
              go_roundg (NC - (j + 1))
              case measure => omega
              case rel => exact ⟨j + 1, by omega, (by go_num), Lib.hid (below_drewN HBXX.out _), Nat.le_refl _⟩
          · have q23 : (ik != 23) = true := by simp [h23]
            clear h23
            go_wp2_with fail
            go_roundg (NC - (j + 1))
            case measure => omega
            case rel => exact ⟨j + 1, by omega, (by go_num), HBZV, Nat.le_refl _⟩
        · obtain rfl : j = NC := by omega
          have hltJ : ¬ (j : Int) < (j : Int) := by omega
          have HBE := Lib.hid (HBZ.out.trans (HB2.out.mono HBZ.out.size))
          go_wp2
          go_roundg (NB - (i + 1))
          case measure => omega
          case rel => exact ⟨i + 1, by omega, (by go_num), HBE, Nat.le_refl _⟩
    · obtain rfl : i = NB := by omega
      have hltI : ¬ (i : Int) < (i : Int) := by omega
      have HBE := Lib.hid (HWY.out.trans (HB.out.mono HWY.out.size))
      go_wp2_with fail
      go_ret
      exact ⟨by simp, HBE.out⟩
set_option maxRecDepth 100000 in
theorem callsNamed_contract (H : Type) (enc : TypeId × Value → H) (W : World) (base : Nat) (args : Array Value) (ds gs : List (DataW H)) (before : List MemPlace)
    (hval : ∀ (j : Nat) t v, Tryd.f5.params[j]? = some t → args[j]? = some v → Value.okWide Tryd.prog W .any base t v)
    (hW : DataW.Whole enc Tryd.prog Tryd.f5.params.toList Rows.callsNamedSpec.vars false W args.toList ds gs before) (hL : laidMetH Tryd.prog Rows.callsNamedRow.laid W)
    (hz : (DataW.weightsEach Tryd.prog (Tryd.f5.params.toList ++ (OpenSpec.ofChange Rows.callsNamedSpec).bare.plain.varTypes Tryd.prog) (ds ++ gs)).all (· ≤ reachBytes) = true) :
    Calls Tryd.prog 5 args W fun e W' => ∃ v, e = .returned v ∧ Rows.callsNamedSpec.post enc Tryd.prog Tryd.f5 false true false false W args v W' := by
  have hT : Tabs W := tabs_of_laid5 hL
  have hW0 := hW
  obtain ⟨p, q, hA0, hV, rfl, hfz, hnd⟩ := hW
  have hA : DataW.TrodAll enc Tryd.prog W 0 (fun _ => true) true Tryd.f5.params.toList args.toList ds p := hA0
  rw [Tryd.params5] at hA hval
  obtain ⟨v0, vs0, d0, ds0, p0, q0, hargs, rfl, rfl, h0, r0⟩ := trodAll_cons hA
  obtain ⟨rfl, rfl, rfl⟩ := trodAll_nil r0
  obtain rfl : args = #[v0] := by cases args; simp_all
  obtain ⟨rfl, rfl⟩ := trodVars_none hV
  clear hA0
  obtain ⟨A, cap, L, rfl, hcap, hcm, hR, hd⟩ := open_raws (hval 0 22 v0 rfl rfl) h0
  have hL : L.length ≤ 140737488355328 := by
    rcases hd with ⟨-, rfl, -⟩ | ⟨elems, spare, rfl, hl⟩
    · exact Nat.zero_le _
    · have h1 := sized_slice hz (j := 0) (t := 22) (by rw [Tryd.params5]; rfl) rfl Tryd.underlying22
      have h2 : Tryd.prog.bytesOf 57 = 32 := by kernel_rfl
      have h3 := reachBytes_lt
      rw [h2, hl] at h1
      omega
  refine (callsNamed_walk L A cap W hT hR hL hcap).mono fun e W' ⟨he, hb⟩ => ?_
  subst he
  exact ⟨_, rfl, law_post hW0 rfl rfl (by kernel_rfl) (by kernel_rfl) hb⟩
set_option maxRecDepth 100000 in
theorem callsNamed_met (os : Os) : laidMet Tryd.prog Rows.callsNamedRow.laid ((laidWorld5 os).forCall (fun _ _ => 0) ⟨#[], #[.slice none 0 0], []⟩).memory :=
  laidMet_of_run' 8 (by kernel_rfl) (by kernel_rfl)
set_option maxRecDepth 100000 in
theorem callsNamed_reads (os : Os) {H : Type} (enc : TypeId × Value → H) : ∃ places, DataW.whole enc Tryd.prog ((laidWorld5 os).forCall (fun _ _ => 0) ⟨#[], #[.slice none 0 0], []⟩).memory Tryd.f5.params.toList Rows.callsNamedSpec.vars false (#[.slice none 0 0] : Array Value).toList 8 = some ([.nil], [], places) :=
  ⟨[], by kernel_rfl⟩
set_option maxRecDepth 100000 in
theorem callsNamed_lifted (os : Os) (started : os.Started) (H : Type) (enc : TypeId × Value → H) (F : Stop.Interp) :
    ReturnsInHanded {} Tryd.checked os 5 .any ((OpenSpec.ofChange Rows.callsNamedSpec).preRow enc Tryd.prog Tryd.f5 Rows.callsNamedRow.domain false Rows.callsNamedRow.laid) (((OpenSpec.ofChange Rows.callsNamedSpec).at F).post enc Tryd.prog Tryd.f5 false true false false) := by
  obtain ⟨places, hx⟩ := callsNamed_reads os enc
  refine returnsInHanded_of_row (C := Tryd.checked) (s := OpenSpec.ofChange Rows.callsNamedSpec) ownP started (by kernel_rfl) Tryd.func5
    (witness_row_at (enc := enc) (C := Tryd.checked) false (laidWorld5 os) #[.slice none 0 0] rfl (by kernel_rfl) (by kernel_rfl) (by kernel_rfl)
      (OpenSpec.preRow_of_cond 8 hx (by kernel_rfl) (fun k hk => by cases hk) (by kernel_rfl) (callsNamed_met os))) ?_
  intro W base args ds gs before hval hW _ _ hreach hL _ _
  exact callsNamed_contract H enc W base args ds gs before hval hW hL hreach
set_option maxRecDepth 100000 in
theorem callsNamed_said : Rows.CallsNamedSaid :=
  OpenClaim.holds_of_cond 5 Tryd.f5 rfl rfl rfl rfl rfl rfl rfl ⟨rfl, rfl, rfl, rfl, rfl⟩ rfl rfl rfl rfl rfl (by kernel_rfl) Tryd.func5 (by kernel_rfl)
    (of_decide_eq_true (by kernel_rfl)) (by unfold Func.isWrapper; first | (rw [if_pos (by decide +kernel)]; kernel_rfl) | (rw [if_neg (by decide +kernel)]; exact ⟨rfl, rfl⟩))
    (fun os started H enc _ F => by rw [OpenClaim.pre_eq_preRow]; exact callsNamed_lifted os started H enc F)
set_option maxRecDepth 100000 in
theorem callsNamed_plain (f : FuncId) (fn : Func) (hf : Tryd.pinned.checked.prog.funcNamed "bolthole/boltholekeep.CallsNamed" = some f) (hfn : Tryd.pinned.checked.prog.funcs[f]? = some fn) :
    ∀ (j : Nat) t, fn.params[j]? = some t → Tryd.pinned.checked.prog.wantsStandIn t = false := by
  obtain rfl : f = 5 := Option.some.inj ((show Tryd.prog.funcNamed "bolthole/boltholekeep.CallsNamed" = some 5 by kernel_rfl).symm.trans hf) |>.symm
  obtain rfl : fn = Tryd.f5 := (Option.some.inj (Tryd.func5.symm.trans hfn)).symm
  intro j t ht
  have hall : ∀ t ∈ Tryd.f5.params, Tryd.prog.wantsStandIn t = false := by
    rw [Tryd.params5]
    intro t ht
    simp only [List.mem_toArray, List.mem_cons, List.not_mem_nil, or_false] at ht
    rcases ht with rfl
    all_goals kernel_rfl
  exact hall t (Array.mem_of_getElem? ht)
set_option maxRecDepth 100000 in
theorem callsNamed_card : Rows.CallsNamedCardSaid :=
  Claim7.holds_tied_plain_at .later [] _ _ _ _ callsNamed_said (fun _ h => by cases h) (by kernel_rfl) (fun _ h => by cases h) callsNamed_row_tie rfl ⟨rfl, rfl⟩ (by kernel_rfl) rfl (fun f fn hf hfn => ⟨by kernel_rfl, callsNamed_plain f fn hf hfn⟩) (by kernel_rfl)
end Go.Proofs.YtbdlmafhcgndeaaDoor
