/- The given statement on NextsFew, proved: from each block lead as many ways as it may have, all within its function. No condition of its own. -/
import Derived.Test.YtbdlmafhcgndeaaDoorLawS
import Derived.Test.YtbdlmafhcgndeaaDoorFlwR
import Derived.Test.YtbdlmafhcgndeaaDoorNxt
import Derived.Deep.DeepCutAuto
import Derived.Deep.CutBlock
import Derived.Deep.LoopGhost
import Derived.Deep.QuietTactic
import Derived.BigQuiet
import Derived.IntWalk
import Derived.WalkLawsBesides
namespace Go.Proofs.YtbdlmafhcgndeaaDoor
open Go.ChangeShapes Go.WideShapes Go.ChangeAt Go.RowKit Go.Joins
open Go.ChangeMaps (open_string)
set_option maxHeartbeats 8000000 in
set_option maxRecDepth 100000 in
theorem nextsFew_walk (l : List RawI) (A : Option Addr) (c : Nat) (w : World) (hT : Tabs w) (hR : RdR w w.heap.size A l) (hl : l.length ≤ 140737488355328) (hc : l.length ≤ c) :
    Calls Tryd.prog 6 #[.slice A l.length c] w fun e w' => e = .returned (.bool true) ∧ Below w.heap.size w w' := by
  have HFT := Lib.hid (flowTells_any w hT)
  have HFW : Hid (∀ W, Below w.heap.size w W → Calls Tryd.prog 18 #[.slice A l.length c] W (FlwPost W l)) := Lib.hid fun W hW => flowed_any l A c W (hT.below hW) ((hR.below hW).more hW.size) hc hl
  have HT := Lib.hid hT
  obtain ⟨ll, hll⟩ : ∃ z, l.length = z := ⟨_, rfl⟩
  rw [hll] at HFW ⊢
  clear hT hR hl hc hll
  go_enter Tryd.func6, Tryd.ntmps6
  go_wp2_with fail
  refine HFT.out.mono ?_
  rintro e w0 ⟨rfl, hb0⟩
  have HB0 := Lib.hid hb0
  clear hb0 HFT
  go_wp2_with fail
  refine (HFW.out _ HB0.out).mono ?_
  rintro e w1 ⟨hb1, m, v, d, xA, yA, zA, xc, yc, zc, rfl, hst⟩
  obtain ⟨ld, bm, S, gs, hF, hFn⟩ := gen_flow hst.pgm.check hst.rc
  have HB1 := Lib.hid (HB0.out.trans (hb1.mono HB0.out.size))
  have HST := Lib.hid hst
  have HF := Lib.hid hF
  have HFN := Lib.hid hFn
  obtain ⟨tA, tc, fA, fc, bA, bc, dA, dc, lA, lc⟩ := v
  clear hb1 hst hF hFn HFW HB0
  unfold Img.val flowV
  simp only
  obtain ⟨T, hTe⟩ : ∃ z, m.text.length = z := ⟨_, rfl⟩
  obtain ⟨NF, hNF⟩ : ∃ z, m.funcs.length = z := ⟨_, rfl⟩
  obtain ⟨nb, hnb⟩ : ∃ z, m.tables.length = z := ⟨_, rfl⟩
  obtain ⟨nd, hnd⟩ : ∃ z, m.data.length = z := ⟨_, rfl⟩
  obtain ⟨nl, hnl⟩ : ∃ z, m.lines.length = z := ⟨_, rfl⟩
  obtain ⟨NB, hNB⟩ : ∃ z, d.blocks.length = z := ⟨_, rfl⟩
  obtain ⟨nt, hnt⟩ : ∃ z, d.tables.length = z := ⟨_, rfl⟩
  obtain ⟨nz, hnz⟩ : ∃ z, d.firsts.length = z := ⟨_, rfl⟩
  rw [hTe, hNF, hnb, hnd, hnl, hNB, hnt, hnz]
  have HTE := Lib.hid hTe
  have HNF := Lib.hid hNF
  have HN5 := Lib.hid (And.intro hnb (And.intro hnd hnl))
  have HNB := Lib.hid hNB
  have HNT := Lib.hid hnt
  have HNZ := Lib.hid hnz
  clear hTe hNF hnb hnd hnl hNB hnt hnz
  go_upto_region 4 with fail
  obtain ⟨X, hX⟩ : ∃ X, w1.alloc (.cells #[.slice tA T tc, .slice fA NF fc, .slice bA nb bc, .slice dA nd dc, .slice lA nl lc, .int .i64 m.entry] 30) = X := ⟨_, rfl⟩
  rw [hX]
  have hm1 : Blk X w1.heap.size 30 [.slice tA T tc, .slice fA NF fc, .slice bA nb bc, .slice dA nd dc, .slice lA nl lc, .int .i64 m.entry] := by rw [← hX]; exact Blk.new w1 _ _
  have hbX : Below w1.heap.size w1 X := by rw [← hX]; exact (Below.refl _ _).alloc (Nat.le_refl _) _
  have hxs : X.heap.size = w1.heap.size + 1 := by rw [← hX]; simp
  obtain ⟨Y, hY⟩ : ∃ Y, X.alloc (.cells #[.slice xA NB xc, .slice yA nt yc, .slice zA nz zc] 34) = Y := ⟨_, rfl⟩
  rw [hY]
  have hfY : Blk Y (w1.heap.size + 1) 34 [.slice xA NB xc, .slice yA nt yc, .slice zA nz zc] := by rw [← hY, ← hxs]; exact Blk.new X _ _
  have hbY : Below X.heap.size X Y := by rw [← hY]; exact (Below.refl _ _).alloc (Nat.le_refl _) _
  have hmY := hm1.keep hbY
  have hbWY := hbX.trans (hbY.mono hbX.size)
  obtain ⟨BX, hBX⟩ : ∃ z, w1.heap.size = z := ⟨_, rfl⟩
  rw [hBX] at hfY hmY ⊢
  have HFY := Lib.hid hfY
  have HMY := Lib.hid hmY
  have HSTY := Lib.hid (HST.out.below hbWY)
  have HWY := Lib.hid (HB1.out.trans (hbWY.mono HB1.out.size))
  have HTXT := Lib.hid HST.out.pgm.text
  have hfew := HF.out.few
  have hNBb : NB ≤ 1600 := (by have h2 := HST.out.pgm.text; have h3 := HNB.out; omega)
  have f0 := hfY.cell 0 rfl
  have fl := hfY.lt
  clear hX hY hm1 hbX hbY hfY hmY hbWY hxs hfew HST hBX
  go_wp2_with fail
  go_loopg [24] NB (fun gk s wr => ∃ i : Nat, i ≤ NB ∧ s = .int .i64 i ∧ Hid (Below Y.heap.size Y wr) ∧ NB - i ≤ gk)
  case atStart => exact ⟨0, Nat.zero_le _, rfl, Below.refl _ _, Nat.le_refl _⟩
  case round =>
    obtain ⟨i, hi, rfl, HB, hgk⟩ := hrel
    by_cases hlt : i < NB
    · have hltI : (i : Int) < (NB : Int) := by omega
      have hbi : d.blocks[i]? = some (d.blocks[i]'(by have := HNB.out; omega)) := List.getElem?_eq_getElem _
      obtain ⟨b, hbe⟩ : ∃ z, d.blocks[i]'(by have := HNB.out; omega) = z := ⟨_, rfl⟩
      rw [hbe] at hbi
      have HBI := Lib.hid hbi
      have HLN := Lib.hid (HF.out.lines hbi)
      obtain ⟨ea, y, eg, he1, he2, he3, he4, he5, hen⟩ := HF.out.ends hbi
      have HEN := Lib.hid (And.intro he1 (And.intro he2 (And.intro he3 (And.intro he4 (And.intro he5 hen)))))
      clear he1 he2 he3 he4 he5 hen
      obtain ⟨v, g, o, hxA, hgl, hbr, hcs⟩ := (HSTY.out.flow.below HB.out).at hbi
      obtain ⟨bf, bst, bco, bat, ⟨lk, lld, la, lb, ln, llb⟩, ben, bds, bel, bli⟩ := b
      obtain ⟨cA, cc, aA, ac, liA, lic⟩ := v
      have HBR := Lib.hid hbr
      have c0 := hcs 0 _ rfl
      have c1 := hcs 1 _ rfl
      have c2 := hcs 2 _ rfl
      have c3 := hcs 3 _ rfl
      have c4 := hcs 4 _ rfl
      have c5 := hcs 5 _ rfl
      have c6 := hcs 6 _ rfl
      have c7 := hcs 7 _ rfl
      have c8 := hcs 8 _ rfl
      have c9 := hcs 9 _ rfl
      have c10 := hcs 10 _ rfl
      have c11 := hcs 11 _ rfl
      have c12 := hcs 12 _ rfl
      have c13 := hcs 13 _ rfl
      simp only [Nat.add_zero] at c0 c1 c2 c3 c4 c5 c6 c7 c8 c9 c10 c11 c12 c13
      have hxcap : NB ≤ xc := by
        obtain ⟨l0, e1, e2, -⟩ := HSTY.out.flow
        rw [← HNB.out]
        exact e2.2.1
      obtain ⟨NA, hNA⟩ : ∃ z, bat.length = z := ⟨_, rfl⟩
      rw [hNA] at c3
      have HNA := Lib.hid hNA
      subst hxA
      clear hbe hbi hbr hcs hNA
      have HFIT := Lib.hid (HF.out.fit HBI.out)
      have HNXL := Lib.hid (HF.out.nexts HSTY.out.pgm.check HBI.out)
      have hb4 := (HF.out.fit HBI.out).ends
      simp only at hb4
      have HE := Lib.hid hb4
      have hbln := HF.out.blen HBI.out
      simp only at hbln
      obtain ⟨NC, hNC⟩ : ∃ z, bco.length = z := ⟨_, rfl⟩
      have hTx := HTXT.out
      have HNC : Hid (bco.length ≤ 100000) := Lib.hid (by omega)
      have HTBL : Hid (∀ t ∈ d.tables, t.length ≤ 1000) := Lib.hid fun t ht => by
        rw [HF.out.tables] at ht
        obtain ⟨t0, ht0, rfl⟩ := List.mem_map.1 ht
        have := (check_tabs HSTY.out.pgm.check).1 t0 ht0
        rw [List.length_map]
        omega
      clear hb4 hbln hNC hTx
      go_upto_region 7 with fail
      obtain ⟨Z, hZ⟩ : ∃ Z, wr.alloc (.cells #[.int .i64 bf, .int .i64 bst, .slice cA bco.length cc, .slice aA NA ac, .int .i64 lk, .int .i64 lld, .int .i64 la, .int .i64 lb, .int .i64 ln, .bool llb, .int .i64 ben, .int .i64 bds, .int .i64 bel, .slice liA bli.length lic] 42) = Z := ⟨_, rfl⟩
      rw [hZ]
      have htZ : Blk Z wr.heap.size 42 [.int .i64 bf, .int .i64 bst, .slice cA bco.length cc, .slice aA NA ac, .int .i64 lk, .int .i64 lld, .int .i64 la, .int .i64 lb, .int .i64 ln, .bool llb, .int .i64 ben, .int .i64 bds, .int .i64 bel, .slice liA bli.length lic] := by rw [← hZ]; exact Blk.new wr _ _
      have hbZ : Below wr.heap.size wr Z := by rw [← hZ]; exact (Below.refl _ _).alloc (Nat.le_refl _) _
      have hBYZ := HB.out.trans (hbZ.mono HB.out.size)
      obtain ⟨BZ, hBZ⟩ : ∃ z, wr.heap.size = z := ⟨_, rfl⟩
      rw [hBZ] at htZ ⊢
      have HBZ := Lib.hid hBYZ
      have HTZ := Lib.hid htZ
      have HBRZ : Hid (BRd Z (⟨bf, bst, bco, bat, ⟨lk, lld, la, lb, ln, llb⟩, ben, bds, bel, bli⟩, ⟨cA, cc, aA, ac, liA, lic⟩)) := Lib.hid ⟨(HBR.out.1.below hbZ).more hbZ.size, (HBR.out.2.1.below hbZ).more hbZ.size, (HBR.out.2.2.below hbZ).more hbZ.size⟩
      have HFZ := Lib.hid (HFY.out.keep hBYZ)
      have HMZ := Lib.hid (HMY.out.keep hBYZ)
      have t0 := htZ.cell 0 rfl
      have t2 := htZ.cell 2 rfl
      have t3 := htZ.cell 3 rfl
      have t4 := htZ.cell 4 rfl
      have t10 := htZ.cell 10 rfl
      have t11 := htZ.cell 11 rfl
      have t12 := htZ.cell 12 rfl
      have t13 := htZ.cell 13 rfl
      have tl := htZ.lt
      have g0 := HFZ.out.cell 0 rfl
      have gl := HFZ.out.lt
      have m0 := HMZ.out.cell 0 rfl
      have m1 := HMZ.out.cell 1 rfl
      have ml := HMZ.out.lt
      clear hZ htZ hbZ hBYZ hBZ c0 c1 c2 c3 c4 c5 c6 c7 c8 c9 c10 c11 c12 c13 f0 fl HBR
      have g1 := HFZ.out.cell 1 rfl
      have g2 := HFZ.out.cell 2 rfl
      obtain ⟨NX, hNX⟩ : ∃ z, nextsL d ⟨bf, bst, bco, bat, ⟨lk, lld, la, lb, ln, llb⟩, ben, bds, bel, bli⟩ = z := ⟨_, rfl⟩
      have HNXE := Lib.hid hNX
      have HNX : Hid (∀ W, Below Z.heap.size Z W → Calls Tryd.prog 20 #[.agg #[.slice (some ⟨g, o, none⟩) NB xc, .slice yA nt yc, .slice zA nz zc], .int .i64 i] W (NxtPost W NX)) := Lib.hid fun W hW => by
        have h := nexts_any d (some ⟨g, o, none⟩) yA zA xc yc zc W ((HSTY.out.flow.below HBZ.out).below hW) i _ HBI.out HFIT.out HNC.out HTBL.out
        unfold flowV at h
        rw [HNXE.out, HNB.out, HNT.out, HNZ.out] at h
        exact h
      obtain ⟨ne, hne⟩ : ∃ z, NX.length = z := ⟨_, rfl⟩
      have hmost : ne ≤ mostN ⟨bf, bst, bco, bat, ⟨lk, lld, la, lb, ln, llb⟩, ben, bds, bel, bli⟩ := by
        rw [← hne, ← hNX]
        exact Nat.le_trans (nextsL_len _ _) HNXL.out.1
      have HIN : Hid (∀ x ∈ NX, 0 ≤ x ∧ x < d.blocks.length ∧ (d.blocks.getD x.toNat blkZ).fn = bf) := Lib.hid fun x hx => HNXL.out.2 x (nextsL_mem.1 (by rw [hNX]; exact hx))
      have HSO : Hid (NX.Pairwise (· ≤ ·)) := Lib.hid (by rw [← hNX]; exact nextsL_sorted _ _)
      have HNE := Lib.hid hne
      have HMO := Lib.hid hmost
      have hne20 : ne ≤ 20 := by unfold mostN at hmost; split at hmost; omega; split at hmost <;> omega
      clear hNX hne hmost t2 t3 t4 t11 t12 t13 m0 m1 ml
      go_wp2_with fail
      refine (HNX.out _ (Below.refl _ _)).mono ?_
      rintro e w3 ⟨nA, nc, rfl, hb3, ho3⟩
      rw [HNE.out] at ho3 ⊢
      have HO3 := Lib.hid ho3
      have HB3 := Lib.hid (HBZ.out.trans (hb3.mono HBZ.out.size))
      have HB3Z := Lib.hid hb3
      have HT3 := Lib.hid (HTZ.out.keep hb3)
      have HF3 := Lib.hid (HFZ.out.keep hb3)
      have t10 := HT3.out.cell 10 rfl
      have tl := HT3.out.lt
      clear hb3 ho3 g0 g1 g2 gl t0
      go_upto_region 8 with fail
      go_cut [10] (fun s10 wx => ∃ mo : Int, s10 = .int .i64 mo ∧ (ne : Int) ≤ mo ∧ Hid (Below w3.heap.size w3 wx))
      case first =>
        have hmo := HMO.out
        have he := HE.out
        rcases he with rfl | rfl | rfl | rfl
        all_goals
          unfold mostN at hmo
          simp at hmo
          go_wp2_with fail
          go_meet
          exact ⟨_, rfl, by omega, Lib.hid ((Below.refl _ _).alloc (Nat.le_refl _) _)⟩
      case rest =>
        obtain ⟨mo, rfl, hmo, HBX⟩ := hcut
        rename World => wx
        have HT4 := Lib.hid (HT3.out.keep HBX.out)
        have HF4 := Lib.hid (HF3.out.keep HBX.out)
        have HB4 := Lib.hid (HB3.out.trans (HBX.out.mono HB3.out.size))
        have HRX := Lib.hid (((own_rdg HO3.out).below HBX.out).more HBX.out.size)
        have hncap := own_le HO3.out
        have q9 : decide (mo < (ne : Int)) = false := decide_eq_false (by omega)
        have HSRT : Hid (∀ W, Below wx.heap.size wx W → Calls Tryd.prog 21 #[.slice nA ne nc] W fun e w' => e = .returned (.bool true) ∧ Below W.heap.size W w') := Lib.hid fun W hW => by
          have h := sorted_any NX nA nc W ((HRX.out.below hW).more hW.size) (by rw [HNE.out]; omega) HSO.out
          rw [HNE.out] at h
          exact h
        clear hmo t10 tl
        go_wp2_with fail
        refine (HSRT.out _ (Below.refl _ _)).mono ?_
        rintro e w5 ⟨rfl, hb5⟩
        have HB5 := Lib.hid (HB4.out.trans (hb5.mono HB4.out.size))
        have HB5X := Lib.hid hb5
        have HT5 := Lib.hid (HT4.out.keep hb5)
        have HF5 := Lib.hid (HF4.out.keep hb5)
        have HR5 := Lib.hid ((HRX.out.below hb5).more hb5.size)
        clear hb5 q9
        go_wp2_with fail
        go_loopg [55] ne (fun gk s wr2 => ∃ j : Nat, j ≤ ne ∧ s = .int .i64 j ∧ Hid (Below w5.heap.size w5 wr2) ∧ ne - j ≤ gk)
        case atStart => exact ⟨0, Nat.zero_le _, rfl, Below.refl _ _, Nat.le_refl _⟩
        case round =>
          obtain ⟨j, hj, rfl, HB6, hgk2⟩ := hrel
          rename World => wr2
          have HB6Y := Lib.hid (HB5.out.trans (HB6.out.mono HB5.out.size))
          by_cases hlt2 : j < ne
          · have hltJ : (j : Int) < (ne : Int) := by omega
            obtain ⟨x, hx⟩ : ∃ x, NX[j]? = some x := ⟨_, List.getElem?_eq_getElem (by have := HNE.out; omega)⟩
            obtain ⟨hx0, hx1, hx2⟩ := HIN.out x (List.mem_of_getElem? hx)
            obtain ⟨xn, rfl⟩ := Int.eq_ofNat_of_zero_le hx0
            rw [HNB.out] at hx1
            have hxn : xn < NB := by omega
            obtain ⟨b2, hb2⟩ : ∃ b2, d.blocks[xn]? = some b2 := ⟨_, List.getElem?_eq_getElem (by have := HNB.out; omega)⟩
            rw [Int.toNat_natCast, List.getD_eq_getElem?_getD, hb2, Option.getD_some] at hx2
            obtain ⟨v2, g2, o2, hxA2, -, -, hcs2⟩ := (HSTY.out.flow.below HB6Y.out).at hb2
            injection hxA2 with hxA2
            injection hxA2 with e1 e2
            subst e1 e2
            have d0 := hcs2 0 _ rfl
            rw [hx2] at d0
            simp only [Nat.add_zero] at d0
            obtain ⟨ng, no, hnA, -, hnc⟩ := (HR5.out.below HB6.out).at (intsV_at .i64 hx)
            subst hnA
            have t0 := (HT5.out.keep HB6.out).cell 0 rfl
            have tl := (HT5.out.keep HB6.out).lt
            have g0 := (HF5.out.keep HB6.out).cell 0 rfl
            have gl := (HF5.out.keep HB6.out).lt
            have hjn : (0 : Int) ≤ (j : Int) := by omega
            have hxI : (xn : Int) < (NB : Int) := by omega
            have qf : (bf != bf) = false := by simp
            clear hx hx0 hx1 hx2 hb2 hcs2
            go_upto_region 14 with fail
            go_quiet (fail)
            go_wp2_with fail
            go_roundg (ne - (j + 1))
            case measure => omega
            case rel => exact ⟨j + 1, by omega, (by go_num), Lib.hid (below_drewN HB6.out _), Nat.le_refl _⟩
          · obtain rfl : j = ne := by omega
            have hltJ : ¬ (j : Int) < (j : Int) := by omega
            go_wp2
            go_roundg (NB - (i + 1))
            case measure => omega
            case rel => exact ⟨i + 1, by omega, (by go_num), HB6Y, Nat.le_refl _⟩
    · obtain rfl : i = NB := by omega
      have hltI : ¬ (i : Int) < (i : Int) := by omega
      have HBE := Lib.hid (HWY.out.trans (HB.out.mono HWY.out.size))
      go_wp2_with fail
      go_ret
      exact ⟨by simp, HBE.out⟩
set_option maxRecDepth 100000 in
theorem nextsFew_contract (H : Type) (enc : TypeId × Value → H) (W : World) (base : Nat) (args : Array Value) (ds gs : List (DataW H)) (before : List MemPlace)
    (hval : ∀ (j : Nat) t v, Tryd.f6.params[j]? = some t → args[j]? = some v → Value.okWide Tryd.prog W .any base t v)
    (hW : DataW.Whole enc Tryd.prog Tryd.f6.params.toList Rows.nextsFewSpec.vars false W args.toList ds gs before) (hL : laidMetH Tryd.prog Rows.nextsFewRow.laid W)
    (hz : (DataW.weightsEach Tryd.prog (Tryd.f6.params.toList ++ (OpenSpec.ofChange Rows.nextsFewSpec).bare.plain.varTypes Tryd.prog) (ds ++ gs)).all (· ≤ reachBytes) = true) :
    Calls Tryd.prog 6 args W fun e W' => ∃ v, e = .returned v ∧ Rows.nextsFewSpec.post enc Tryd.prog Tryd.f6 false true false false W args v W' := by
  have hT : Tabs W := tabs_of_laid5 hL
  have hW0 := hW
  obtain ⟨p, q, hA0, hV, rfl, hfz, hnd⟩ := hW
  have hA : DataW.TrodAll enc Tryd.prog W 0 (fun _ => true) true Tryd.f6.params.toList args.toList ds p := hA0
  rw [Tryd.params6] at hA hval
  obtain ⟨v0, vs0, d0, ds0, p0, q0, hargs, rfl, rfl, h0, r0⟩ := trodAll_cons hA
  obtain ⟨rfl, rfl, rfl⟩ := trodAll_nil r0
  obtain rfl : args = #[v0] := by cases args; simp_all
  obtain ⟨rfl, rfl⟩ := trodVars_none hV
  clear hA0
  obtain ⟨A, cap, L, rfl, hcap, hcm, hR, hd⟩ := open_raws (hval 0 22 v0 rfl rfl) h0
  have hL : L.length ≤ 140737488355328 := by
    rcases hd with ⟨-, rfl, -⟩ | ⟨elems, spare, rfl, hl⟩
    · exact Nat.zero_le _
    · have h1 := sized_slice hz (j := 0) (t := 22) (by rw [Tryd.params6]; rfl) rfl Tryd.underlying22
      have h2 : Tryd.prog.bytesOf 57 = 32 := by kernel_rfl
      have h3 := reachBytes_lt
      rw [h2, hl] at h1
      omega
  refine (nextsFew_walk L A cap W hT hR hL hcap).mono fun e W' ⟨he, hb⟩ => ?_
  subst he
  exact ⟨_, rfl, law_post hW0 rfl rfl (by kernel_rfl) (by kernel_rfl) hb⟩
set_option maxRecDepth 100000 in
theorem nextsFew_met (os : Os) : laidMet Tryd.prog Rows.nextsFewRow.laid ((laidWorld5 os).forCall (fun _ _ => 0) ⟨#[], #[.slice none 0 0], []⟩).memory :=
  laidMet_of_run' 8 (by kernel_rfl) (by kernel_rfl)
set_option maxRecDepth 100000 in
theorem nextsFew_reads (os : Os) {H : Type} (enc : TypeId × Value → H) : ∃ places, DataW.whole enc Tryd.prog ((laidWorld5 os).forCall (fun _ _ => 0) ⟨#[], #[.slice none 0 0], []⟩).memory Tryd.f6.params.toList Rows.nextsFewSpec.vars false (#[.slice none 0 0] : Array Value).toList 8 = some ([.nil], [], places) :=
  ⟨[], by kernel_rfl⟩
set_option maxRecDepth 100000 in
theorem nextsFew_lifted (os : Os) (started : os.Started) (H : Type) (enc : TypeId × Value → H) (F : Stop.Interp) :
    ReturnsInHanded {} Tryd.checked os 6 .any ((OpenSpec.ofChange Rows.nextsFewSpec).preRow enc Tryd.prog Tryd.f6 Rows.nextsFewRow.domain false Rows.nextsFewRow.laid) (((OpenSpec.ofChange Rows.nextsFewSpec).at F).post enc Tryd.prog Tryd.f6 false true false false) := by
  obtain ⟨places, hx⟩ := nextsFew_reads os enc
  refine returnsInHanded_of_row (C := Tryd.checked) (s := OpenSpec.ofChange Rows.nextsFewSpec) ownP started (by kernel_rfl) Tryd.func6
    (witness_row_at (enc := enc) (C := Tryd.checked) false (laidWorld5 os) #[.slice none 0 0] rfl (by kernel_rfl) (by kernel_rfl) (by kernel_rfl)
      (OpenSpec.preRow_of_cond 8 hx (by kernel_rfl) (fun k hk => by cases hk) (by kernel_rfl) (nextsFew_met os))) ?_
  intro W base args ds gs before hval hW _ _ hreach hL _ _
  exact nextsFew_contract H enc W base args ds gs before hval hW hL hreach
set_option maxRecDepth 100000 in
theorem nextsFew_said : Rows.NextsFewSaid :=
  OpenClaim.holds_of_cond 6 Tryd.f6 rfl rfl rfl rfl rfl rfl rfl ⟨rfl, rfl, rfl, rfl, rfl⟩ rfl rfl rfl rfl rfl (by kernel_rfl) Tryd.func6 (by kernel_rfl)
    (of_decide_eq_true (by kernel_rfl)) (by unfold Func.isWrapper; first | (rw [if_pos (by decide +kernel)]; kernel_rfl) | (rw [if_neg (by decide +kernel)]; exact ⟨rfl, rfl⟩))
    (fun os started H enc _ F => by rw [OpenClaim.pre_eq_preRow]; exact nextsFew_lifted os started H enc F)
set_option maxRecDepth 100000 in
theorem nextsFew_plain (f : FuncId) (fn : Func) (hf : Tryd.pinned.checked.prog.funcNamed "bolthole/boltholekeep.NextsFew" = some f) (hfn : Tryd.pinned.checked.prog.funcs[f]? = some fn) :
    ∀ (j : Nat) t, fn.params[j]? = some t → Tryd.pinned.checked.prog.wantsStandIn t = false := by
  obtain rfl : f = 6 := Option.some.inj ((show Tryd.prog.funcNamed "bolthole/boltholekeep.NextsFew" = some 6 by kernel_rfl).symm.trans hf) |>.symm
  obtain rfl : fn = Tryd.f6 := (Option.some.inj (Tryd.func6.symm.trans hfn)).symm
  intro j t ht
  have hall : ∀ t ∈ Tryd.f6.params, Tryd.prog.wantsStandIn t = false := by
    rw [Tryd.params6]
    intro t ht
    simp only [List.mem_toArray, List.mem_cons, List.not_mem_nil, or_false] at ht
    rcases ht with rfl
    all_goals kernel_rfl
  exact hall t (Array.mem_of_getElem? ht)
set_option maxRecDepth 100000 in
theorem nextsFew_card : Rows.NextsFewCardSaid :=
  Claim7.holds_tied_plain_at .later [] _ _ _ _ nextsFew_said (fun _ h => by cases h) (by kernel_rfl) (fun _ h => by cases h) nextsFew_row_tie rfl ⟨rfl, rfl⟩ (by kernel_rfl) rfl (fun f fn hf hfn => ⟨by kernel_rfl, nextsFew_plain f fn hf hfn⟩) (by kernel_rfl)
end Go.Proofs.YtbdlmafhcgndeaaDoor
