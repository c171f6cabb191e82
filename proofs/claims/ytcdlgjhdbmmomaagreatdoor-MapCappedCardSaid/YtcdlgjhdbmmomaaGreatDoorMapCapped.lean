/- The given statement on MapCapped, proved. No condition of its own. -/
import Derived.Test.YtcdlgjhdbmmomaaGreatDoorMpI
import Derived.Test.YtcdlgjhdbmmomaaGreatDoorRegX
import Derived.Deep.DeepCutAuto
import Derived.Deep.CutBlock
import Derived.Deep.LoopGhost
import Derived.Deep.QuietTactic
import Derived.BigQuiet
import Derived.IntWalk
import Derived.WalkLawsBesides
namespace Go.Proofs.YtcdlgjhdbmmomaaGreatDoor
open Go.ChangeShapes Go.WideShapes Go.ChangeAt Go.RowKit Go.Joins
open Go.ChangeMaps (open_string)
set_option maxHeartbeats 8000000 in
set_option maxRecDepth 100000 in
theorem mapCapped_walk (l : List RawI) (A : Option Addr) (c : Nat) (n : Int) (hn : N64 n) (w : World) (hT : Tabs w) (hW : TlyW w) (hR : RdR w w.heap.size A l) (hl : l.length ≤ 140737488355328) (hc : l.length ≤ c) :
    Calls Tryz.prog 4 #[.slice A l.length c, .int .i64 n] w fun e w' => e = .returned (.bool true) ∧ Below w.heap.size w w' := by
  have HTT := Lib.hid (tallyTells_any w hT hW)
  have HFW := Lib.hid (fun W (h : Below w.heap.size w W) => flowed_any l A c W (hT.below h) ((hR.below h).more h.size) hc hl)
  have HW := Lib.hid hW
  obtain ⟨ll, hll⟩ : ∃ z, l.length = z := ⟨_, rfl⟩
  rw [hll] at HFW hc hl ⊢
  clear hT hW hR hll
  go_enter Tryz.func4, Tryz.ntmps4
  go_wp2_with fail
  refine HTT.out.mono ?_
  rintro e w0 ⟨rfl, hb0⟩
  have HB0 := Lib.hid hb0
  have HFW0 := Lib.hid (HFW.out w0 hb0)
  clear hb0 HFW HTT
  go_wp2_with fail
  refine HFW0.out.mono ?_
  rintro e w1 ⟨hb1', m, v, d, xA, yA, zA, xc, yc, zc, rfl, hst⟩
  have hb1 := HB0.out.trans (hb1'.mono HB0.out.size)
  have HB1 := Lib.hid hb1
  have HST := Lib.hid hst
  obtain ⟨tA, tc, fA, fc, bA, bc, dA, dc, lA, lc⟩ := v
  unfold Img.val flowV
  simp only
  obtain ⟨T, hTe⟩ : ∃ z, m.text.length = z := ⟨_, rfl⟩
  obtain ⟨NF, hNF⟩ : ∃ z, m.funcs.length = z := ⟨_, rfl⟩
  obtain ⟨nb, hnb⟩ : ∃ z, m.tables.length = z := ⟨_, rfl⟩
  obtain ⟨nd, hnd⟩ : ∃ z, m.data.length = z := ⟨_, rfl⟩
  obtain ⟨nl, hnl⟩ : ∃ z, m.lines.length = z := ⟨_, rfl⟩
  obtain ⟨NB, hNB⟩ : ∃ z, d.blocks.length = z := ⟨_, rfl⟩
  obtain ⟨nt, hnt⟩ : ∃ z, d.tables.length = z := ⟨_, rfl⟩
  obtain ⟨nz, hnz⟩ : ∃ z, d.firsts.length = z := ⟨_, rfl⟩
  have HMO := Lib.hid hst.mapOk
  have HNS := Lib.hid (And.intro hNB (And.intro hnt hnz))
  have HFV : Hid (#[.slice xA NB xc, .slice yA nt yc, .slice zA nz zc] = flowV d xA yA zA xc yc zc) := Lib.hid (by unfold flowV; rw [hNB, hnt, hnz])
  rw [hTe, hNF, hnb, hnd, hnl, hNB, hnt, hnz]
  clear hTe hNF hnb hnd hnl hNB hnt hnz hb1 hb1' hst HFW0
  go_upto_region 4 with fail
  obtain ⟨X, hX⟩ : ∃ X, w1.alloc (.cells #[.slice tA T tc, .slice fA NF fc, .slice bA nb bc, .slice dA nd dc, .slice lA nl lc, .int .i64 m.entry] 30) = X := ⟨_, rfl⟩
  rw [hX]
  have hbX : Below w1.heap.size w1 X := by rw [← hX]; exact (Below.refl _ _).alloc (Nat.le_refl _) _
  have hxs : X.heap.size = w1.heap.size + 1 := by rw [← hX]; simp
  obtain ⟨Y, hY⟩ : ∃ Y, X.alloc (.cells #[.slice xA NB xc, .slice yA nt yc, .slice zA nz zc] 33) = Y := ⟨_, rfl⟩
  rw [hY]
  have hfY : Blk Y (w1.heap.size + 1) 33 [.slice xA NB xc, .slice yA nt yc, .slice zA nz zc] := by rw [← hY, ← hxs]; exact Blk.new X _ _
  have hbY : Below X.heap.size X Y := by rw [← hY]; exact (Below.refl _ _).alloc (Nat.le_refl _) _
  have HWY := Lib.hid (hbX.trans (hbY.mono hbX.size))
  obtain ⟨BX, hBX⟩ : ∃ z, w1.heap.size = z := ⟨_, rfl⟩
  rw [hBX] at hfY ⊢
  have HFY := Lib.hid hfY
  have f0 := hfY.cell 0 rfl
  have f1 := hfY.cell 1 rfl
  have f2 := hfY.cell 2 rfl
  have fl := hfY.lt
  clear hX hY hbX hxs hbY hBX hfY
  have hpk := pickL_bd n 100 (by decide)
  have HPK := Lib.hid (fun W => picked_any n 100 W hn.1 hn.2 (by decide) (by decide))
  obtain ⟨p0, hp0⟩ : ∃ z, pickL n 100 = z := ⟨_, rfl⟩
  rw [hp0] at HPK hpk
  have hpb := hpk
  have HW6 := HWY
  have HB6 := Lib.hid (HB1.out.trans (HWY.out.mono HB1.out.size))
  have HFT := Lib.hid (HST.out.flow.below HWY.out)
  have HIX := Lib.hid (idx_blk Y HFT.out NB HNS.out.1 (by have := HMO.out.few; have := HNS.out.1; omega))
  have HMPR : Hid (∀ W A9 c9 (L : List EdgE), Below Y.heap.size Y W → (∀ e ∈ L, N64 e.a ∧ N64 e.b ∧ N64 e.c) → L.length ≤ 100 → RdG W W.heap.size A9 (edL L) → ∀ n, L.length = n → Calls Tryz.prog 16 #[.agg #[.slice xA NB xc, .slice yA nt yc, .slice zA nz zc], .slice A9 n c9] W (MapPost W d L)) := Lib.hid fun W A9 c9 L hW hm hl hr n hn => by
    have h := map_any W (HFT.out.below hW) HMO.out L A9 c9 hr (by omega) hm
    rw [hn, ← HFV.out] at h
    exact h
  clear hp0 hpk
  go_wp2_with fail
  refine HIX.out.mono ?_
  rintro e w2 ⟨hb2, hr⟩
  have HB2 := Lib.hid hb2
  have HBW2 := Lib.hid (HB6.out.trans (hb2.mono HB6.out.size))
  have HF2 := Lib.hid (HFY.out.keep hb2)
  clear hb2 f0 f1 f2 fl
  rcases hr with rfl | ⟨k, b, rfl, hb, hgo⟩
  · go_wp2_with fail
    go_ret
    exact ⟨rfl, HBW2.out⟩
  · have hends : b.ends = 2 ∨ b.ends = 3 := by
      unfold goB at hgo
      rw [Bool.or_eq_true, decide_eq_true_eq, decide_eq_true_eq] at hgo
      exact hgo
    have htal := HST.out.tal
    obtain ⟨⟨hal, -⟩, hats, hsb, hdst, -⟩ := htal.blk k b hb
    have hdst := hdst (by omega)
    have hkl := (List.getElem?_eq_some_iff.1 hb).1
    obtain ⟨tn, htn⟩ := Int.eq_ofNat_of_zero_le hdst.1
    have htl : tn < d.blocks.length := by omega
    have ht : d.blocks[b.dst.toNat]? = some (d.blocks[tn]'htl) := by rw [htn, Int.toNat_natCast]; exact List.getElem?_eq_getElem htl
    generalize d.blocks[tn]'htl = tb at ht
    have HWK := Lib.hid (HST.out.way hb hends ht)
    rw [htn, Int.toNat_natCast] at ht
    obtain ⟨v, g, o, hxA, hg, hbr, hcs⟩ := (HFT.out.below HB2.out).at hb
    obtain ⟨v2, g2, o2, hxA2, -, -, hcs2⟩ := (HFT.out.below HB2.out).at ht
    rw [hxA] at hxA2
    injection hxA2 with hxA2
    injection hxA2 with e1 e2
    subst e1 e2
    have s1 := hcs2 1 _ rfl
    have hkNB : k < NB := by have := HNS.out.1; omega
    have htNB : tn < NB := by have := HNS.out.1; omega
    obtain ⟨bf, bst, bco, bat, ⟨lk, lld, la, lb, ln, llb⟩, ben, bds, bel, bli⟩ := b
    obtain ⟨cA, cc, aA, ac, liA, lic⟩ := v
    have hbrA := hbr.2.1
    simp only at hal hats hends htn hbrA HWK
    subst htn
    obtain ⟨na, hna⟩ : ∃ z, bat.length = z := ⟨_, rfl⟩
    obtain ⟨nk, rfl⟩ : ∃ q, na = q + 1 := ⟨na - 1, by omega⟩
    obtain ⟨na, hnae⟩ : ∃ z, nk + 1 = z := ⟨_, rfl⟩
    rw [hnae] at hna
    have hlast : bat[nk]? = some (bat[nk]'(by omega)) := List.getElem?_eq_getElem _
    obtain ⟨at_, hat⟩ : ∃ z, bat[nk]'(by omega) = z := ⟨_, rfl⟩
    rw [hat] at hlast
    obtain ⟨ab, ao, hab, habl, hac⟩ := hbrA.1.at (intsV_at .i64 hlast)
    have hacap : na ≤ ac := by have h := hbrA.2.1; rw [hna] at h; exact h
    have hna1600 : na ≤ 1600 := by have h := (htal.blk k _ hb).1.2; simp only at h; omega
    have hwk := HWK.out
    rw [hna, show na - 1 = nk by omega, getDz hlast] at hwk
    obtain ⟨NC, hNC⟩ : ∃ z, bco.length = z := ⟨_, rfl⟩
    obtain ⟨NL, hNL⟩ : ∃ z, bli.length = z := ⟨_, rfl⟩
    obtain ⟨ts, hts⟩ : ∃ z, tb.start = z := ⟨_, rfl⟩
    rw [hts] at hwk s1
    obtain ⟨cnt, hcnt⟩ : ∃ z, 1073741824 - p0 = z := ⟨_, rfl⟩
    have qc : IntKind.i64.wrap (1073741824 - p0) = cnt := by rw [IntWalk.i64_in _ (by omega)]; exact hcnt
    have HWAY := Lib.hid hwk
    have hmp3 := hwk.three (c := cnt) (by omega)
    have hmp0 := hwk.none
    have HMP3 := Lib.hid hmp3
    have HMP0 := Lib.hid hmp0
    have HCNT := Lib.hid (show 1073741724 ≤ cnt ∧ cnt ≤ 1073741824 by omega)
    have b0 := hcs 0 _ rfl
    have b1 := hcs 1 _ rfl
    have b2 := hcs 2 _ rfl
    have b3 := hcs 3 _ rfl
    have b4 := hcs 4 _ rfl
    have b5 := hcs 5 _ rfl
    have b6 := hcs 6 _ rfl
    have b7 := hcs 7 _ rfl
    have b8 := hcs 8 _ rfl
    have b9 := hcs 9 _ rfl
    have b10 := hcs 10 _ rfl
    have b11 := hcs 11 _ rfl
    have b12 := hcs 12 _ rfl
    have b13 := hcs 13 _ rfl
    simp only [hNC, hna, hNL, Nat.add_zero] at b0 b2 b3 b13
    rw [hab] at b3
    have hglw := hg
    have q0 := HF2.out.cell 0 rfl
    have ql := HF2.out.lt
    have hxcap := HFT.out.fst.2.2
    rw [HNS.out.1] at hxcap
    have hk0 : (0 : Int) ≤ (k : Int) := by omega
    have hk1 : (k : Int) < (NB : Int) := by omega
    have ht0 : (0 : Int) ≤ (tn : Int) := by omega
    have ht1 : (tn : Int) < (NB : Int) := by omega
    have hknn : ¬ (k : Int) < 0 := by omega
    have hnk0 : (0 : Int) ≤ (nk : Int) := by omega
    have hnk1 : (nk : Int) < (na : Int) := by omega
    have qn : IntKind.i64.wrap ((na : Int) - 1) = (nk : Int) := by rw [IntWalk.i64_in _ (by omega)]; omega
    subst hxA hab
    clear hb hgo hends hal hats hsb hdst hkl htl ht hbr hcs hcs2 hbrA hlast hat hna hnae hwk hmp3 hmp0 hNC hNL hts hcnt htal hkNB htNB hna1600 hg
    go_upto_region 8 with fail
    obtain ⟨Z, hZ⟩ : ∃ Z, w2.alloc (.cells #[.int .i64 bf, .int .i64 bst, .slice cA NC cc, .slice (some ⟨ab, ao, none⟩) na ac, .int .i64 lk, .int .i64 lld, .int .i64 la, .int .i64 lb, .int .i64 ln, .bool llb, .int .i64 ben, .int .i64 tn, .int .i64 bel, .slice liA NL lic] 54) = Z := ⟨_, rfl⟩
    rw [hZ]
    have hz : Blk Z w2.heap.size 54 [.int .i64 bf, .int .i64 bst, .slice cA NC cc, .slice (some ⟨ab, ao, none⟩) na ac, .int .i64 lk, .int .i64 lld, .int .i64 la, .int .i64 lb, .int .i64 ln, .bool llb, .int .i64 ben, .int .i64 tn, .int .i64 bel, .slice liA NL lic] := by rw [← hZ]; exact Blk.new w2 _ _
    have hbZ : Below w2.heap.size w2 Z := by rw [← hZ]; exact (Below.refl _ _).alloc (Nat.le_refl _) _
    have HYZ := Lib.hid (HB2.out.trans (hbZ.mono HB2.out.size))
    have HFZ := Lib.hid (HF2.out.keep hbZ)
    have HZB := Lib.hid (HBW2.out.trans (hbZ.mono HBW2.out.size))
    have s2 := (hbZ.cell (p := ⟨g, o + tn * 14 + 1, none⟩) hglw).trans s1
    have sl := Nat.lt_of_lt_of_le hglw hbZ.size
    have r2 := (hbZ.cell (p := ⟨ab, ao + nk, none⟩) habl).trans hac
    have rl := Nat.lt_of_lt_of_le habl hbZ.size
    have u0 := (hbZ.cell (p := ⟨BX + 1, 0, none⟩) ql).trans q0
    have ul := Nat.lt_of_lt_of_le ql hbZ.size
    obtain ⟨BZ, hBZ⟩ : ∃ z, w2.heap.size = z := ⟨_, rfl⟩
    rw [hBZ] at hz ⊢
    have HZ := Lib.hid hz
    have z3 := hz.cell 3 rfl
    have z11 := hz.cell 11 rfl
    have zl := hz.lt
    clear hZ hz hbZ hBZ q0 ql s1 hglw habl hac b0 b1 b2 b3 b4 b5 b6 b7 b8 b9 b10 b11 b12 b13
    go_cut [10] (fun s10 wx => ∃ z : Nat, s10 = .pointer (some ⟨z, 0, none⟩) ∧ Hid (Blk wx z 43 [.int .i64 at_, .int .i64 ts, .int .i64 cnt]) ∧ Hid (Below Z.heap.size Z wx))
    case first =>
      refine wp_region_W (fun w' => w'.cell? ⟨BZ, 3, none⟩ = some (.slice (some ⟨ab, ao, none⟩) na ac) ∧ w'.cell? ⟨BZ, 11, none⟩ = some (.int .i64 tn) ∧ w'.cell? ⟨BX + 1, 0, none⟩ = some (.slice (some ⟨g, o, none⟩) NB xc) ∧ w'.cell? ⟨g, o + tn * 14 + 1, none⟩ = some (.int .i64 ts) ∧ w'.cell? ⟨ab, ao + nk, none⟩ = some (.int .i64 at_)) 21 (by kernel_rfl) (by (try dsimp only); go_keep) (fun hHeld => ?_)
      have hbD : Below Z.heap.size Z Z.drew := (Below.refl _ _).drew
      refine wpW_take 0 (v := ?_) rfl (by kernel_rfl) (by kernel_rfl) (by kernel_rfl) (by kernel_rfl) (fun _ _ _ h => h) (Or.inl ⟨by rfl, ?_⟩) hHeld ?_
      rotate_left
      · intro w hSw
        try dsimp only at hSw
        go_simp
        try with_reducible rfl
      try simp only [Act.put, List.setIfInBounds_toArray, List.set_cons_zero, List.set_cons_succ]
      refine wpW_take 1 (v := ?_) rfl (by kernel_rfl) (by kernel_rfl) (by kernel_rfl) (by kernel_rfl) (fun _ _ _ h => h) (Or.inl ⟨by rfl, ?_⟩) hHeld ?_
      rotate_left
      · intro w hSw
        try dsimp only at hSw
        go_simp
        try with_reducible rfl
      try simp only [Act.put, List.setIfInBounds_toArray, List.set_cons_zero, List.set_cons_succ]
      refine wpW_take 2 (v := ?_) rfl (by kernel_rfl) (by kernel_rfl) (by kernel_rfl) (by kernel_rfl) (fun _ _ _ h => h) (Or.inl ⟨by rfl, ?_⟩) hHeld ?_
      rotate_left
      · intro w hSw
        try dsimp only at hSw
        go_simp
        try with_reducible rfl
      try simp only [Act.put, List.setIfInBounds_toArray, List.set_cons_zero, List.set_cons_succ]
      refine wpW_take 3 (v := ?_) rfl (by kernel_rfl) (by kernel_rfl) (by kernel_rfl) (by kernel_rfl) (fun _ _ _ h => h) (Or.inl ⟨by rfl, ?_⟩) hHeld ?_
      rotate_left
      · intro w hSw
        try dsimp only at hSw
        go_simp
        try with_reducible rfl
      try simp only [Act.put, List.setIfInBounds_toArray, List.set_cons_zero, List.set_cons_succ]
      refine wpW_take 4 (v := ?_) rfl (by kernel_rfl) (by kernel_rfl) (by kernel_rfl) (by kernel_rfl) (fun _ _ _ h => h) (Or.inl ⟨by rfl, ?_⟩) hHeld ?_
      rotate_left
      · intro w hSw
        try dsimp only at hSw
        go_simp
        try with_reducible rfl
      try simp only [Act.put, List.setIfInBounds_toArray, List.set_cons_zero, List.set_cons_succ]
      refine wpW_take 5 (v := ?_) rfl (by kernel_rfl) (by kernel_rfl) (by kernel_rfl) (by kernel_rfl) (fun _ _ _ h => h) (Or.inl ⟨by rfl, ?_⟩) hHeld ?_
      rotate_left
      · intro w hSw
        try dsimp only at hSw
        go_simp
        try with_reducible rfl
      try simp only [Act.put, List.setIfInBounds_toArray, List.set_cons_zero, List.set_cons_succ]
      refine wpW_take 6 (v := ?_) rfl (by kernel_rfl) (by kernel_rfl) (by kernel_rfl) (by kernel_rfl) (fun _ _ _ h => h) (Or.inl ⟨by rfl, ?_⟩) hHeld ?_
      rotate_left
      · intro w hSw
        try dsimp only at hSw
        go_simp
        try with_reducible rfl
      try simp only [Act.put, List.setIfInBounds_toArray, List.set_cons_zero, List.set_cons_succ]
      refine wpW_take 7 (v := ?_) rfl (by kernel_rfl) (by kernel_rfl) (by kernel_rfl) (by kernel_rfl) (fun _ _ _ h => h) (Or.inl ⟨by rfl, ?_⟩) hHeld ?_
      rotate_left
      · intro w hSw
        try dsimp only at hSw
        go_simp
        try with_reducible rfl
      try simp only [Act.put, List.setIfInBounds_toArray, List.set_cons_zero, List.set_cons_succ]
      refine wpW_take 8 (v := ?_) rfl (by kernel_rfl) (by kernel_rfl) (by kernel_rfl) (by kernel_rfl) (fun _ _ _ h => h) (Or.inl ⟨by rfl, ?_⟩) hHeld ?_
      rotate_left
      · intro w hSw
        try dsimp only at hSw
        go_simp
        try with_reducible rfl
      try simp only [Act.put, List.setIfInBounds_toArray, List.set_cons_zero, List.set_cons_succ]
      refine wpW_take 9 (v := ?_) rfl (by kernel_rfl) (by kernel_rfl) (by kernel_rfl) (by kernel_rfl) (fun _ _ _ h => h) (Or.inl ⟨by rfl, ?_⟩) hHeld ?_
      rotate_left
      · intro w hSw
        try dsimp only at hSw
        go_simp
        try with_reducible rfl
      try simp only [Act.put, List.setIfInBounds_toArray, List.set_cons_zero, List.set_cons_succ]
      refine wpW_take 10 (v := ?_) rfl (by kernel_rfl) (by kernel_rfl) (by kernel_rfl) (by kernel_rfl) (fun _ _ _ h => h) (Or.inl ⟨by rfl, ?_⟩) hHeld ?_
      rotate_left
      · intro w hSw
        try dsimp only at hSw
        go_simp
        try with_reducible rfl
      try simp only [Act.put, List.setIfInBounds_toArray, List.set_cons_zero, List.set_cons_succ]
      refine wpW_take 11 (v := ?_) rfl (by kernel_rfl) (by kernel_rfl) (by kernel_rfl) (by kernel_rfl) (fun _ _ _ h => h) (Or.inl ⟨by rfl, ?_⟩) hHeld ?_
      rotate_left
      · intro w hSw
        try dsimp only at hSw
        go_simp
        try with_reducible rfl
      try simp only [Act.put, List.setIfInBounds_toArray, List.set_cons_zero, List.set_cons_succ]
      refine wpW_take 12 (v := ?_) rfl (by kernel_rfl) (by kernel_rfl) (by kernel_rfl) (by kernel_rfl) (fun _ _ _ h => h) (Or.inl ⟨by rfl, ?_⟩) hHeld ?_
      rotate_left
      · intro w hSw
        try dsimp only at hSw
        go_simp
        try with_reducible rfl
      try simp only [Act.put, List.setIfInBounds_toArray, List.set_cons_zero, List.set_cons_succ]
      refine wpW_take 13 (v := ?_) rfl (by kernel_rfl) (by kernel_rfl) (by kernel_rfl) (by kernel_rfl) (fun _ _ _ h => h) (Or.inl ⟨by rfl, ?_⟩) hHeld ?_
      rotate_left
      · intro w hSw
        try dsimp only at hSw
        go_simp
        try with_reducible rfl
      try simp only [Act.put, List.setIfInBounds_toArray, List.set_cons_zero, List.set_cons_succ]
      refine wpW_take 14 (v := ?_) rfl (by kernel_rfl) (by kernel_rfl) (by kernel_rfl) (by kernel_rfl) (fun _ _ _ h => h) (Or.inl ⟨by rfl, ?_⟩) hHeld ?_
      rotate_left
      · intro w hSw
        try dsimp only at hSw
        go_simp
        try with_reducible rfl
      try simp only [Act.put, List.setIfInBounds_toArray, List.set_cons_zero, List.set_cons_succ]
      refine wpW_take 15 (v := ?_) rfl (by kernel_rfl) (by kernel_rfl) (by kernel_rfl) (by kernel_rfl) (fun _ _ _ h => h) (Or.inl ⟨by rfl, ?_⟩) hHeld ?_
      rotate_left
      · intro w hSw
        try dsimp only at hSw
        go_simp
        try with_reducible rfl
      try simp only [Act.put, List.setIfInBounds_toArray, List.set_cons_zero, List.set_cons_succ]
      refine wpW_all [16, 19] (by kernel_rfl) (by simp) ?_
      refine AllW.cons (i := 16) rfl (fun K hK => ?_) ?_
      · skip
        go_simp
        refine (HPK.out _).mono ?_
        rintro e wq ⟨rfl, rfl⟩
        refine hK.out _ _ (by (try dsimp only); go_keep) (fun hHeld => ?_)
        clear hK K
        try simp only [Act.put, List.setIfInBounds_toArray, List.set_cons_zero, List.set_cons_succ]
        refine wpW_take 17 (v := ?_) rfl (by kernel_rfl) (by kernel_rfl) (by kernel_rfl) (by kernel_rfl) (fun _ _ _ h => h) (Or.inl ⟨by rfl, ?_⟩) hHeld ?_
        rotate_left
        · intro w hSw
          try dsimp only at hSw
          go_simp
          try with_reducible rfl
        try simp only [Act.put, List.setIfInBounds_toArray, List.set_cons_zero, List.set_cons_succ]
        refine wpW_take 18 (v := ?_) rfl (by kernel_rfl) (by kernel_rfl) (by kernel_rfl) (by kernel_rfl) (fun _ _ _ h => h) (Or.inl ⟨by rfl, ?_⟩) hHeld ?_
        rotate_left
        · intro w hSw
          try dsimp only at hSw
          go_simp
          try with_reducible rfl
        try simp only [Act.put, List.setIfInBounds_toArray, List.set_cons_zero, List.set_cons_succ]
        refine wpW_one 19 rfl (by kernel_rfl) (fun K hK => ?_)
        go_simp
        have zb0 : Blk (Z.alloc (.cells #[.int .i64 0, .int .i64 0, .int .i64 0] 43)).drew (Z.heap.size) 43 [.int .i64 0, .int .i64 0, .int .i64 0] := Blk.drew (Blk.new Z _ _)
        have hbA : Below Z.heap.size Z (Z.alloc (.cells #[.int .i64 0, .int .i64 0, .int .i64 0] 43)).drew := ((Below.refl _ _).alloc (Nat.le_refl _) _).drew
        refine hK.out _ _ (by (try dsimp only); go_keep) (fun hHeld => ?_)
        clear hK K
        try simp only [Act.put, List.setIfInBounds_toArray, List.set_cons_zero, List.set_cons_succ]
        refine wpW_one 20 rfl (by kernel_rfl) (fun K hK => ?_)
        go_simp
        refine hK.out _ _ (by (try dsimp only); go_keep) (fun hHeld => ?_)
        clear hK K
        try simp only [Act.put, List.setIfInBounds_toArray, List.set_cons_zero, List.set_cons_succ]
        refine wpW_done (by kernel_rfl) ?_ _
        go_wp2
        go_meet
        exact ⟨_, rfl, Lib.hid (Blk.drew (Blk.new Z _ _)), Lib.hid ((Below.refl Z.heap.size Z).alloc (Nat.le_refl _) (.cells #[.int .i64 at_, .int .i64 ts, .int .i64 cnt] 43)).drew⟩
      refine AllW.cons (i := 19) rfl (fun K hK => ?_) AllW.nil
      go_simp
      have zb0 : Blk (Z.alloc (.cells #[.int .i64 0, .int .i64 0, .int .i64 0] 43)).drew (Z.heap.size) 43 [.int .i64 0, .int .i64 0, .int .i64 0] := Blk.drew (Blk.new Z _ _)
      have hbA : Below Z.heap.size Z (Z.alloc (.cells #[.int .i64 0, .int .i64 0, .int .i64 0] 43)).drew := ((Below.refl _ _).alloc (Nat.le_refl _) _).drew
      refine hK.out _ _ (by (try dsimp only); go_keep) (fun hHeld => ?_)
      clear hK K
      try simp only [Act.put, List.setIfInBounds_toArray, List.set_cons_zero, List.set_cons_succ]
      refine wpW_one 16 rfl (by kernel_rfl) (fun K hK => ?_)
      go_simp
      refine (HPK.out _).mono ?_
      rintro e wq ⟨rfl, rfl⟩
      refine hK.out _ _ (by (try dsimp only); go_keep) (fun hHeld => ?_)
      clear hK K
      try simp only [Act.put, List.setIfInBounds_toArray, List.set_cons_zero, List.set_cons_succ]
      refine wpW_take 17 (v := ?_) rfl (by kernel_rfl) (by kernel_rfl) (by kernel_rfl) (by kernel_rfl) (fun _ _ _ h => h) (Or.inl ⟨by rfl, ?_⟩) hHeld ?_
      rotate_left
      · intro w hSw
        try dsimp only at hSw
        go_simp
        try with_reducible rfl
      try simp only [Act.put, List.setIfInBounds_toArray, List.set_cons_zero, List.set_cons_succ]
      refine wpW_take 18 (v := ?_) rfl (by kernel_rfl) (by kernel_rfl) (by kernel_rfl) (by kernel_rfl) (fun _ _ _ h => h) (Or.inl ⟨by rfl, ?_⟩) hHeld ?_
      rotate_left
      · intro w hSw
        try dsimp only at hSw
        go_simp
        try with_reducible rfl
      try simp only [Act.put, List.setIfInBounds_toArray, List.set_cons_zero, List.set_cons_succ]
      refine wpW_one 20 rfl (by kernel_rfl) (fun K hK => ?_)
      go_simp
      refine hK.out _ _ (by (try dsimp only); go_keep) (fun hHeld => ?_)
      clear hK K
      try simp only [Act.put, List.setIfInBounds_toArray, List.set_cons_zero, List.set_cons_succ]
      refine wpW_done (by kernel_rfl) ?_ _
      go_wp2
      go_meet
      exact ⟨_, rfl, Lib.hid (Blk.drew (Blk.new Z _ _)), Lib.hid ((Below.refl Z.heap.size Z).alloc (Nat.le_refl _) (.cells #[.int .i64 at_, .int .i64 ts, .int .i64 cnt] 43)).drew⟩
    case rest =>
      obtain ⟨z, rfl, HE, HBX⟩ := hcut
      rename World => wx
      have HYX := Lib.hid (HYZ.out.trans (HBX.out.mono HYZ.out.size))
      have HFX := Lib.hid (HFZ.out.keep HBX.out)
      have HZX := Lib.hid (HZ.out.keep HBX.out)
      have HBWX := Lib.hid (HZB.out.trans (HBX.out.mono HZB.out.size))
      have e0 := HE.out.cell 0 rfl
      have e1 := HE.out.cell 1 rfl
      have e2 := HE.out.cell 2 rfl
      have el := HE.out.lt
      have f0 := HFX.out.cell 0 rfl
      have f1 := HFX.out.cell 1 rfl
      have f2 := HFX.out.cell 2 rfl
      have fl := HFX.out.lt
      clear z3 z11 zl s2 sl r2 rl u0 ul qn qc
      have hN3 : ∀ e ∈ ([⟨at_, ts, cnt⟩, ⟨at_, ts, cnt⟩, ⟨at_, ts, cnt⟩] : List EdgE), N64 e.a ∧ N64 e.b ∧ N64 e.c := fun e he => by
        simp only [List.mem_cons, List.not_mem_nil, or_false, or_self] at he
        subst he
        have h1 := HWAY.out.bd
        have h2 := HCNT.out
        exact ⟨⟨by dsimp only; omega, by dsimp only; omega⟩, ⟨by dsimp only; omega, by dsimp only; omega⟩, ⟨by dsimp only; omega, by dsimp only; omega⟩⟩
      have HM1 : Hid (Calls Tryz.prog 16 #[.agg #[.slice (some ⟨g, o, none⟩) NB xc, .slice yA nt yc, .slice zA nz zc], .slice (some ⟨wx.heap.size, 0, none⟩) 3 3] (wx.alloc (.cells #[.int .i64 at_, .int .i64 ts, .int .i64 cnt, .int .i64 at_, .int .i64 ts, .int .i64 cnt, .int .i64 at_, .int .i64 ts, .int .i64 cnt] 43)) (MapPost (wx.alloc (.cells #[.int .i64 at_, .int .i64 ts, .int .i64 cnt, .int .i64 at_, .int .i64 ts, .int .i64 cnt, .int .i64 at_, .int .i64 ts, .int .i64 cnt] 43)) d [⟨at_, ts, cnt⟩, ⟨at_, ts, cnt⟩, ⟨at_, ts, cnt⟩])) := Lib.hid (HMPR.out _ _ 3 [⟨at_, ts, cnt⟩, ⟨at_, ts, cnt⟩, ⟨at_, ts, cnt⟩] (HYX.out.trans (((Below.refl wx.heap.size wx).alloc (Nat.le_refl _) _).mono HYX.out.size)) hN3 (by simp) (blk_rdg (Blk.new wx _ _)) 3 rfl)
      have HBA : Hid (Below wx.heap.size wx (wx.alloc (.cells #[.int .i64 at_, .int .i64 ts, .int .i64 cnt, .int .i64 at_, .int .i64 ts, .int .i64 cnt, .int .i64 at_, .int .i64 ts, .int .i64 cnt] 43))) := Lib.hid ((Below.refl _ _).alloc (Nat.le_refl _) _)
      clear hN3
      go_wp2_with fail
      refine HM1.out.mono ?_
      rintro e w5 ⟨hb5, -, hp5⟩
      obtain ⟨-, oA, oc, rfl, ho5⟩ := hp5 (by
        have h2 := HCNT.out
        simp [badC]
        omega)
      rw [HMP3.out] at ho5 ⊢
      have HO5 := Lib.hid ho5
      have hb5' := HBA.out.trans (hb5.mono HBA.out.size)
      have HX5 := Lib.hid hb5'
      have HY5 := Lib.hid (HYX.out.trans (hb5'.mono HYX.out.size))
      have HF5 := Lib.hid (HFX.out.keep hb5')
      have HE5 := Lib.hid (HE.out.keep hb5')
      have HB5 := Lib.hid (HBWX.out.trans (hb5'.mono HBWX.out.size))
      have hoc := own_le ho5
      clear hb5 hb5' hp5 ho5 e0 e1 e2 el f0 f1 f2 fl HM1 HBA
      have f0 := HF5.out.cell 0 rfl
      have f1 := HF5.out.cell 1 rfl
      have f2 := HF5.out.cell 2 rfl
      have fl := HF5.out.lt
      have HM2 : Hid (Calls Tryz.prog 16 #[.agg #[.slice (some ⟨g, o, none⟩) NB xc, .slice yA nt yc, .slice zA nz zc], .slice (some ⟨w5.heap.size, 0, none⟩) 1 1] (w5.alloc (.cells #[.int .i64 0, .int .i64 0, .int .i64 (-1)] 43)) (MapPost (w5.alloc (.cells #[.int .i64 0, .int .i64 0, .int .i64 (-1)] 43)) d [⟨0, 0, -1⟩])) := Lib.hid (HMPR.out _ _ 1 [⟨0, 0, -1⟩] (HY5.out.trans (((Below.refl w5.heap.size w5).alloc (Nat.le_refl _) _).mono HY5.out.size)) (fun e he => by
        rw [List.mem_singleton] at he
        subst he
        exact ⟨⟨by decide, by decide⟩, ⟨by decide, by decide⟩, ⟨by decide, by decide⟩⟩) (by decide) (blk_rdg (Blk.new w5 _ _)) 1 rfl)
      have HBA : Hid (Below w5.heap.size w5 (w5.alloc (.cells #[.int .i64 0, .int .i64 0, .int .i64 (-1)] 43))) := Lib.hid ((Below.refl _ _).alloc (Nat.le_refl _) _)
      go_wp2_with fail
      refine HM2.out.mono ?_
      rintro e w6 ⟨hb6, hp6, -⟩
      obtain rfl := hp6 (by decide)
      have hb6' := HBA.out.trans (hb6.mono HBA.out.size)
      have HX6 := Lib.hid hb6'
      have HY6 := Lib.hid (HY5.out.trans (hb6'.mono HY5.out.size))
      have HF6 := Lib.hid (HF5.out.keep hb6')
      have HE6 := Lib.hid (HE5.out.keep hb6')
      have HBW6 := Lib.hid (HB5.out.trans (hb6'.mono HB5.out.size))
      clear hb6 hb6' hp6 f0 f1 f2 fl HM2 HBA
      have e0 := HE6.out.cell 0 rfl
      have e1 := HE6.out.cell 1 rfl
      have el := HE6.out.lt
      have f0 := HF6.out.cell 0 rfl
      have f1 := HF6.out.cell 1 rfl
      have f2 := HF6.out.cell 2 rfl
      have fl := HF6.out.lt
      have HM3 : Hid (Calls Tryz.prog 16 #[.agg #[.slice (some ⟨g, o, none⟩) NB xc, .slice yA nt yc, .slice zA nz zc], .slice (some ⟨w6.heap.size, 0, none⟩) 2 2] (w6.alloc (.cells #[.int .i64 at_, .int .i64 ts, .int .i64 0, .int .i64 (-5), .int .i64 ts, .int .i64 1] 43)) (MapPost (w6.alloc (.cells #[.int .i64 at_, .int .i64 ts, .int .i64 0, .int .i64 (-5), .int .i64 ts, .int .i64 1] 43)) d [⟨at_, ts, 0⟩, ⟨-5, ts, 1⟩])) := Lib.hid (HMPR.out _ _ 2 [⟨at_, ts, 0⟩, ⟨-5, ts, 1⟩] (HY6.out.trans (((Below.refl w6.heap.size w6).alloc (Nat.le_refl _) _).mono HY6.out.size)) (fun e he => by
        have h1 := HWAY.out.bd
        simp only [List.mem_cons, List.not_mem_nil, or_false] at he
        rcases he with rfl | rfl
        · exact ⟨⟨by dsimp only; omega, by dsimp only; omega⟩, ⟨by dsimp only; omega, by dsimp only; omega⟩, ⟨by dsimp only; omega, by dsimp only; omega⟩⟩
        · exact ⟨⟨by dsimp only; omega, by dsimp only; omega⟩, ⟨by dsimp only; omega, by dsimp only; omega⟩, ⟨by dsimp only; omega, by dsimp only; omega⟩⟩) (by simp) (blk_rdg (Blk.new w6 _ _)) 2 rfl)
      have HBA : Hid (Below w6.heap.size w6 (w6.alloc (.cells #[.int .i64 at_, .int .i64 ts, .int .i64 0, .int .i64 (-5), .int .i64 ts, .int .i64 1] 43))) := Lib.hid ((Below.refl _ _).alloc (Nat.le_refl _) _)
      go_wp2_with fail
      refine HM3.out.mono ?_
      rintro e w7 ⟨hb7, -, hp7⟩
      obtain ⟨-, nA2, nc2, rfl, -⟩ := hp7 rfl
      rw [HMP0.out]
      have hb7' := HBA.out.trans (hb7.mono HBA.out.size)
      have HBW7 := Lib.hid (HBW6.out.trans (hb7'.mono HBW6.out.size))
      have hx7 := (HX5.out.trans (HX6.out.mono HX5.out.size)).trans (hb7'.mono (Nat.le_trans HX5.out.size HX6.out.size))
      have HZ7 := Lib.hid (HZX.out.keep hx7)
      have HO7 := Lib.hid (own_keep HO5.out (HX6.out.trans (hb7'.mono HX6.out.size)))
      clear hb7 hb7' hp7 hx7 e0 e1 el f0 f1 f2 fl HM3 HBA
      have z11 := HZ7.out.cell 11 rfl
      have zl := HZ7.out.lt
      have HEQ : Hid (Calls Tryz.prog 23 #[.slice oA 1 oc, .slice (some ⟨w7.heap.size, 0, none⟩) 1 1] (w7.alloc (.cells #[.int .i64 k, .int .i64 tn, .int .i64 1073741824] 43)) fun e w' => e = .returned (.bool true) ∧ ∃ q, w' = (w7.alloc (.cells #[.int .i64 k, .int .i64 tn, .int .i64 1073741824] 43)).drewN q) := Lib.hid (eqEdg_sameM [⟨(k : Int), tn, 1073741824⟩] oA (some ⟨w7.heap.size, 0, none⟩) 1 oc 1 _ (by
        have h := (own_rd3M HO7.out)
        exact ((h.below ((Below.refl w7.heap.size w7).alloc (Nat.le_refl _) _)).more (by simp))) (blk_rdg (Blk.new w7 _ _)) rfl (by decide))
      have HBA : Hid (Below w.heap.size w (w7.alloc (.cells #[.int .i64 k, .int .i64 tn, .int .i64 1073741824] 43))) := Lib.hid (HBW7.out.trans (((Below.refl w7.heap.size w7).alloc (Nat.le_refl _) _).mono HBW7.out.size))
      go_wp2_with fail
      refine HEQ.out.mono ?_
      rintro e w9 ⟨rfl, q9, rfl⟩
      go_wp2_with fail
      go_ret
      exact ⟨rfl, below_drewN HBA.out q9⟩
set_option maxRecDepth 100000 in
theorem mapCapped_contract (H : Type) (enc : TypeId × Value → H) (W : World) (base : Nat) (args : Array Value) (ds gs : List (DataW H)) (before : List MemPlace)
    (hval : ∀ (j : Nat) t v, Tryz.f4.params[j]? = some t → args[j]? = some v → Value.okWide Tryz.prog W .any base t v)
    (hW : DataW.Whole enc Tryz.prog Tryz.f4.params.toList Rows.mapCappedSpec.vars false W args.toList ds gs before) (hL : laidMetH Tryz.prog Rows.mapCappedRow.laid W) (hS : W.ShapedOpen Tryz.prog)
    (hz : (DataW.weightsEach Tryz.prog (Tryz.f4.params.toList ++ (OpenSpec.ofChange Rows.mapCappedSpec).bare.plain.varTypes Tryz.prog) (ds ++ gs)).all (· ≤ reachBytes) = true) :
    Calls Tryz.prog 4 args W fun e W' => ∃ v, e = .returned v ∧ Rows.mapCappedSpec.post enc Tryz.prog Tryz.f4 false true false false W args v W' := by
  have hT : TlyW W := tlyW_any hL hS
  have hT5 : Tabs W := tabs_any hL
  have hW0 := hW
  obtain ⟨p, q, hA0, hV, rfl, hfz, hnd⟩ := hW
  have hA : DataW.TrodAll enc Tryz.prog W 0 (fun _ => true) true Tryz.f4.params.toList args.toList ds p := hA0
  rw [Tryz.params4] at hA hval
  obtain ⟨v0, vs0, d0, ds0, p0, q0, hargs, rfl, rfl, h0, r0⟩ := trodAll_cons hA
  obtain ⟨v1, vs1, d1, ds1, p1, q1, rfl, rfl, rfl, h1, r1⟩ := trodAll_cons r0
  obtain ⟨rfl, rfl, rfl⟩ := trodAll_nil r1
  obtain rfl : args = #[v0, v1] := by cases args; simp_all
  obtain ⟨rfl, rfl⟩ := trodVars_none hV
  clear hA0
  obtain ⟨A, cap, L, rfl, hcap, hcm, hR, hd⟩ := open_raws (hval 0 22 v0 rfl rfl) h0
  obtain ⟨n, rfl, rfl, rfl, wn⟩ := open_int Tryz.underlying3 (hval 1 3 v1 rfl rfl) h1
  have hL : L.length ≤ 140737488355328 := by
    rcases hd with ⟨-, rfl, -⟩ | ⟨elems, spare, rfl, hl⟩
    · exact Nat.zero_le _
    · have h1 := sized_slice hz (j := 0) (t := 22) (by rw [Tryz.params4]; rfl) rfl Tryz.underlying22
      have h2 : Tryz.prog.bytesOf 85 = 32 := by kernel_rfl
      have h3 := reachBytes_lt
      rw [h2, hl] at h1
      omega
  refine (mapCapped_walk L A cap n (i64_of_wf wn) W hT5 hT hR hL hcap).mono fun e W' ⟨he, hb⟩ => ?_
  subst he
  exact ⟨_, rfl, law_post hW0 rfl rfl (by kernel_rfl) (by kernel_rfl) hb⟩
set_option maxRecDepth 100000 in
theorem mapCapped_met (os : Os) : laidMet Tryz.prog Rows.mapCappedRow.laid ((World.laidAll Tryz.prog os Rows.mapCappedRow.laid).forCall (fun _ _ => 0) ⟨#[], #[.slice none 0 0, .int .i64 0], []⟩).memory :=
  laidMet_laidAll _ (by kernel_rfl) (by kernel_rfl)
set_option maxRecDepth 100000 in
theorem mapCapped_reads (os : Os) {H : Type} (enc : TypeId × Value → H) : ∃ places, DataW.whole enc Tryz.prog ((World.laidAll Tryz.prog os Rows.mapCappedRow.laid).forCall (fun _ _ => 0) ⟨#[], #[.slice none 0 0, .int .i64 0], []⟩).memory Tryz.f4.params.toList Rows.mapCappedSpec.vars false (#[.slice none 0 0, .int .i64 0] : Array Value).toList 8 = some ([.nil, .lit (.int .i64 0)], [], places) :=
  ⟨[], by kernel_rfl⟩
set_option maxRecDepth 100000 in
theorem mapCapped_lifted (os : Os) (started : os.Started) (H : Type) (enc : TypeId × Value → H) (F : Stop.Interp) :
    ReturnsInHanded {} Tryz.checked os 4 .any ((OpenSpec.ofChange Rows.mapCappedSpec).preRow enc Tryz.prog Tryz.f4 Rows.mapCappedRow.domain false Rows.mapCappedRow.laid) (((OpenSpec.ofChange Rows.mapCappedSpec).at F).post enc Tryz.prog Tryz.f4 false true false false) := by
  obtain ⟨places, hx⟩ := mapCapped_reads os enc
  refine returnsInHanded_of_row (C := Tryz.checked) (s := OpenSpec.ofChange Rows.mapCappedSpec) ownP started (by kernel_rfl) Tryz.func4
    (witness_row_at (enc := enc) (C := Tryz.checked) false (World.laidAll Tryz.prog os Rows.mapCappedRow.laid) #[.slice none 0 0, .int .i64 0] (World.laidAll_os _ _ _) (by kernel_rfl) (by kernel_rfl) (by kernel_rfl)
      (OpenSpec.preRow_of_cond 8 hx (by kernel_rfl) (fun k hk => by cases hk) (by kernel_rfl) (mapCapped_met os))) ?_
  intro W base args ds gs before hval hW _ _ hreach hL hS _
  exact mapCapped_contract H enc W base args ds gs before hval hW hL hS hreach
set_option maxRecDepth 100000 in
theorem mapCapped_said : Rows.MapCappedSaid :=
  OpenClaim.holds_of_cond 4 Tryz.f4 rfl rfl rfl rfl rfl rfl rfl ⟨rfl, rfl, rfl, rfl, rfl⟩ rfl rfl rfl rfl rfl (by kernel_rfl) Tryz.func4 (by kernel_rfl)
    (of_decide_eq_true (by kernel_rfl)) (by unfold Func.isWrapper; first | (rw [if_pos (by decide +kernel)]; kernel_rfl) | (rw [if_neg (by decide +kernel)]; exact ⟨rfl, rfl⟩))
    (fun os started H enc _ F => by rw [OpenClaim.pre_eq_preRow]; exact mapCapped_lifted os started H enc F)
set_option maxRecDepth 100000 in
theorem mapCapped_plain (f : FuncId) (fn : Func) (hf : Tryz.pinned.checked.prog.funcNamed "bolthole/boltholekeep.MapCapped" = some f) (hfn : Tryz.pinned.checked.prog.funcs[f]? = some fn) :
    ∀ (j : Nat) t, fn.params[j]? = some t → Tryz.pinned.checked.prog.wantsStandIn t = false := by
  obtain rfl : f = 4 := Option.some.inj ((show Tryz.prog.funcNamed "bolthole/boltholekeep.MapCapped" = some 4 by kernel_rfl).symm.trans hf) |>.symm
  obtain rfl : fn = Tryz.f4 := (Option.some.inj (Tryz.func4.symm.trans hfn)).symm
  intro j t ht
  have hall : ∀ t ∈ Tryz.f4.params, Tryz.prog.wantsStandIn t = false := by
    rw [Tryz.params4]
    intro t ht
    simp only [List.mem_toArray, List.mem_cons, List.not_mem_nil, or_false] at ht
    rcases ht with rfl | rfl
    all_goals kernel_rfl
  exact hall t (Array.mem_of_getElem? ht)
set_option maxRecDepth 100000 in
theorem mapCapped_card : Rows.MapCappedCardSaid :=
  Claim7.holds_tied_plain_at .later [] _ _ _ _ mapCapped_said (fun _ h => by cases h) (by kernel_rfl) (fun _ h => by cases h) mapCapped_row_tie rfl ⟨rfl, rfl⟩ (by kernel_rfl) rfl (fun f fn hf hfn => ⟨by kernel_rfl, mapCapped_plain f fn hf hfn⟩) (by kernel_rfl)
end Go.Proofs.YtcdlgjhdbmmomaaGreatDoor
