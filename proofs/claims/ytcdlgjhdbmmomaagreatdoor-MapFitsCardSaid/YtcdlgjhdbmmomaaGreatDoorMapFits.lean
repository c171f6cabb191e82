/- The given statement on MapFits, proved. No condition of its own. -/
import Derived.Test.YtcdlgjhdbmmomaaGreatDoorMpT
import Derived.Test.YtcdlgjhdbmmomaaGreatDoorRegX
import Derived.Deep.DeepCutAuto
import Derived.Deep.CutBlock
import Derived.Deep.LoopGhost
import Derived.Deep.QuietTactic
import Derived.BigQuiet
import Derived.IntWalk
import Derived.WalkLawsBesides
namespace Go.Proofs.YtcdlgjhdbmmomaaGreatDoor
open Go.ChangeShapes Go.WideShapes Go.ChangeAt Go.RowKit Go.Joins
open Go.ChangeMaps (open_string)
set_option maxHeartbeats 8000000 in
set_option maxRecDepth 100000 in
theorem mapFits_walk (l : List RawI) (A : Option Addr) (c : Nat) (r : List RawI) (B : Option Addr) (rc : Nat) (w : World) (hT : Tabs w) (hW : TlyW w) (hR : RdR w w.heap.size A l) (hl : l.length ≤ 140737488355328) (hc : l.length ≤ c) (hR2 : RdR w w.heap.size B r) (hc2 : r.length ≤ rc) :
    Calls Tryz.prog 3 #[.slice A l.length c, .slice B r.length rc] w fun e w' => e = .returned (.bool true) ∧ Below w.heap.size w w' := by
  have HTT := Lib.hid (tallyTells_any w hT hW)
  have HFW := Lib.hid (fun W (h : Below w.heap.size w W) => flowed_any l A c W (hT.below h) ((hR.below h).more h.size) hc hl)
  have HW := Lib.hid hW
  have HR2 := Lib.hid hR2
  obtain ⟨rl, hrl⟩ : ∃ z, r.length = z := ⟨_, rfl⟩
  have HRL := Lib.hid hrl
  rw [hrl] at hc2 ⊢
  obtain ⟨ll, hll⟩ : ∃ z, l.length = z := ⟨_, rfl⟩
  rw [hll] at HFW hc hl ⊢
  clear hT hW hR hll hR2 hrl
  go_enter Tryz.func3, Tryz.ntmps3
  go_wp2_with fail
  refine HTT.out.mono ?_
  rintro e w0 ⟨rfl, hb0⟩
  have HB0 := Lib.hid hb0
  have HFW0 := Lib.hid (HFW.out w0 hb0)
  clear hb0 HFW HTT
  go_wp2_with fail
  refine HFW0.out.mono ?_
  rintro e w1 ⟨hb1', m, v, d, xA, yA, zA, xc, yc, zc, rfl, hst⟩
  have hb1 := HB0.out.trans (hb1'.mono HB0.out.size)
  have HB1 := Lib.hid hb1
  have HST := Lib.hid hst
  obtain ⟨tA, tc, fA, fc, bA, bc, dA, dc, lA, lc⟩ := v
  unfold Img.val flowV
  simp only
  obtain ⟨T, hTe⟩ : ∃ z, m.text.length = z := ⟨_, rfl⟩
  obtain ⟨NF, hNF⟩ : ∃ z, m.funcs.length = z := ⟨_, rfl⟩
  obtain ⟨nb, hnb⟩ : ∃ z, m.tables.length = z := ⟨_, rfl⟩
  obtain ⟨nd, hnd⟩ : ∃ z, m.data.length = z := ⟨_, rfl⟩
  obtain ⟨nl, hnl⟩ : ∃ z, m.lines.length = z := ⟨_, rfl⟩
  obtain ⟨NB, hNB⟩ : ∃ z, d.blocks.length = z := ⟨_, rfl⟩
  obtain ⟨nt, hnt⟩ : ∃ z, d.tables.length = z := ⟨_, rfl⟩
  obtain ⟨nz, hnz⟩ : ∃ z, d.firsts.length = z := ⟨_, rfl⟩
  obtain ⟨kq, hkq⟩ : ∃ z : Nat, min rl 40 = z := ⟨_, rfl⟩
  have hkl : (r.take kq).length = kq := by rw [List.length_take, HRL.out]; omega
  obtain ⟨ES, hES⟩ : ∃ z, (r.take kq).map (tlE d) = z := ⟨_, rfl⟩
  have hesl : ES.length = kq := by rw [← hES, List.length_map, hkl]
  have hall : ∀ e ∈ ES, EdgOk e := fun e he => by
    rw [← hES] at he
    obtain ⟨x, -, rfl⟩ := List.mem_map.1 he
    exact tlE_ok hst.tal x
  have HTA : Hid (∀ W, Below w1.heap.size w1 W → Calls Tryz.prog 15 #[.agg #[.slice xA NB xc, .slice yA nt yc, .slice zA nz zc], .slice B kq rc] W fun e w' => Below W.heap.size W w' ∧ ∃ S : ByteArray, e = .returned (.string S) ∧ S.data.toList = ES.flatMap fmtE) := Lib.hid fun W hW => by
    have hb := hb1.trans (hW.mono hb1.size)
    have h := tally_any W (HW.out.below hb) (hst.flow.below hW) hst.tal (r.take kq) B rc (((HR2.out.take kq).below hb).more hb.size) (by rw [hkl]; omega)
    unfold flowV at h
    rw [hNB, hnt, hnz, hkl, hES] at h
    exact h
  have HES := Lib.hid (And.intro hesl (And.intro hall (show kq ≤ 40 by omega)))
  have hmin : min (rl : Int) 40 = (kq : Int) := by omega
  have hkc : kq ≤ rc := by omega
  have hkll : kq ≤ rl := by omega
  have HMO := Lib.hid hst.mapOk
  have HNS := Lib.hid (And.intro hNB (And.intro hnt hnz))
  have HFV : Hid (#[.slice xA NB xc, .slice yA nt yc, .slice zA nz zc] = flowV d xA yA zA xc yc zc) := Lib.hid (by unfold flowV; rw [hNB, hnt, hnz])
  rw [hTe, hNF, hnb, hnd, hnl, hNB, hnt, hnz]
  clear hTe hNF hnb hnd hnl hNB hnt hnz hb1 hb1' hst HFW0 hkl hES hesl hall hkq
  go_upto_region 4 with fail
  obtain ⟨X, hX⟩ : ∃ X, w1.alloc (.cells #[.slice tA T tc, .slice fA NF fc, .slice bA nb bc, .slice dA nd dc, .slice lA nl lc, .int .i64 m.entry] 30) = X := ⟨_, rfl⟩
  rw [hX]
  have hbX : Below w1.heap.size w1 X := by rw [← hX]; exact (Below.refl _ _).alloc (Nat.le_refl _) _
  have hxs : X.heap.size = w1.heap.size + 1 := by rw [← hX]; simp
  obtain ⟨Y, hY⟩ : ∃ Y, X.alloc (.cells #[.slice xA NB xc, .slice yA nt yc, .slice zA nz zc] 33) = Y := ⟨_, rfl⟩
  rw [hY]
  have hfY : Blk Y (w1.heap.size + 1) 33 [.slice xA NB xc, .slice yA nt yc, .slice zA nz zc] := by rw [← hY, ← hxs]; exact Blk.new X _ _
  have hbY : Below X.heap.size X Y := by rw [← hY]; exact (Below.refl _ _).alloc (Nat.le_refl _) _
  have HWY := Lib.hid (hbX.trans (hbY.mono hbX.size))
  obtain ⟨BX, hBX⟩ : ∃ z, w1.heap.size = z := ⟨_, rfl⟩
  rw [hBX] at hfY ⊢
  have HFY := Lib.hid hfY
  have f0 := hfY.cell 0 rfl
  have f1 := hfY.cell 1 rfl
  have f2 := hfY.cell 2 rfl
  have fl := hfY.lt
  clear hX hY hbX hxs hbY hBX hfY
  refine wp_region_W (fun w' => w'.cell? ⟨BX + 1, 0, none⟩ = some (.slice xA NB xc) ∧ w'.cell? ⟨BX + 1, 1, none⟩ = some (.slice yA nt yc) ∧ w'.cell? ⟨BX + 1, 2, none⟩ = some (.slice zA nz zc)) 13 (by kernel_rfl) (by (try dsimp only); go_keep) (fun hHeld => ?_)
  refine wpW_take 0 (v := ?_) rfl (by kernel_rfl) (by kernel_rfl) (by kernel_rfl) (by kernel_rfl) (fun _ _ _ h => h) (Or.inl ⟨by rfl, ?_⟩) hHeld ?_
  rotate_left
  · intro w hSw
    try dsimp only at hSw
    go_simp
    try with_reducible rfl
  try simp only [Act.put, List.setIfInBounds_toArray, List.set_cons_zero, List.set_cons_succ]
  refine wpW_take 1 (v := ?_) rfl (by kernel_rfl) (by kernel_rfl) (by kernel_rfl) (by kernel_rfl) (fun _ _ _ h => h) (Or.inl ⟨by rfl, ?_⟩) hHeld ?_
  rotate_left
  · intro w hSw
    try dsimp only at hSw
    go_simp
    try with_reducible rfl
  try simp only [Act.put, List.setIfInBounds_toArray, List.set_cons_zero, List.set_cons_succ]
  refine wpW_take 2 (v := ?_) rfl (by kernel_rfl) (by kernel_rfl) (by kernel_rfl) (by kernel_rfl) (fun _ _ _ h => h) (Or.inl ⟨by rfl, ?_⟩) hHeld ?_
  rotate_left
  · intro w hSw
    try dsimp only at hSw
    go_simp
    try with_reducible rfl
  try simp only [Act.put, List.setIfInBounds_toArray, List.set_cons_zero, List.set_cons_succ]
  refine wpW_take 3 (v := ?_) rfl (by kernel_rfl) (by kernel_rfl) (by kernel_rfl) (by kernel_rfl) (fun _ _ _ h => h) (Or.inl ⟨by rfl, ?_⟩) hHeld ?_
  rotate_left
  · intro w hSw
    try dsimp only at hSw
    go_simp
    try with_reducible rfl
  try simp only [Act.put, List.setIfInBounds_toArray, List.set_cons_zero, List.set_cons_succ]
  refine wpW_take 4 (v := ?_) rfl (by kernel_rfl) (by kernel_rfl) (by kernel_rfl) (by kernel_rfl) (fun _ _ _ h => h) (Or.inl ⟨by rfl, ?_⟩) hHeld ?_
  rotate_left
  · intro w hSw
    try dsimp only at hSw
    go_simp
    try with_reducible rfl
  try simp only [Act.put, List.setIfInBounds_toArray, List.set_cons_zero, List.set_cons_succ]
  refine wpW_take 5 (v := ?_) rfl (by kernel_rfl) (by kernel_rfl) (by kernel_rfl) (by kernel_rfl) (fun _ _ _ h => h) (Or.inl ⟨by rfl, ?_⟩) hHeld ?_
  rotate_left
  · intro w hSw
    try dsimp only at hSw
    go_simp
    try with_reducible rfl
  try simp only [Act.put, List.setIfInBounds_toArray, List.set_cons_zero, List.set_cons_succ]
  refine wpW_one 6 rfl (by kernel_rfl) (fun K hK => ?_)
  go_simp
  refine (HTA.out _ (HWY.out.trans (((Below.refl Y.heap.size Y).drew).mono HWY.out.size))).mono ?_
  rintro e w5 ⟨hb5', S, rfl, hS⟩
  have hb5 : Below Y.heap.size Y w5 := ((Below.refl Y.heap.size Y).drew).trans hb5'
  have HB5 := Lib.hid (HB1.out.trans ((HWY.out.trans (hb5.mono HWY.out.size)).mono HB1.out.size))
  have HRE : Hid (Calls Tryz.prog 14 #[.string S] w5 (ReadPost w5 (.inr ES))) := Lib.hid (by
    have h := read_any S (by have h1 := (fmt_len ES HES.out.2.1).1; rw [← hS, bt_len] at h1; have h2 := HES.out; omega) w5 (HW.out.below HB5.out)
    rw [hS, readE_fmt ES HES.out.2.1 (by have := HES.out; omega)] at h
    exact h)
  have y0 : w5.cell? ⟨BX + 1, 0, none⟩ = some (.slice xA NB xc) := (hb5.cell (p := ⟨BX + 1, 0, none⟩) fl).trans f0
  have y1 : w5.cell? ⟨BX + 1, 1, none⟩ = some (.slice yA nt yc) := (hb5.cell (p := ⟨BX + 1, 1, none⟩) fl).trans f1
  have y2 : w5.cell? ⟨BX + 1, 2, none⟩ = some (.slice zA nz zc) := (hb5.cell (p := ⟨BX + 1, 2, none⟩) fl).trans f2
  have yl := Nat.lt_of_lt_of_le fl hb5.size
  clear hS
  refine hK.out _ _ (by (try dsimp only); exact ⟨y0, y1, y2⟩) (fun hHeld => ?_)
  clear hK K
  try simp only [Act.put, List.setIfInBounds_toArray, List.set_cons_zero, List.set_cons_succ]
  refine wpW_one 7 rfl (by kernel_rfl) (fun K hK => ?_)
  go_simp
  refine HRE.out.mono ?_
  rintro e w6 ⟨hb6', eA, ec, rfl, ho6⟩
  have HB6Y : Hid (Below Y.heap.size Y w6) := Lib.hid (hb5.trans (hb6'.mono hb5.size))
  have z0 : w6.cell? ⟨BX + 1, 0, none⟩ = some (.slice xA NB xc) := (hb6'.cell (p := ⟨BX + 1, 0, none⟩) yl).trans y0
  have z1 : w6.cell? ⟨BX + 1, 1, none⟩ = some (.slice yA nt yc) := (hb6'.cell (p := ⟨BX + 1, 1, none⟩) yl).trans y1
  have z2 : w6.cell? ⟨BX + 1, 2, none⟩ = some (.slice zA nz zc) := (hb6'.cell (p := ⟨BX + 1, 2, none⟩) yl).trans y2
  have HRD6 := Lib.hid (((own_rd3M ho6)))
  clear hb6' ho6 hb5 hb5'
  refine hK.out _ _ (by (try dsimp only); exact ⟨z0, z1, z2⟩) (fun hHeld => ?_)
  clear hK K
  try simp only [Act.put, List.setIfInBounds_toArray, List.set_cons_zero, List.set_cons_succ]
  refine wpW_take 8 (v := ?_) rfl (by kernel_rfl) (by kernel_rfl) (by kernel_rfl) (by kernel_rfl) (fun _ _ _ h => h) (Or.inl ⟨by rfl, ?_⟩) hHeld ?_
  rotate_left
  · intro w hSw
    try dsimp only at hSw
    go_simp
    try with_reducible rfl
  try simp only [Act.put, List.setIfInBounds_toArray, List.set_cons_zero, List.set_cons_succ]
  refine wpW_take 9 (v := ?_) rfl (by kernel_rfl) (by kernel_rfl) (by kernel_rfl) (by kernel_rfl) (fun _ _ _ h => h) (Or.inl ⟨by rfl, ?_⟩) hHeld ?_
  rotate_left
  · intro w hSw
    try dsimp only at hSw
    go_simp
    try with_reducible rfl
  try simp only [Act.put, List.setIfInBounds_toArray, List.set_cons_zero, List.set_cons_succ]
  refine wpW_take 10 (v := ?_) rfl (by kernel_rfl) (by kernel_rfl) (by kernel_rfl) (by kernel_rfl) (fun _ _ _ h => h) (Or.inl ⟨by rfl, ?_⟩) hHeld ?_
  rotate_left
  · intro w hSw
    try dsimp only at hSw
    go_simp
    try with_reducible rfl
  try simp only [Act.put, List.setIfInBounds_toArray, List.set_cons_zero, List.set_cons_succ]
  refine wpW_take 11 (v := ?_) rfl (by kernel_rfl) (by kernel_rfl) (by kernel_rfl) (by kernel_rfl) (fun _ _ _ h => h) (Or.inl ⟨by rfl, ?_⟩) hHeld ?_
  rotate_left
  · intro w hSw
    try dsimp only at hSw
    go_simp
    try with_reducible rfl
  try simp only [Act.put, List.setIfInBounds_toArray, List.set_cons_zero, List.set_cons_succ]
  refine wpW_take 12 (v := ?_) rfl (by kernel_rfl) (by kernel_rfl) (by kernel_rfl) (by kernel_rfl) (fun _ _ _ h => h) (Or.inl ⟨by rfl, ?_⟩) hHeld ?_
  rotate_left
  · intro w hSw
    try dsimp only at hSw
    go_simp
    try with_reducible rfl
  try simp only [Act.put, List.setIfInBounds_toArray, List.set_cons_zero, List.set_cons_succ]
  refine wpW_done (by kernel_rfl) ?_ _
  have HB6 := Lib.hid (HB1.out.trans ((HWY.out.trans (HB6Y.out.mono HWY.out.size)).mono HB1.out.size))
  have HF6 := Lib.hid (HFY.out.keep HB6Y.out)
  have HW6 := Lib.hid (HWY.out.trans (HB6Y.out.mono HWY.out.size))
  have hke : ES.length = kq ∧ kq ≤ 40 := by have := HES.out; omega
  have HN64 : Hid (∀ e ∈ ES, N64 e.a ∧ N64 e.b ∧ N64 e.c) := Lib.hid fun e he => by
    obtain ⟨h1, h2, h3⟩ := HES.out.2.1 e he
    exact ⟨⟨by omega, by omega⟩, ⟨by omega, by omega⟩, ⟨by omega, by omega⟩⟩
  have HBC : Hid (ES.any badC = false) := Lib.hid (by
    rw [List.any_eq_false]
    intro e he
    obtain ⟨h1, h2, h3⟩ := HES.out.2.1 e he
    simp only [badC, Bool.or_eq_true, decide_eq_true_eq, not_or]
    omega)
  have HMP := Lib.hid (fun W (h : Below w6.heap.size w6 W) => map_any W ((HST.out.flow.below HW6.out).below h) HMO.out ES eA ec ((HRD6.out.below h).more h.size) (by omega) HN64.out)
  rw [hke.1, ← HFV.out] at HMP
  rw [hke.1]
  clear hke
  clear f0 f1 f2 fl y0 y1 y2 yl
  have hfl := HF6.out.lt
  have HCL : Hid (∀ e ∈ ES, 0 ≤ e.c ∧ e.c ≤ 1073741824) := Lib.hid fun e he => (HES.out.2.1 e he).3
  go_wp2_with fail
  refine (HMP.out w6 (Below.refl _ _)).mono ?_
  rintro e w7 ⟨hb7, -, hp7⟩
  obtain ⟨hlen7, oA, oc, rfl, ho7⟩ := hp7 HBC.out
  obtain ⟨OL, hOL⟩ : ∃ z, mapL d ES = z := ⟨_, rfl⟩
  rw [hOL] at ho7 ⊢
  have HOL := Lib.hid hOL
  have HO7 := Lib.hid ho7
  have hocp := own_le ho7
  obtain ⟨no, hno⟩ : ∃ z, OL.length = z := ⟨_, rfl⟩
  have hno2 : no ≤ 40 := by rw [← hno, ← hOL]; have := HES.out; omega
  rw [hno] at hocp HO7 ⊢
  have HNO := Lib.hid hno
  have HB7 := Lib.hid (HB6.out.trans (hb7.mono HB6.out.size))
  have HF7 := Lib.hid (HF6.out.keep hb7)
  have HW7 := Lib.hid (HW6.out.trans (hb7.mono HW6.out.size))
  have HRO := Lib.hid (own_rd3M HO7.out)
  clear hb7 hp7 ho7 hOL hno hlen7 z0 z1 z2 hfl
  go_wp2_with fail
  go_loopg [43] no (fun gk s wr => ∃ i : Nat, i ≤ no ∧ s = .int .i64 i ∧ Hid (Below w7.heap.size w7 wr) ∧ no - i ≤ gk)
  case atStart => exact ⟨0, Nat.zero_le _, rfl, Below.refl _ _, Nat.le_refl _⟩
  case round =>
    obtain ⟨i, hi, rfl, HB, hgk⟩ := hrel
    have HFR := Lib.hid (HF7.out.keep HB.out)
    have f0 := HFR.out.cell 0 rfl
    have f1 := HFR.out.cell 1 rfl
    have f2 := HFR.out.cell 2 rfl
    have fl := HFR.out.lt
    by_cases hlt : i < no
    · have hltI : (i : Int) < (no : Int) := by omega
      have hi0 : (0 : Int) ≤ (i : Int) := by omega
      have hx : OL[i]? = some (OL[i]'(by have := HNO.out; omega)) := List.getElem?_eq_getElem _
      generalize OL[i]'(by have := HNO.out; omega) = x at hx
      have hro := (HRO.out.below HB.out)
      obtain ⟨b, o, hA, hbl, e0, e1, e2⟩ := hro.atE hx
      obtain ⟨x1, x2, x3, x4, x5, x6⟩ := mapL_mem (show x ∈ mapL d ES by rw [HOL.out]; exact List.mem_of_getElem? hx)
      obtain ⟨xf, xt, xq⟩ := x
      simp only at e0 e1 e2 x1 x2 x3 x4 x5 x6
      obtain ⟨k, rfl⟩ := Int.eq_ofNat_of_zero_le x1
      rw [Int.toNat_natCast] at x6
      have hkl : k < d.blocks.length := by omega
      have hblk : d.blocks[k]? = some (d.blocks[k]'hkl) := List.getElem?_eq_getElem _
      generalize d.blocks[k]'hkl = bq at hblk
      rw [getDz hblk] at x6
      obtain ⟨hfit, hcl, -, -, -⟩ := HMO.out.blk k bq hblk
      have HPV : Hid (0 < i → ∃ y : EdgD, OL[i - 1]? = some y ∧ ¬ (y.f = (k : Int) ∧ xt ≤ y.t)) := Lib.hid fun hp => by
        have hy : OL[i - 1]? = some (OL[i - 1]'(by have := HNO.out; omega)) := List.getElem?_eq_getElem _
        refine ⟨_, hy, ?_⟩
        have hs := outL_sorted d.blocks.length (cntS d ES ES.length)
        rw [show outL d.blocks.length (cntS d ES ES.length) = OL from HOL.out, List.pairwise_iff_getElem] at hs
        have h1 := hs (i - 1) i (by have := HNO.out; omega) (by have := HNO.out; omega) (by omega)
        have h2 : OL[i]'(by have := HNO.out; omega) = ⟨(k : Int), xt, xq⟩ := (List.getElem?_eq_some_iff.1 hx).2
        rw [h2] at h1
        unfold ltE at h1
        dsimp only at h1
        omega
      obtain ⟨NX, hNX⟩ : ∃ z, nextsL d bq = z := ⟨_, rfl⟩
      rw [hNX] at x6
      have HX6 := Lib.hid x6
      have hnxl : NX.length ≤ 1000 := by rw [← hNX]; exact nexts_small HMO.out bq
      have HNL := Lib.hid hnxl
      have HNX : Hid (∀ W, Below wr.heap.size wr W → Calls Tryz.prog 17 #[.agg #[.slice xA NB xc, .slice yA nt yc, .slice zA nz zc], .int .i64 k] W (NxtPost W NX)) := Lib.hid fun W hW => by
        have h := nexts_any d xA yA zA xc yc zc W (((HST.out.flow.below HW7.out).below HB.out).below hW) k bq hblk hfit hcl HMO.out.tab
        rw [hNX, ← HFV.out] at h
        exact h
      have hblw := Nat.lt_of_lt_of_le hbl HB.out.size
      have hq1 : (1 : Int) ≤ xq := by omega
      subst hA
      clear hx hro x1 x2 x3 x4 x5 x6 hkl hblk hfit hcl hNX hnxl hbl
      go_upto_region 9 with fail
      obtain ⟨Z, hZ⟩ : ∃ Z, wr.alloc (.cells #[.int .i64 k, .int .i64 xt, .int .i64 xq] 43) = Z := ⟨_, rfl⟩
      rw [hZ]
      have hz : Blk Z wr.heap.size 43 [.int .i64 k, .int .i64 xt, .int .i64 xq] := by rw [← hZ]; exact Blk.new wr _ _
      have hbZ : Below wr.heap.size wr Z := by rw [← hZ]; exact (Below.refl _ _).alloc (Nat.le_refl _) _
      obtain ⟨BZ, hBZ⟩ : ∃ z, wr.heap.size = z := ⟨_, rfl⟩
      have HNXZ := Lib.hid (HNX.out Z hbZ)
      have hbZ7 := HB.out.trans (hbZ.mono HB.out.size)
      have HBZ := Lib.hid hbZ7
      have HFZ := Lib.hid (HFR.out.keep hbZ)
      rw [hBZ] at hz ⊢
      have HZ := Lib.hid hz
      have g0 := HFZ.out.cell 0 rfl
      have g1 := HFZ.out.cell 1 rfl
      have g2 := HFZ.out.cell 2 rfl
      have gl := HFZ.out.lt
      have z0 := hz.cell 0 rfl
      have zl := hz.lt
      clear hZ hz hbZ hBZ hbZ7 f0 f1 f2 fl e0 e1 e2
      go_wp2_with fail
      refine HNXZ.out.mono ?_
      rintro e w3 ⟨nA, nc, rfl, hb3, ho3⟩
      have HCT := Lib.hid (fun x : Nat => (contains_any NX xt nA NX.length nc (w3.drewN x) (own_rd3M ho3) rfl (by have := HNL.out; omega)).mono fun e w' (h : e = _ ∧ w3.drewN x = w') => And.intro h.1 h.2.symm)
      rw [decide_eq_true HX6.out] at HCT
      have HB3 := Lib.hid (HBZ.out.trans (hb3.mono HBZ.out.size))
      have HZ3 := Lib.hid (HZ.out.keep hb3)
      obtain ⟨nx, hnx⟩ : ∃ z, NX.length = z := ⟨_, rfl⟩
      rw [hnx] at HCT ⊢
      have z0 := HZ3.out.cell 0 rfl
      have z1 := HZ3.out.cell 1 rfl
      have z2 := HZ3.out.cell 2 rfl
      have zl := HZ3.out.lt
      clear hb3 ho3 hnx g0 g1 g2 gl
      go_upto_region 10 with fail
      have q1 : ¬ xq < 1 := by omega
      have q1d : decide (xq < 1) = false := decide_eq_false q1
      by_cases hp : 0 < i
      · obtain ⟨y, hy, hyne⟩ := HPV.out hp
        obtain ⟨j, hj⟩ : ∃ j, i - 1 = j := ⟨_, rfl⟩
        rw [hj] at hy
        obtain ⟨b', o', hA', hbl', e0, e1, e2⟩ := (HRO.out.below HB3.out).atE hy
        injection hA' with hA'
        injection hA' with hA1 hA2
        subst hA1 hA2
        have hbl3 := Nat.lt_of_lt_of_le hbl' HB3.out.size
        have hpI : (0 : Int) < (i : Int) := by omega
        have hpd : decide ((0 : Int) < (i : Int)) = true := decide_eq_true hpI
        have hpd2 : decide (0 < i) = true := decide_eq_true hp
        have hj0 : (0 : Int) ≤ (j : Int) := by omega
        have hj1 : (j : Int) < (no : Int) := by omega
        have qj : IntKind.i64.wrap ((i : Int) - 1) = (j : Int) := by rw [IntWalk.i64_in _ (by omega)]; omega
        obtain ⟨yf, yt, yq⟩ := y
        simp only at e0 e1 e2 hyne
        clear hy hj hbl' hp
        by_cases hef : yf = (k : Int)
        · have hqf : (yf == (k : Int)) = true := by simpa using hef
          have hqt : ¬ yt ≥ xt := by omega
          have hqtd : decide (yt ≥ xt) = false := decide_eq_false hqt
          clear hef hyne
          go_quiet ((go_at_call 18; exact Calls.quiet_of_same (HCT.out _)))
          go_wp2_with fail
          go_roundg (no - (i + 1))
          case measure => omega
          case rel => exact ⟨i + 1, by omega, (by go_num), Lib.hid (below_drewN HB3.out _), Nat.le_refl _⟩
        · have hqf : (yf == (k : Int)) = false := by simpa using hef
          clear hef hyne
          go_quiet ((go_at_call 18; exact Calls.quiet_of_same (HCT.out _)))
          go_wp2_with fail
          go_roundg (no - (i + 1))
          case measure => omega
          case rel => exact ⟨i + 1, by omega, (by go_num), Lib.hid (below_drewN HB3.out _), Nat.le_refl _⟩
      · have hpI : ¬ (0 : Int) < (i : Int) := by omega
        have hpd : decide ((0 : Int) < (i : Int)) = false := decide_eq_false hpI
        have hpd2 : decide (0 < i) = false := decide_eq_false hp
        clear hp
        go_quiet ((go_at_call 18; exact Calls.quiet_of_same (HCT.out _)))
        go_wp2_with fail
        go_roundg (no - (i + 1))
        case measure => omega
        case rel => exact ⟨i + 1, by omega, (by go_num), Lib.hid (below_drewN HB3.out _), Nat.le_refl _⟩
    · obtain rfl : i = no := by omega
      have hltI : ¬ (i : Int) < (i : Int) := by omega
      have HCE := Lib.hid (edges_any OL oA oc NB wr ((HRO.out.below HB.out).more HB.out.size) (by rw [HNO.out]; exact hocp) (by rw [HNO.out]; omega))
      rw [show edgGo (NB : Int) none OL = 0 by rw [← HOL.out, ← HNS.out.1]; exact mapL_check HCL.out, HNO.out] at HCE
      have HBE := Lib.hid (HB7.out.trans (HB.out.mono HB7.out.size))
      clear hgk hi hlt
      go_wp2_with fail
      refine HCE.out.mono ?_
      rintro e w9 ⟨rfl, hb9⟩
      have HB9 := Lib.hid (HBE.out.trans (hb9.mono HBE.out.size))
      clear hb9
      go_wp2_with fail
      go_ret
      exact ⟨rfl, HB9.out⟩
set_option maxRecDepth 100000 in
theorem mapFits_contract (H : Type) (enc : TypeId × Value → H) (W : World) (base : Nat) (args : Array Value) (ds gs : List (DataW H)) (before : List MemPlace)
    (hval : ∀ (j : Nat) t v, Tryz.f3.params[j]? = some t → args[j]? = some v → Value.okWide Tryz.prog W .any base t v)
    (hW : DataW.Whole enc Tryz.prog Tryz.f3.params.toList Rows.mapFitsSpec.vars false W args.toList ds gs before) (hL : laidMetH Tryz.prog Rows.mapFitsRow.laid W) (hS : W.ShapedOpen Tryz.prog)
    (hz : (DataW.weightsEach Tryz.prog (Tryz.f3.params.toList ++ (OpenSpec.ofChange Rows.mapFitsSpec).bare.plain.varTypes Tryz.prog) (ds ++ gs)).all (· ≤ reachBytes) = true) :
    Calls Tryz.prog 3 args W fun e W' => ∃ v, e = .returned v ∧ Rows.mapFitsSpec.post enc Tryz.prog Tryz.f3 false true false false W args v W' := by
  have hT : TlyW W := tlyW_any hL hS
  have hT5 : Tabs W := tabs_any hL
  have hW0 := hW
  obtain ⟨p, q, hA0, hV, rfl, hfz, hnd⟩ := hW
  have hA : DataW.TrodAll enc Tryz.prog W 0 (fun _ => true) true Tryz.f3.params.toList args.toList ds p := hA0
  rw [Tryz.params3] at hA hval
  obtain ⟨v0, vs0, d0, ds0, p0, q0, hargs, rfl, rfl, h0, r0⟩ := trodAll_cons hA
  obtain ⟨v1, vs1, d1, ds1, p1, q1, rfl, rfl, rfl, h1, r1⟩ := trodAll_cons r0
  obtain ⟨rfl, rfl, rfl⟩ := trodAll_nil r1
  obtain rfl : args = #[v0, v1] := by cases args; simp_all
  obtain ⟨rfl, rfl⟩ := trodVars_none hV
  clear hA0
  obtain ⟨A, cap, L, rfl, hcap, hcm, hR, hd⟩ := open_raws (hval 0 22 v0 rfl rfl) h0
  obtain ⟨A2, cap2, L2, rfl, hcap2, hcm2, hR2, hd2⟩ := open_raws (hval 1 22 v1 rfl rfl) h1
  have hL : L.length ≤ 140737488355328 := by
    rcases hd with ⟨-, rfl, -⟩ | ⟨elems, spare, rfl, hl⟩
    · exact Nat.zero_le _
    · have h1 := sized_slice hz (j := 0) (t := 22) (by rw [Tryz.params3]; rfl) rfl Tryz.underlying22
      have h2 : Tryz.prog.bytesOf 85 = 32 := by kernel_rfl
      have h3 := reachBytes_lt
      rw [h2, hl] at h1
      omega
  refine (mapFits_walk L A cap L2 A2 cap2 W hT5 hT hR hL hcap hR2 hcap2).mono fun e W' ⟨he, hb⟩ => ?_
  subst he
  exact ⟨_, rfl, law_post hW0 rfl rfl (by kernel_rfl) (by kernel_rfl) hb⟩
set_option maxRecDepth 100000 in
theorem mapFits_met (os : Os) : laidMet Tryz.prog Rows.mapFitsRow.laid ((World.laidAll Tryz.prog os Rows.mapFitsRow.laid).forCall (fun _ _ => 0) ⟨#[], #[.slice none 0 0, .slice none 0 0], []⟩).memory :=
  laidMet_laidAll _ (by kernel_rfl) (by kernel_rfl)
set_option maxRecDepth 100000 in
theorem mapFits_reads (os : Os) {H : Type} (enc : TypeId × Value → H) : ∃ places, DataW.whole enc Tryz.prog ((World.laidAll Tryz.prog os Rows.mapFitsRow.laid).forCall (fun _ _ => 0) ⟨#[], #[.slice none 0 0, .slice none 0 0], []⟩).memory Tryz.f3.params.toList Rows.mapFitsSpec.vars false (#[.slice none 0 0, .slice none 0 0] : Array Value).toList 8 = some ([.nil, .nil], [], places) :=
  ⟨[], by kernel_rfl⟩
set_option maxRecDepth 100000 in
theorem mapFits_lifted (os : Os) (started : os.Started) (H : Type) (enc : TypeId × Value → H) (F : Stop.Interp) :
    ReturnsInHanded {} Tryz.checked os 3 .any ((OpenSpec.ofChange Rows.mapFitsSpec).preRow enc Tryz.prog Tryz.f3 Rows.mapFitsRow.domain false Rows.mapFitsRow.laid) (((OpenSpec.ofChange Rows.mapFitsSpec).at F).post enc Tryz.prog Tryz.f3 false true false false) := by
  obtain ⟨places, hx⟩ := mapFits_reads os enc
  refine returnsInHanded_of_row (C := Tryz.checked) (s := OpenSpec.ofChange Rows.mapFitsSpec) ownP started (by kernel_rfl) Tryz.func3
    (witness_row_at (enc := enc) (C := Tryz.checked) false (World.laidAll Tryz.prog os Rows.mapFitsRow.laid) #[.slice none 0 0, .slice none 0 0] (World.laidAll_os _ _ _) (by kernel_rfl) (by kernel_rfl) (by kernel_rfl)
      (OpenSpec.preRow_of_cond 8 hx (by kernel_rfl) (fun k hk => by cases hk) (by kernel_rfl) (mapFits_met os))) ?_
  intro W base args ds gs before hval hW _ _ hreach hL hS _
  exact mapFits_contract H enc W base args ds gs before hval hW hL hS hreach
set_option maxRecDepth 100000 in
theorem mapFits_said : Rows.MapFitsSaid :=
  OpenClaim.holds_of_cond 3 Tryz.f3 rfl rfl rfl rfl rfl rfl rfl ⟨rfl, rfl, rfl, rfl, rfl⟩ rfl rfl rfl rfl rfl (by kernel_rfl) Tryz.func3 (by kernel_rfl)
    (of_decide_eq_true (by kernel_rfl)) (by unfold Func.isWrapper; first | (rw [if_pos (by decide +kernel)]; kernel_rfl) | (rw [if_neg (by decide +kernel)]; exact ⟨rfl, rfl⟩))
    (fun os started H enc _ F => by rw [OpenClaim.pre_eq_preRow]; exact mapFits_lifted os started H enc F)
set_option maxRecDepth 100000 in
theorem mapFits_plain (f : FuncId) (fn : Func) (hf : Tryz.pinned.checked.prog.funcNamed "bolthole/boltholekeep.MapFits" = some f) (hfn : Tryz.pinned.checked.prog.funcs[f]? = some fn) :
    ∀ (j : Nat) t, fn.params[j]? = some t → Tryz.pinned.checked.prog.wantsStandIn t = false := by
  obtain rfl : f = 3 := Option.some.inj ((show Tryz.prog.funcNamed "bolthole/boltholekeep.MapFits" = some 3 by kernel_rfl).symm.trans hf) |>.symm
  obtain rfl : fn = Tryz.f3 := (Option.some.inj (Tryz.func3.symm.trans hfn)).symm
  intro j t ht
  have hall : ∀ t ∈ Tryz.f3.params, Tryz.prog.wantsStandIn t = false := by
    rw [Tryz.params3]
    intro t ht
    simp only [List.mem_toArray, List.mem_cons, List.not_mem_nil, or_false] at ht
    rcases ht with rfl | rfl
    all_goals kernel_rfl
  exact hall t (Array.mem_of_getElem? ht)
set_option maxRecDepth 100000 in
theorem mapFits_card : Rows.MapFitsCardSaid :=
  Claim7.holds_tied_plain_at .later [] _ _ _ _ mapFits_said (fun _ h => by cases h) (by kernel_rfl) (fun _ h => by cases h) mapFits_row_tie rfl ⟨rfl, rfl⟩ (by kernel_rfl) rfl (fun f fn hf hfn => ⟨by kernel_rfl, mapFits_plain f fn hf hfn⟩) (by kernel_rfl)
end Go.Proofs.YtcdlgjhdbmmomaaGreatDoor
