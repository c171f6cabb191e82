/- The given statement on MapSums, proved. No condition of its own. -/
import Derived.Test.YtcdlgjhdbmmomaaGreatDoorMpR
import Derived.Test.YtcdlgjhdbmmomaaGreatDoorRegX
import Derived.Deep.DeepCutAuto
import Derived.Deep.CutBlock
import Derived.Deep.LoopGhost
import Derived.Deep.QuietTactic
import Derived.BigQuiet
import Derived.IntWalk
import Derived.WalkLawsBesides
namespace Go.Proofs.YtcdlgjhdbmmomaaGreatDoor
open Go.ChangeShapes Go.WideShapes Go.ChangeAt Go.RowKit Go.Joins
open Go.ChangeMaps (open_string)
set_option maxHeartbeats 8000000 in
set_option maxRecDepth 100000 in
theorem mapSums_walk (l : List RawI) (A : Option Addr) (c : Nat) (r : List RawI) (B : Option Addr) (rc : Nat) (w : World) (hT : Tabs w) (hW : TlyW w) (hR : RdR w w.heap.size A l) (hl : l.length ≤ 140737488355328) (hc : l.length ≤ c) (hR2 : RdR w w.heap.size B r) (hc2 : r.length ≤ rc) :
    Calls Tryz.prog 5 #[.slice A l.length c, .slice B r.length rc] w fun e w' => e = .returned (.bool true) ∧ Below w.heap.size w w' := by
  have HTT := Lib.hid (tallyTells_any w hT hW)
  have HFW := Lib.hid (fun W (h : Below w.heap.size w W) => flowed_any l A c W (hT.below h) ((hR.below h).more h.size) hc hl)
  have HW := Lib.hid hW
  have HR2 := Lib.hid hR2
  obtain ⟨rl, hrl⟩ : ∃ z, r.length = z := ⟨_, rfl⟩
  have HRL := Lib.hid hrl
  rw [hrl] at hc2 ⊢
  obtain ⟨ll, hll⟩ : ∃ z, l.length = z := ⟨_, rfl⟩
  rw [hll] at HFW hc hl ⊢
  clear hT hW hR hll hR2 hrl
  go_enter Tryz.func5, Tryz.ntmps5
  go_wp2_with fail
  refine HTT.out.mono ?_
  rintro e w0 ⟨rfl, hb0⟩
  have HB0 := Lib.hid hb0
  have HFW0 := Lib.hid (HFW.out w0 hb0)
  clear hb0 HFW HTT
  go_wp2_with fail
  refine HFW0.out.mono ?_
  rintro e w1 ⟨hb1', m, v, d, xA, yA, zA, xc, yc, zc, rfl, hst⟩
  have hb1 := HB0.out.trans (hb1'.mono HB0.out.size)
  have HB1 := Lib.hid hb1
  have HST := Lib.hid hst
  obtain ⟨tA, tc, fA, fc, bA, bc, dA, dc, lA, lc⟩ := v
  unfold Img.val flowV
  simp only
  obtain ⟨T, hTe⟩ : ∃ z, m.text.length = z := ⟨_, rfl⟩
  obtain ⟨NF, hNF⟩ : ∃ z, m.funcs.length = z := ⟨_, rfl⟩
  obtain ⟨nb, hnb⟩ : ∃ z, m.tables.length = z := ⟨_, rfl⟩
  obtain ⟨nd, hnd⟩ : ∃ z, m.data.length = z := ⟨_, rfl⟩
  obtain ⟨nl, hnl⟩ : ∃ z, m.lines.length = z := ⟨_, rfl⟩
  obtain ⟨NB, hNB⟩ : ∃ z, d.blocks.length = z := ⟨_, rfl⟩
  obtain ⟨nt, hnt⟩ : ∃ z, d.tables.length = z := ⟨_, rfl⟩
  obtain ⟨nz, hnz⟩ : ∃ z, d.firsts.length = z := ⟨_, rfl⟩
  obtain ⟨kq, hkq⟩ : ∃ z : Nat, min rl 40 = z := ⟨_, rfl⟩
  have hkl : (r.take kq).length = kq := by rw [List.length_take, HRL.out]; omega
  obtain ⟨ES, hES⟩ : ∃ z, (r.take kq).map (tlE d) = z := ⟨_, rfl⟩
  have hesl : ES.length = kq := by rw [← hES, List.length_map, hkl]
  have hall : ∀ e ∈ ES, EdgOk e := fun e he => by
    rw [← hES] at he
    obtain ⟨x, -, rfl⟩ := List.mem_map.1 he
    exact tlE_ok hst.tal x
  have HTA : Hid (∀ W, Below w1.heap.size w1 W → Calls Tryz.prog 15 #[.agg #[.slice xA NB xc, .slice yA nt yc, .slice zA nz zc], .slice B kq rc] W fun e w' => Below W.heap.size W w' ∧ ∃ S : ByteArray, e = .returned (.string S) ∧ S.data.toList = ES.flatMap fmtE) := Lib.hid fun W hW => by
    have hb := hb1.trans (hW.mono hb1.size)
    have h := tally_any W (HW.out.below hb) (hst.flow.below hW) hst.tal (r.take kq) B rc (((HR2.out.take kq).below hb).more hb.size) (by rw [hkl]; omega)
    unfold flowV at h
    rw [hNB, hnt, hnz, hkl, hES] at h
    exact h
  have HESE := Lib.hid hES
  have HES := Lib.hid (And.intro hesl (And.intro hall (show kq ≤ 40 by omega)))
  have hmin : min (rl : Int) 40 = (kq : Int) := by omega
  have hkc : kq ≤ rc := by omega
  have hkll : kq ≤ rl := by omega
  have HMO := Lib.hid hst.mapOk
  have HNS := Lib.hid (And.intro hNB (And.intro hnt hnz))
  have HFV : Hid (#[.slice xA NB xc, .slice yA nt yc, .slice zA nz zc] = flowV d xA yA zA xc yc zc) := Lib.hid (by unfold flowV; rw [hNB, hnt, hnz])
  rw [hTe, hNF, hnb, hnd, hnl, hNB, hnt, hnz]
  clear hTe hNF hnb hnd hnl hNB hnt hnz hb1 hb1' hst HFW0 hkl hES hesl hall hkq
  go_upto_region 4 with fail
  obtain ⟨X, hX⟩ : ∃ X, w1.alloc (.cells #[.slice tA T tc, .slice fA NF fc, .slice bA nb bc, .slice dA nd dc, .slice lA nl lc, .int .i64 m.entry] 30) = X := ⟨_, rfl⟩
  rw [hX]
  have hbX : Below w1.heap.size w1 X := by rw [← hX]; exact (Below.refl _ _).alloc (Nat.le_refl _) _
  have hxs : X.heap.size = w1.heap.size + 1 := by rw [← hX]; simp
  obtain ⟨Y, hY⟩ : ∃ Y, X.alloc (.cells #[.slice xA NB xc, .slice yA nt yc, .slice zA nz zc] 33) = Y := ⟨_, rfl⟩
  rw [hY]
  have hfY : Blk Y (w1.heap.size + 1) 33 [.slice xA NB xc, .slice yA nt yc, .slice zA nz zc] := by rw [← hY, ← hxs]; exact Blk.new X _ _
  have hbY : Below X.heap.size X Y := by rw [← hY]; exact (Below.refl _ _).alloc (Nat.le_refl _) _
  have HWY := Lib.hid (hbX.trans (hbY.mono hbX.size))
  obtain ⟨BX, hBX⟩ : ∃ z, w1.heap.size = z := ⟨_, rfl⟩
  rw [hBX] at hfY ⊢
  have HFY := Lib.hid hfY
  have f0 := hfY.cell 0 rfl
  have f1 := hfY.cell 1 rfl
  have f2 := hfY.cell 2 rfl
  have fl := hfY.lt
  clear hX hY hbX hxs hbY hBX hfY
  refine wp_region_W (fun w' => w'.cell? ⟨BX + 1, 0, none⟩ = some (.slice xA NB xc) ∧ w'.cell? ⟨BX + 1, 1, none⟩ = some (.slice yA nt yc) ∧ w'.cell? ⟨BX + 1, 2, none⟩ = some (.slice zA nz zc)) 13 (by kernel_rfl) (by (try dsimp only); go_keep) (fun hHeld => ?_)
  refine wpW_take 0 (v := ?_) rfl (by kernel_rfl) (by kernel_rfl) (by kernel_rfl) (by kernel_rfl) (fun _ _ _ h => h) (Or.inl ⟨by rfl, ?_⟩) hHeld ?_
  rotate_left
  · intro w hSw
    try dsimp only at hSw
    go_simp
    try with_reducible rfl
  try simp only [Act.put, List.setIfInBounds_toArray, List.set_cons_zero, List.set_cons_succ]
  refine wpW_take 1 (v := ?_) rfl (by kernel_rfl) (by kernel_rfl) (by kernel_rfl) (by kernel_rfl) (fun _ _ _ h => h) (Or.inl ⟨by rfl, ?_⟩) hHeld ?_
  rotate_left
  · intro w hSw
    try dsimp only at hSw
    go_simp
    try with_reducible rfl
  try simp only [Act.put, List.setIfInBounds_toArray, List.set_cons_zero, List.set_cons_succ]
  refine wpW_take 2 (v := ?_) rfl (by kernel_rfl) (by kernel_rfl) (by kernel_rfl) (by kernel_rfl) (fun _ _ _ h => h) (Or.inl ⟨by rfl, ?_⟩) hHeld ?_
  rotate_left
  · intro w hSw
    try dsimp only at hSw
    go_simp
    try with_reducible rfl
  try simp only [Act.put, List.setIfInBounds_toArray, List.set_cons_zero, List.set_cons_succ]
  refine wpW_take 3 (v := ?_) rfl (by kernel_rfl) (by kernel_rfl) (by kernel_rfl) (by kernel_rfl) (fun _ _ _ h => h) (Or.inl ⟨by rfl, ?_⟩) hHeld ?_
  rotate_left
  · intro w hSw
    try dsimp only at hSw
    go_simp
    try with_reducible rfl
  try simp only [Act.put, List.setIfInBounds_toArray, List.set_cons_zero, List.set_cons_succ]
  refine wpW_take 4 (v := ?_) rfl (by kernel_rfl) (by kernel_rfl) (by kernel_rfl) (by kernel_rfl) (fun _ _ _ h => h) (Or.inl ⟨by rfl, ?_⟩) hHeld ?_
  rotate_left
  · intro w hSw
    try dsimp only at hSw
    go_simp
    try with_reducible rfl
  try simp only [Act.put, List.setIfInBounds_toArray, List.set_cons_zero, List.set_cons_succ]
  refine wpW_take 5 (v := ?_) rfl (by kernel_rfl) (by kernel_rfl) (by kernel_rfl) (by kernel_rfl) (fun _ _ _ h => h) (Or.inl ⟨by rfl, ?_⟩) hHeld ?_
  rotate_left
  · intro w hSw
    try dsimp only at hSw
    go_simp
    try with_reducible rfl
  try simp only [Act.put, List.setIfInBounds_toArray, List.set_cons_zero, List.set_cons_succ]
  refine wpW_one 6 rfl (by kernel_rfl) (fun K hK => ?_)
  go_simp
  refine (HTA.out _ (HWY.out.trans (((Below.refl Y.heap.size Y).drew).mono HWY.out.size))).mono ?_
  rintro e w5 ⟨hb5', S, rfl, hS⟩
  have hb5 : Below Y.heap.size Y w5 := ((Below.refl Y.heap.size Y).drew).trans hb5'
  have HB5 := Lib.hid (HB1.out.trans ((HWY.out.trans (hb5.mono HWY.out.size)).mono HB1.out.size))
  have HRE : Hid (Calls Tryz.prog 14 #[.string S] w5 (ReadPost w5 (.inr ES))) := Lib.hid (by
    have h := read_any S (by have h1 := (fmt_len ES HES.out.2.1).1; rw [← hS, bt_len] at h1; have h2 := HES.out; omega) w5 (HW.out.below HB5.out)
    rw [hS, readE_fmt ES HES.out.2.1 (by have := HES.out; omega)] at h
    exact h)
  have y0 : w5.cell? ⟨BX + 1, 0, none⟩ = some (.slice xA NB xc) := (hb5.cell (p := ⟨BX + 1, 0, none⟩) fl).trans f0
  have y1 : w5.cell? ⟨BX + 1, 1, none⟩ = some (.slice yA nt yc) := (hb5.cell (p := ⟨BX + 1, 1, none⟩) fl).trans f1
  have y2 : w5.cell? ⟨BX + 1, 2, none⟩ = some (.slice zA nz zc) := (hb5.cell (p := ⟨BX + 1, 2, none⟩) fl).trans f2
  have yl := Nat.lt_of_lt_of_le fl hb5.size
  clear hS
  refine hK.out _ _ (by (try dsimp only); exact ⟨y0, y1, y2⟩) (fun hHeld => ?_)
  clear hK K
  try simp only [Act.put, List.setIfInBounds_toArray, List.set_cons_zero, List.set_cons_succ]
  refine wpW_one 7 rfl (by kernel_rfl) (fun K hK => ?_)
  go_simp
  refine HRE.out.mono ?_
  rintro e w6 ⟨hb6', eA, ec, rfl, ho6⟩
  have HB6Y : Hid (Below Y.heap.size Y w6) := Lib.hid (hb5.trans (hb6'.mono hb5.size))
  have z0 : w6.cell? ⟨BX + 1, 0, none⟩ = some (.slice xA NB xc) := (hb6'.cell (p := ⟨BX + 1, 0, none⟩) yl).trans y0
  have z1 : w6.cell? ⟨BX + 1, 1, none⟩ = some (.slice yA nt yc) := (hb6'.cell (p := ⟨BX + 1, 1, none⟩) yl).trans y1
  have z2 : w6.cell? ⟨BX + 1, 2, none⟩ = some (.slice zA nz zc) := (hb6'.cell (p := ⟨BX + 1, 2, none⟩) yl).trans y2
  have HRD6 := Lib.hid (own_rd3M ho6)
  have HO6 := Lib.hid ho6
  clear hb6' ho6 hb5 hb5'
  refine hK.out _ _ (by (try dsimp only); exact ⟨z0, z1, z2⟩) (fun hHeld => ?_)
  clear hK K
  try simp only [Act.put, List.setIfInBounds_toArray, List.set_cons_zero, List.set_cons_succ]
  refine wpW_take 8 (v := ?_) rfl (by kernel_rfl) (by kernel_rfl) (by kernel_rfl) (by kernel_rfl) (fun _ _ _ h => h) (Or.inl ⟨by rfl, ?_⟩) hHeld ?_
  rotate_left
  · intro w hSw
    try dsimp only at hSw
    go_simp
    try with_reducible rfl
  try simp only [Act.put, List.setIfInBounds_toArray, List.set_cons_zero, List.set_cons_succ]
  refine wpW_take 9 (v := ?_) rfl (by kernel_rfl) (by kernel_rfl) (by kernel_rfl) (by kernel_rfl) (fun _ _ _ h => h) (Or.inl ⟨by rfl, ?_⟩) hHeld ?_
  rotate_left
  · intro w hSw
    try dsimp only at hSw
    go_simp
    try with_reducible rfl
  try simp only [Act.put, List.setIfInBounds_toArray, List.set_cons_zero, List.set_cons_succ]
  refine wpW_take 10 (v := ?_) rfl (by kernel_rfl) (by kernel_rfl) (by kernel_rfl) (by kernel_rfl) (fun _ _ _ h => h) (Or.inl ⟨by rfl, ?_⟩) hHeld ?_
  rotate_left
  · intro w hSw
    try dsimp only at hSw
    go_simp
    try with_reducible rfl
  try simp only [Act.put, List.setIfInBounds_toArray, List.set_cons_zero, List.set_cons_succ]
  refine wpW_take 11 (v := ?_) rfl (by kernel_rfl) (by kernel_rfl) (by kernel_rfl) (by kernel_rfl) (fun _ _ _ h => h) (Or.inl ⟨by rfl, ?_⟩) hHeld ?_
  rotate_left
  · intro w hSw
    try dsimp only at hSw
    go_simp
    try with_reducible rfl
  try simp only [Act.put, List.setIfInBounds_toArray, List.set_cons_zero, List.set_cons_succ]
  refine wpW_take 12 (v := ?_) rfl (by kernel_rfl) (by kernel_rfl) (by kernel_rfl) (by kernel_rfl) (fun _ _ _ h => h) (Or.inl ⟨by rfl, ?_⟩) hHeld ?_
  rotate_left
  · intro w hSw
    try dsimp only at hSw
    go_simp
    try with_reducible rfl
  try simp only [Act.put, List.setIfInBounds_toArray, List.set_cons_zero, List.set_cons_succ]
  refine wpW_done (by kernel_rfl) ?_ _
  have HB6 := Lib.hid (HB1.out.trans ((HWY.out.trans (HB6Y.out.mono HWY.out.size)).mono HB1.out.size))
  have HF6 := Lib.hid (HFY.out.keep HB6Y.out)
  have HW6 := Lib.hid (HWY.out.trans (HB6Y.out.mono HWY.out.size))
  have hke : ES.length = kq ∧ kq ≤ 40 := by have := HES.out; omega
  have HN64 : Hid (∀ e ∈ ES, N64 e.a ∧ N64 e.b ∧ N64 e.c) := Lib.hid fun e he => by
    obtain ⟨h1, h2, h3⟩ := HES.out.2.1 e he
    exact ⟨⟨by omega, by omega⟩, ⟨by omega, by omega⟩, ⟨by omega, by omega⟩⟩
  have HBC : Hid (ES.any badC = false) := Lib.hid (by
    rw [List.any_eq_false]
    intro e he
    obtain ⟨h1, h2, h3⟩ := HES.out.2.1 e he
    simp only [badC, Bool.or_eq_true, decide_eq_true_eq, not_or]
    omega)
  have HMP := Lib.hid (fun W (h : Below w6.heap.size w6 W) => map_any W ((HST.out.flow.below HW6.out).below h) HMO.out ES eA ec ((HRD6.out.below h).more h.size) (by omega) HN64.out)
  rw [hke.1, ← HFV.out] at HMP
  rw [hke.1]
  clear hke
  clear f0 f1 f2 fl y0 y1 y2 yl
  have hfl := HF6.out.lt
  have HC9 : Hid (∀ e ∈ ES, 0 ≤ e.c ∧ e.c ≤ 100000) := Lib.hid fun e he => by
    rw [← HESE.out] at he
    obtain ⟨x, -, rfl⟩ := List.mem_map.1 he
    unfold tlE
    have := pickL_bd x.c 1000 (by decide)
    dsimp only
    omega
  have HL9 : Hid (ES.length ≤ 40) := Lib.hid (by have := HES.out; omega)
  have HCLN := Lib.hid (fun W (h : Below w6.heap.size w6 W) => clone_edg (edL ES) eA kq ec W (by rw [edL_toD, edgV_len, List.length_map, HES.out.1]) (by rw [edL_toD]; exact edgV_one _) (fun e => by
    have h := HO6.out
    rw [e] at h
    rcases h.2 with ⟨h1, -⟩ | ⟨g, cap, cur, h1, -⟩
    · injection h1 with _ h1 _
      rw [← HES.out.1]
      exact h1
    · injection h1 with h1
      cases h1) (by have := HES.out; omega) ((HRD6.out.below h).more h.size))
  have HMPR : Hid (∀ W A9 c9 (L : List EdgE), Below w6.heap.size w6 W → (∀ e ∈ L, e ∈ ES) → L.length ≤ 100 → RdG W W.heap.size A9 (edL L) → ∀ n, L.length = n → Calls Tryz.prog 16 #[.agg #[.slice xA NB xc, .slice yA nt yc, .slice zA nz zc], .slice A9 n c9] W (MapPost W d L)) := Lib.hid fun W A9 c9 L hW hm hl hr n hn => by
    have h := map_any W ((HST.out.flow.below HW6.out).below hW) HMO.out L A9 c9 hr (by omega) (fun e he => HN64.out e (hm e he))
    rw [hn, ← HFV.out] at h
    exact h
  have HBAD : Hid (∀ L : List EdgE, (∀ e ∈ L, e ∈ ES) → L.any badC = false) := Lib.hid fun L hm => by
    have h := HBC.out
    rw [List.any_eq_false] at h ⊢
    exact fun e he => h e (hm e he)
  obtain ⟨OL, hOL⟩ : ∃ z, mapL d ES = z := ⟨_, rfl⟩
  have HOL := Lib.hid hOL
  obtain ⟨na, hna⟩ : ∃ z, OL.length = z := ⟨_, rfl⟩
  have HNA := Lib.hid hna
  clear hOL hna
  have g0 := HF6.out.cell 0 rfl
  have g1 := HF6.out.cell 1 rfl
  have g2 := HF6.out.cell 2 rfl
  have HM6 := Lib.hid (HMP.out w6 (Below.refl _ _))
  clear HMP z0 z1 z2
  go_wp2_with fail
  refine HM6.out.mono ?_
  rintro e w7 ⟨hb7, -, hp7⟩
  obtain ⟨hlen7, aA, ac, rfl, ho7⟩ := hp7 HBC.out
  rw [HOL.out, HNA.out] at ho7 hlen7 ⊢
  have HLE7 : Hid (na ≤ 40) := Lib.hid (by have := HL9.out; omega)
  have HO7 := Lib.hid ho7
  have HB67 := Lib.hid hb7
  have HCL7 := Lib.hid (HCLN.out w7 hb7)
  clear hb7 hp7 ho7 hlen7 g0 g1 g2 hfl HM6
  go_wp2_with fail
  refine HCL7.out.mono ?_
  rintro e w8 ⟨kA, kc, rfl, hb8, ho8⟩
  rw [edL_toD] at ho8
  have HRV := Lib.hid (rev_edg ho8 (by have := HES.out; omega))
  have HB78 := Lib.hid hb8
  clear hb8 ho8 HCL7
  go_wp2_with fail
  refine HRV.out.mono ?_
  rintro e w9 ⟨rfl, ho9, hfr9⟩
  rw [← List.map_reverse, ← edL_toD] at ho9
  have HB79 := Lib.hid (hfr9 _ _ HB78.out (Nat.le_refl _))
  have HB69 := Lib.hid (HB67.out.trans (HB79.out.mono HB67.out.size))
  have HO9 := Lib.hid ho9
  have hf9 := HF6.out.keep HB69.out
  have g0 := hf9.cell 0 rfl
  have g1 := hf9.cell 1 rfl
  have g2 := hf9.cell 2 rfl
  have gl := hf9.lt
  have HM9 := Lib.hid (HMPR.out w9 kA kc ES.reverse HB69.out (fun e he => List.mem_reverse.1 he) (by rw [List.length_reverse]; have := HL9.out; omega) (own_rd3M ho9) kq (by rw [List.length_reverse, HES.out.1]))
  have HF9 := Lib.hid hf9
  clear hfr9 ho9 hf9 HRV
  go_wp2_with fail
  refine HM9.out.mono ?_
  rintro e w10 ⟨hb10, -, hp10⟩
  obtain ⟨-, bA2, bc2, rfl, ho10⟩ := hp10 (HBAD.out _ (fun e he => List.mem_reverse.1 he))
  rw [mapL_rev HC9.out (by have := HL9.out; omega), HOL.out, HNA.out] at ho10 ⊢
  have HO10 := Lib.hid ho10
  have HB910 := Lib.hid hb10
  have HB610 := Lib.hid (HB69.out.trans (hb10.mono HB69.out.size))
  have HK10 := Lib.hid (own_keep HO9.out hb10)
  have HFT := Lib.hid (HF9.out.keep hb10)
  have HE10 := Lib.hid (own_rd3M HO6.out)
  clear hb10 hp10 ho10 HM9 g0 g1 g2 gl
  go_upto_region 9 with fail
  go_cut [15, 16] (fun s15 s16 wx => ∃ (cA : Option Addr) (cc : Nat), s15 = .slice cA na cc ∧ s16 = .int .i64 0 ∧ Hid (Below w7.heap.size w7 wx) ∧ Hid (RdG wx wx.heap.size bA2 (edgV OL)) ∧ Hid (RdG wx wx.heap.size cA (edgV (OL.map fun e => ⟨e.f, e.t, 2 * e.c⟩))) ∧ Hid (na ≤ cc))
  case first =>
    as_aux_lemma =>
    have HES2 : Hid (kq ≤ 40 ∧ ES.length = kq) := Lib.hid (by have := HES.out; omega)
    have hkq40 : kq ≤ 40 := HES2.out.1
    have hkc := own_le HK10.out
    have hec := own_le HO6.out
    have HXE : Hid (0 < kq → ∃ ad : Addr, eA = some ad ∧ ∀ j u, (edL ES)[j]? = some u → w10.drew.cell? (ad.add j) = some u) := Lib.hid fun hp => by
      obtain ⟨ge, hge⟩ := own_ptr HO6.out (by have := HES2.out; omega)
      subst hge
      refine ⟨_, rfl, fun j u hu => ?_⟩
      obtain ⟨b, o, h1, h2, h3⟩ := (HE10.out.below HB610.out) (fun e => by rw [e] at hu; simp at hu)
      have h4 := h3 j u hu
      injection h1 with h1
      injection h1 with h1 h5
      subst h1 h5
      unfold Addr.add
      split
      · rename_i e
        rw [e] at h4
        exact h4
      · exact h4
    have HXL : Hid ((edL ES).length = kq * 3) := Lib.hid (by rw [edL_toD, edgV_len, List.length_map, HES2.out.2])
    have HX1 : Hid (∀ u ∈ edL ES, u.oneCell' = true) := Lib.hid (by rw [edL_toD]; exact edgV_one _)
    have HXB : Hid (w7.heap.size ≤ w10.drew.heap.size) := Lib.hid (Nat.le_trans HB79.out.size HB910.out.size)
    have HKB : Hid (∀ g, (Value.slice kA kq kc).ownBlock = some g → w7.heap.size ≤ g ∧ g < w9.heap.size) := Lib.hid fun g hg => World.ownsRow.lt HO9.out g hg
    have HFX : Hid (BX + 1 < w6.heap.size) := Lib.hid HF6.out.lt
    have f0 := HFT.out.cell 0 rfl
    have f1 := HFT.out.cell 1 rfl
    have f2 := HFT.out.cell 2 rfl
    have fl := HFT.out.lt
    refine wp_region_W (fun w' => w'.cell? ⟨BX + 1, 0, none⟩ = some (.slice xA NB xc) ∧ w'.cell? ⟨BX + 1, 1, none⟩ = some (.slice yA nt yc) ∧ w'.cell? ⟨BX + 1, 2, none⟩ = some (.slice zA nz zc)) 10 (by kernel_rfl) (by (try dsimp only); exact ⟨f0, f1, f2⟩) (fun hHeld => ?_)
    refine wpW_take 0 (v := ?_) rfl (by kernel_rfl) (by kernel_rfl) (by kernel_rfl) (by kernel_rfl) (fun _ _ _ h => h) (Or.inl ⟨by rfl, ?_⟩) hHeld ?_
    rotate_left
    · intro w hSw
      try dsimp only at hSw
      go_simp
      try with_reducible rfl
    try simp only [Act.put, List.setIfInBounds_toArray, List.set_cons_zero, List.set_cons_succ]
    refine wpW_take 1 (v := ?_) rfl (by kernel_rfl) (by kernel_rfl) (by kernel_rfl) (by kernel_rfl) (fun _ _ _ h => h) (Or.inl ⟨by rfl, ?_⟩) hHeld ?_
    rotate_left
    · intro w hSw
      try dsimp only at hSw
      go_simp
      try with_reducible rfl
    try simp only [Act.put, List.setIfInBounds_toArray, List.set_cons_zero, List.set_cons_succ]
    refine wpW_take 2 (v := ?_) rfl (by kernel_rfl) (by kernel_rfl) (by kernel_rfl) (by kernel_rfl) (fun _ _ _ h => h) (Or.inl ⟨by rfl, ?_⟩) hHeld ?_
    rotate_left
    · intro w hSw
      try dsimp only at hSw
      go_simp
      try with_reducible rfl
    try simp only [Act.put, List.setIfInBounds_toArray, List.set_cons_zero, List.set_cons_succ]
    refine wpW_one 3 rfl (by kernel_rfl) (fun K hK => ?_)
    refine step_app_rows rfl _ _ 36 43 3 24 _ Tryz.underlying36 infoEdgM rfl (by decide) rfl w7.heap.size kA kq kc (edL ES.reverse) rfl HK10.out hkc eA kq ec (edL ES) rfl HXL.out HXE.out HX1.out (by unfold maxLen; omega) (by omega) HXB.out (fun A11 c11 w11 ho11 hg11 => ?_)
    have hrw : ∀ g, (Value.slice kA kq kc).ownBlock = some g → w7.heap.size ≤ g := fun g hg => (HKB.out g hg).1
    have hne : (Value.slice kA kq kc).ownBlock ≠ some (BX + 1) := fun e => by have h1 := hrw _ e; have h2 := HFX.out; have h3 := HB67.out.size; omega
    have hf11 := (show Blk w10.drew (BX + 1) 33 [.slice xA NB xc, .slice yA nt yc, .slice zA nz zc] from HFT.out).gb hg11 hne
    have y0 := hf11.cell 0 rfl
    have y1 := hf11.cell 1 rfl
    have y2 := hf11.cell 2 rfl
    have yl := hf11.lt
    have hb711 : Below w7.heap.size w7 w11 := ((HB79.out.trans (HB910.out.mono HB79.out.size)).drew).grown hg11 HXB.out hrw
    have HB711 := Lib.hid hb711
    have HO11 := Lib.hid ho11
    have HRB11 : Hid (w11.ownsRow w9.heap.size 43 3 (.slice bA2 na bc2) na (edgV OL)) := Lib.hid (gb_own (show w10.drew.ownsRow w9.heap.size 43 3 (.slice bA2 na bc2) na (edgV OL) from HO10.out) hg11 (by
      rcases hob : (Value.slice bA2 na bc2).ownBlock with _ | g
      · exact .inl rfl
      · refine .inr fun e => ?_
        have h1 := (World.ownsRow.lt HO10.out g hob).1
        have h2 := (HKB.out g e.symm).2
        omega))
    clear hg11 ho11 hrw hne hf11 hb711
    refine hK.out _ _ (by (try dsimp only); exact ⟨y0, y1, y2⟩) (fun hHeld => ?_)
    clear hK K
    try simp only [Act.put, List.setIfInBounds_toArray, List.set_cons_zero, List.set_cons_succ]
    refine wpW_one 4 rfl (by kernel_rfl) (fun K hK => ?_)
    go_simp
    refine (HMPR.out w11 A11 c11 (ES.reverse ++ ES) (HB67.out.trans (HB711.out.mono HB67.out.size)) (fun e he => by
      rcases List.mem_append.1 he with he | he
      · exact List.mem_reverse.1 he
      · exact he) (by rw [List.length_append, List.length_reverse, HES2.out.2]; omega) (own_rd3M (by rw [show edL (ES.reverse ++ ES) = edL ES.reverse ++ edL ES from List.flatMap_append]; exact HO11.out)) (kq + kq) (by rw [List.length_append, List.length_reverse, HES2.out.2])).mono ?_
    rintro e w12 ⟨hb12, -, hp12⟩
    obtain ⟨-, cA, cc, rfl, ho12⟩ := hp12 (HBAD.out _ (fun e he => by
      rcases List.mem_append.1 he with he | he
      · exact List.mem_reverse.1 he
      · exact he))
    have hcl : (mapL d (ES.reverse ++ ES)).length = na := by rw [mapL_two HC9.out (by have := HL9.out; omega), List.length_map, HOL.out, HNA.out]
    have HBZ : Hid (Below w7.heap.size w7 w12) := Lib.hid (HB711.out.trans (hb12.mono HB711.out.size))
    have HRBZ : Hid (RdG w12 w12.heap.size bA2 (edgV OL)) := Lib.hid (((own_rd3M HRB11.out).below hb12).more hb12.size)
    have HRCZ : Hid (RdG w12 w12.heap.size cA (edgV (OL.map fun e => ⟨e.f, e.t, 2 * e.c⟩))) := Lib.hid (by
      have h := own_rd3M ho12
      rw [mapL_two HC9.out (by have := HL9.out; omega), HOL.out] at h
      exact h)
    have HCCZ : Hid (na ≤ cc) := Lib.hid (by have h := own_le ho12; rw [hcl] at h; exact h)
    rw [hcl]
    have z0 := (hb12.cell (p := ⟨BX + 1, 0, none⟩) yl).trans y0
    have z1 := (hb12.cell (p := ⟨BX + 1, 1, none⟩) yl).trans y1
    have z2 := (hb12.cell (p := ⟨BX + 1, 2, none⟩) yl).trans y2
    clear hb12 hp12 ho12 hcl
    refine hK.out _ _ (by (try dsimp only); exact ⟨z0, z1, z2⟩) (fun hHeld => ?_)
    clear hK K
    try simp only [Act.put, List.setIfInBounds_toArray, List.set_cons_zero, List.set_cons_succ]
    refine wpW_take 5 (v := ?_) rfl (by kernel_rfl) (by kernel_rfl) (by kernel_rfl) (by kernel_rfl) (fun _ _ _ h => h) (Or.inl ⟨by rfl, ?_⟩) hHeld ?_
    rotate_left
    · intro w hSw
      try dsimp only at hSw
      go_simp
      try with_reducible rfl
    try simp only [Act.put, List.setIfInBounds_toArray, List.set_cons_zero, List.set_cons_succ]
    refine wpW_take 6 (v := ?_) rfl (by kernel_rfl) (by kernel_rfl) (by kernel_rfl) (by kernel_rfl) (fun _ _ _ h => h) (Or.inl ⟨by rfl, ?_⟩) hHeld ?_
    rotate_left
    · intro w hSw
      try dsimp only at hSw
      go_simp
      try with_reducible rfl
    try simp only [Act.put, List.setIfInBounds_toArray, List.set_cons_zero, List.set_cons_succ]
    refine wpW_take 7 (v := ?_) rfl (by kernel_rfl) (by kernel_rfl) (by kernel_rfl) (by kernel_rfl) (fun _ _ _ h => h) (Or.inl ⟨by rfl, ?_⟩) hHeld ?_
    rotate_left
    · intro w hSw
      try dsimp only at hSw
      go_simp
      try with_reducible rfl
    try simp only [Act.put, List.setIfInBounds_toArray, List.set_cons_zero, List.set_cons_succ]
    refine wpW_take 8 (v := ?_) rfl (by kernel_rfl) (by kernel_rfl) (by kernel_rfl) (by kernel_rfl) (fun _ _ _ h => h) (Or.inl ⟨by rfl, ?_⟩) hHeld ?_
    rotate_left
    · intro w hSw
      try dsimp only at hSw
      go_simp
      try with_reducible rfl
    try simp only [Act.put, List.setIfInBounds_toArray, List.set_cons_zero, List.set_cons_succ]
    refine wpW_take 9 (v := ?_) rfl (by kernel_rfl) (by kernel_rfl) (by kernel_rfl) (by kernel_rfl) (fun _ _ _ h => h) (Or.inl ⟨by rfl, ?_⟩) hHeld ?_
    rotate_left
    · intro w hSw
      try dsimp only at hSw
      go_simp
      try with_reducible rfl
    try simp only [Act.put, List.setIfInBounds_toArray, List.set_cons_zero, List.set_cons_succ]
    refine wpW_done (by kernel_rfl) ?_ _
    go_wp2_with fail
    go_meet
    exact ⟨cA, cc, rfl, rfl, HBZ, HRBZ, HRCZ, HCCZ⟩
  case rest =>
    obtain ⟨cA, cc, rfl, rfl, HBX, HRB, HRX, HCX⟩ := hcut
    rename World => wx
    have HEQ := Lib.hid (eqEdg_sameM (OL.map toE) aA bA2 na ac bc2 wx (by rw [edgV_toE]; exact ((own_rd3M HO7.out).below HBX.out).more HBX.out.size) (by rw [edgV_toE]; exact HRB.out) (by rw [List.length_map, HNA.out]) (by have := HLE7.out; omega))
    have HRA : Hid (RdG wx wx.heap.size aA (edgV OL)) := Lib.hid (((own_rd3M HO7.out).below HBX.out).more HBX.out.size)
    have hacp := own_le HO7.out
    have hccp := HCX.out
    have hna40 := HLE7.out
    have HBW := Lib.hid (HB6.out.trans ((HB67.out.trans (HBX.out.mono HB67.out.size)).mono HB6.out.size))
    go_wp2_with fail
    refine HEQ.out.mono ?_
    rintro e w12 ⟨rfl, q12, hw12⟩
    have hnn : ((na : Int) != (na : Int)) = false := by simp
    have HW12 := Lib.hid hw12
    clear hw12
    go_wp2_with fail
    clear hnn
    go_loopg [94] na (fun gk s wr => ∃ i : Nat, i ≤ na ∧ s = .int .i64 i ∧ Hid (∃ q, wr = wx.drewN q) ∧ na - i ≤ gk)
    case atStart => exact ⟨0, Nat.zero_le _, rfl, Lib.hid ⟨q12, HW12.out⟩, Nat.le_refl _⟩
    case round =>
      obtain ⟨i, hi, rfl, HQ, hgk⟩ := hrel
      obtain ⟨q, hq⟩ := HQ.out
      by_cases hlt : i < na
      · have hltI : (i : Int) < (na : Int) := by omega
        have hi0 : (0 : Int) ≤ (i : Int) := by omega
        have hx : OL[i]? = some (OL[i]'(by have := HNA.out; omega)) := List.getElem?_eq_getElem _
        generalize OL[i]'(by have := HNA.out; omega) = x at hx
        have hx2 : (OL.map fun e => (⟨e.f, e.t, 2 * e.c⟩ : EdgD))[i]? = some ⟨x.f, x.t, 2 * x.c⟩ := by rw [List.getElem?_map, hx]; rfl
        obtain ⟨b1, o1, hA1, -, -, -, e2⟩ := HRA.out.atE hx
        obtain ⟨b2, o2, hA2, -, -, -, e3⟩ := HRX.out.atE hx2
        have hxm : x ∈ mapL d ES := by rw [HOL.out]; exact List.mem_of_getElem? hx
        have hxb := mapL_le (fun e he => by have := HC9.out e he; omega) hxm
        have hxp := (mapL_mem hxm).2.2.2.2.1
        obtain ⟨y, hy⟩ : ∃ z, x.c = z := ⟨_, rfl⟩
        dsimp only at e3
        rw [hy] at e2 e3 hxb hxp
        obtain ⟨y2, hy2⟩ : ∃ z, 2 * y = z := ⟨_, rfl⟩
        have qy : IntKind.i64.wrap (2 * y) = y2 := by rw [IntWalk.i64_in _ (by omega)]; exact hy2
        rw [hy2] at e3
        have d2 : wr.cell? ⟨b1, o1 + i * 3 + 2, none⟩ = some (.int .i64 y) := by rw [hq]; exact e2
        have d3 : wr.cell? ⟨b2, o2 + i * 3 + 2, none⟩ = some (.int .i64 y2) := by rw [hq]; exact e3
        have hne2 : (y2 != y2) = false := by simp
        subst hA1 hA2
        clear hx hx2 hxm hxb hxp hy hy2 e2 e3 hq
        go_upto_region 15 with fail
        go_quiet (fail)
        go_wp2_with fail
        go_roundg (na - (i + 1))
        case measure => omega
        case rel => exact ⟨i + 1, by omega, (by go_num), Lib.hid (by obtain ⟨q, hq⟩ := HQ.out; exact ⟨_, by rw [hq, World.drewN_drewN]⟩), Nat.le_refl _⟩
      · obtain rfl : i = na := by omega
        have hltI : ¬ (i : Int) < (i : Int) := by omega
        have HBE : Hid (Below w.heap.size w wr) := Lib.hid (by rw [hq]; exact below_drewN HBW.out q)
        clear hq
        go_wp2_with fail
        go_ret
        exact ⟨rfl, HBE.out⟩
set_option maxRecDepth 100000 in
theorem mapSums_contract (H : Type) (enc : TypeId × Value → H) (W : World) (base : Nat) (args : Array Value) (ds gs : List (DataW H)) (before : List MemPlace)
    (hval : ∀ (j : Nat) t v, Tryz.f5.params[j]? = some t → args[j]? = some v → Value.okWide Tryz.prog W .any base t v)
    (hW : DataW.Whole enc Tryz.prog Tryz.f5.params.toList Rows.mapSumsSpec.vars false W args.toList ds gs before) (hL : laidMetH Tryz.prog Rows.mapSumsRow.laid W) (hS : W.ShapedOpen Tryz.prog)
    (hz : (DataW.weightsEach Tryz.prog (Tryz.f5.params.toList ++ (OpenSpec.ofChange Rows.mapSumsSpec).bare.plain.varTypes Tryz.prog) (ds ++ gs)).all (· ≤ reachBytes) = true) :
    Calls Tryz.prog 5 args W fun e W' => ∃ v, e = .returned v ∧ Rows.mapSumsSpec.post enc Tryz.prog Tryz.f5 false true false false W args v W' := by
  have hT : TlyW W := tlyW_any hL hS
  have hT5 : Tabs W := tabs_any hL
  have hW0 := hW
  obtain ⟨p, q, hA0, hV, rfl, hfz, hnd⟩ := hW
  have hA : DataW.TrodAll enc Tryz.prog W 0 (fun _ => true) true Tryz.f5.params.toList args.toList ds p := hA0
  rw [Tryz.params5] at hA hval
  obtain ⟨v0, vs0, d0, ds0, p0, q0, hargs, rfl, rfl, h0, r0⟩ := trodAll_cons hA
  obtain ⟨v1, vs1, d1, ds1, p1, q1, rfl, rfl, rfl, h1, r1⟩ := trodAll_cons r0
  obtain ⟨rfl, rfl, rfl⟩ := trodAll_nil r1
  obtain rfl : args = #[v0, v1] := by cases args; simp_all
  obtain ⟨rfl, rfl⟩ := trodVars_none hV
  clear hA0
  obtain ⟨A, cap, L, rfl, hcap, hcm, hR, hd⟩ := open_raws (hval 0 22 v0 rfl rfl) h0
  obtain ⟨A2, cap2, L2, rfl, hcap2, hcm2, hR2, hd2⟩ := open_raws (hval 1 22 v1 rfl rfl) h1
  have hL : L.length ≤ 140737488355328 := by
    rcases hd with ⟨-, rfl, -⟩ | ⟨elems, spare, rfl, hl⟩
    · exact Nat.zero_le _
    · have h1 := sized_slice hz (j := 0) (t := 22) (by rw [Tryz.params5]; rfl) rfl Tryz.underlying22
      have h2 : Tryz.prog.bytesOf 85 = 32 := by kernel_rfl
      have h3 := reachBytes_lt
      rw [h2, hl] at h1
      omega
  refine (mapSums_walk L A cap L2 A2 cap2 W hT5 hT hR hL hcap hR2 hcap2).mono fun e W' ⟨he, hb⟩ => ?_
  subst he
  exact ⟨_, rfl, law_post hW0 rfl rfl (by kernel_rfl) (by kernel_rfl) hb⟩
set_option maxRecDepth 100000 in
theorem mapSums_met (os : Os) : laidMet Tryz.prog Rows.mapSumsRow.laid ((World.laidAll Tryz.prog os Rows.mapSumsRow.laid).forCall (fun _ _ => 0) ⟨#[], #[.slice none 0 0, .slice none 0 0], []⟩).memory :=
  laidMet_laidAll _ (by kernel_rfl) (by kernel_rfl)
set_option maxRecDepth 100000 in
theorem mapSums_reads (os : Os) {H : Type} (enc : TypeId × Value → H) : ∃ places, DataW.whole enc Tryz.prog ((World.laidAll Tryz.prog os Rows.mapSumsRow.laid).forCall (fun _ _ => 0) ⟨#[], #[.slice none 0 0, .slice none 0 0], []⟩).memory Tryz.f5.params.toList Rows.mapSumsSpec.vars false (#[.slice none 0 0, .slice none 0 0] : Array Value).toList 8 = some ([.nil, .nil], [], places) :=
  ⟨[], by kernel_rfl⟩
set_option maxRecDepth 100000 in
theorem mapSums_lifted (os : Os) (started : os.Started) (H : Type) (enc : TypeId × Value → H) (F : Stop.Interp) :
    ReturnsInHanded {} Tryz.checked os 5 .any ((OpenSpec.ofChange Rows.mapSumsSpec).preRow enc Tryz.prog Tryz.f5 Rows.mapSumsRow.domain false Rows.mapSumsRow.laid) (((OpenSpec.ofChange Rows.mapSumsSpec).at F).post enc Tryz.prog Tryz.f5 false true false false) := by
  obtain ⟨places, hx⟩ := mapSums_reads os enc
  refine returnsInHanded_of_row (C := Tryz.checked) (s := OpenSpec.ofChange Rows.mapSumsSpec) ownP started (by kernel_rfl) Tryz.func5
    (witness_row_at (enc := enc) (C := Tryz.checked) false (World.laidAll Tryz.prog os Rows.mapSumsRow.laid) #[.slice none 0 0, .slice none 0 0] (World.laidAll_os _ _ _) (by kernel_rfl) (by kernel_rfl) (by kernel_rfl)
      (OpenSpec.preRow_of_cond 8 hx (by kernel_rfl) (fun k hk => by cases hk) (by kernel_rfl) (mapSums_met os))) ?_
  intro W base args ds gs before hval hW _ _ hreach hL hS _
  exact mapSums_contract H enc W base args ds gs before hval hW hL hS hreach
set_option maxRecDepth 100000 in
theorem mapSums_said : Rows.MapSumsSaid :=
  OpenClaim.holds_of_cond 5 Tryz.f5 rfl rfl rfl rfl rfl rfl rfl ⟨rfl, rfl, rfl, rfl, rfl⟩ rfl rfl rfl rfl rfl (by kernel_rfl) Tryz.func5 (by kernel_rfl)
    (of_decide_eq_true (by kernel_rfl)) (by unfold Func.isWrapper; first | (rw [if_pos (by decide +kernel)]; kernel_rfl) | (rw [if_neg (by decide +kernel)]; exact ⟨rfl, rfl⟩))
    (fun os started H enc _ F => by rw [OpenClaim.pre_eq_preRow]; exact mapSums_lifted os started H enc F)
set_option maxRecDepth 100000 in
theorem mapSums_plain (f : FuncId) (fn : Func) (hf : Tryz.pinned.checked.prog.funcNamed "bolthole/boltholekeep.MapSums" = some f) (hfn : Tryz.pinned.checked.prog.funcs[f]? = some fn) :
    ∀ (j : Nat) t, fn.params[j]? = some t → Tryz.pinned.checked.prog.wantsStandIn t = false := by
  obtain rfl : f = 5 := Option.some.inj ((show Tryz.prog.funcNamed "bolthole/boltholekeep.MapSums" = some 5 by kernel_rfl).symm.trans hf) |>.symm
  obtain rfl : fn = Tryz.f5 := (Option.some.inj (Tryz.func5.symm.trans hfn)).symm
  intro j t ht
  have hall : ∀ t ∈ Tryz.f5.params, Tryz.prog.wantsStandIn t = false := by
    rw [Tryz.params5]
    intro t ht
    simp only [List.mem_toArray, List.mem_cons, List.not_mem_nil, or_false] at ht
    rcases ht with rfl | rfl
    all_goals kernel_rfl
  exact hall t (Array.mem_of_getElem? ht)
set_option maxRecDepth 100000 in
theorem mapSums_card : Rows.MapSumsCardSaid :=
  Claim7.holds_tied_plain_at .later [] _ _ _ _ mapSums_said (fun _ h => by cases h) (by kernel_rfl) (fun _ h => by cases h) mapSums_row_tie rfl ⟨rfl, rfl⟩ (by kernel_rfl) rfl (fun f fn hf hfn => ⟨by kernel_rfl, mapSums_plain f fn hf hfn⟩) (by kernel_rfl)
end Go.Proofs.YtcdlgjhdbmmomaaGreatDoor
