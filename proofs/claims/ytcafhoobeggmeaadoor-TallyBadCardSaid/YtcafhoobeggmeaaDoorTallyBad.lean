/- The given statement on TallyBad, proved: what is no tally is refused, whole. No condition of its own. -/
import Derived.Test.YtcafhoobeggmeaaDoorTlV
import Derived.Test.YtcafhoobeggmeaaDoorRegX
import Derived.Deep.DeepCutAuto
import Derived.Deep.CutBlock
import Derived.Deep.LoopGhost
import Derived.Deep.QuietTactic
import Derived.BigQuiet
import Derived.IntWalk
import Derived.WalkLawsBesides
namespace Go.Proofs.YtcafhoobeggmeaaDoor
open Go.ChangeShapes Go.WideShapes Go.ChangeAt Go.RowKit Go.Joins
open Go.ChangeMaps (open_string)
set_option maxHeartbeats 8000000 in
set_option maxRecDepth 100000 in
theorem tallyBad_walk (l : List RawI) (A : Option Addr) (c : Nat) (n : Int) (hn : N64 n) (w : World) (hT : Tabs w) (hW : TlyW w) (hR : RdR w w.heap.size A l) (hl : l.length ≤ 140737488355328) (hc : l.length ≤ c) :
    Calls Tryd.prog 8 #[.slice A l.length c, .int .i64 n] w fun e w' => e = .returned (.bool true) ∧ Below w.heap.size w w' := by
  have HFW := Lib.hid (flowed_any l A c w hT hR hc hl)
  have hk := pickL_bd n 10 (by decide)
  have HPK := Lib.hid (fun W => picked_any n 10 W hn.1 hn.2 (by decide) (by decide))
  obtain ⟨k0, hk0⟩ : ∃ z, pickL n 10 = z := ⟨_, rfl⟩
  rw [hk0] at hk HPK
  obtain ⟨kk, rfl⟩ := Int.eq_ofNat_of_zero_le hk.1
  have hk10 : kk < 10 := by omega
  have HW := Lib.hid hW
  have HR := Lib.hid hR
  obtain ⟨ll, hll⟩ : ∃ z, l.length = z := ⟨_, rfl⟩
  rw [hll] at HFW hc hl ⊢
  have HLL := Lib.hid hll
  clear hT hW hR hll hn hk hk0
  go_enter Tryd.func8, Tryd.ntmps8
  go_wp2_with fail
  refine HFW.out.mono ?_
  rintro e w1 ⟨hb1, m, v, d, xA, yA, zA, xc, yc, zc, rfl, hst⟩
  have HB1 := Lib.hid hb1
  have HST := Lib.hid hst
  obtain ⟨tA, tc, fA, fc, bA, bc, dA, dc, lA, lc⟩ := v
  unfold Img.val flowV
  simp only
  obtain ⟨T, hTe⟩ : ∃ z, m.text.length = z := ⟨_, rfl⟩
  obtain ⟨NF, hNF⟩ : ∃ z, m.funcs.length = z := ⟨_, rfl⟩
  obtain ⟨nb, hnb⟩ : ∃ z, m.tables.length = z := ⟨_, rfl⟩
  obtain ⟨nd, hnd⟩ : ∃ z, m.data.length = z := ⟨_, rfl⟩
  obtain ⟨nl, hnl⟩ : ∃ z, m.lines.length = z := ⟨_, rfl⟩
  obtain ⟨NB, hNB⟩ : ∃ z, d.blocks.length = z := ⟨_, rfl⟩
  obtain ⟨nt, hnt⟩ : ∃ z, d.tables.length = z := ⟨_, rfl⟩
  obtain ⟨nz, hnz⟩ : ∃ z, d.firsts.length = z := ⟨_, rfl⟩
  obtain ⟨kq, hkq⟩ : ∃ z : Nat, min ll 20 = z := ⟨_, rfl⟩
  have hkl : (l.take kq).length = kq := by rw [List.length_take, HLL.out]; omega
  have HKL := Lib.hid hkl
  have HTA : Hid (∀ W, Below w1.heap.size w1 W → Calls Tryd.prog 22 #[.agg #[.slice xA NB xc, .slice yA nt yc, .slice zA nz zc], .slice A kq c] W fun e w' => Below W.heap.size W w' ∧ ∃ S : ByteArray, e = .returned (.string S) ∧ S.data.toList = ((l.take kq).map (tlE d)).flatMap fmtE) := Lib.hid fun W hW => by
    have hb := hb1.trans (hW.mono hb1.size)
    have h := tally_any W (HW.out.below hb) (hst.flow.below hW) hst.tal (l.take kq) A c (((HR.out.take kq).below hb).more hb.size) (by rw [hkl]; omega)
    unfold flowV at h
    rw [hNB, hnt, hnz, hkl] at h
    exact h
  rw [hTe, hNF, hnb, hnd, hnl, hNB, hnt, hnz]
  have hmin : min (ll : Int) 20 = (kq : Int) := by omega
  have hkc : kq ≤ c := by omega
  have hkll : kq ≤ ll := by omega
  clear hTe hNF hnb hnd hnl hNB hnt hnz hb1 hst hkl HFW
  go_upto_region 2 with fail
  obtain ⟨X, hX⟩ : ∃ X, w1.alloc (.cells #[.slice tA T tc, .slice fA NF fc, .slice bA nb bc, .slice dA nd dc, .slice lA nl lc, .int .i64 m.entry] 42) = X := ⟨_, rfl⟩
  rw [hX]
  have hbX : Below w1.heap.size w1 X := by rw [← hX]; exact (Below.refl _ _).alloc (Nat.le_refl _) _
  have hxs : X.heap.size = w1.heap.size + 1 := by rw [← hX]; simp
  obtain ⟨Y, hY⟩ : ∃ Y, X.alloc (.cells #[.slice xA NB xc, .slice yA nt yc, .slice zA nz zc] 45) = Y := ⟨_, rfl⟩
  rw [hY]
  have hfY : Blk Y (w1.heap.size + 1) 45 [.slice xA NB xc, .slice yA nt yc, .slice zA nz zc] := by rw [← hY, ← hxs]; exact Blk.new X _ _
  have hbY : Below X.heap.size X Y := by rw [← hY]; exact (Below.refl _ _).alloc (Nat.le_refl _) _
  have HWY := Lib.hid (hbX.trans (hbY.mono hbX.size))
  obtain ⟨BX, hBX⟩ : ∃ z, w1.heap.size = z := ⟨_, rfl⟩
  rw [hBX] at hfY ⊢
  have f0 := hfY.cell 0 rfl
  have f1 := hfY.cell 1 rfl
  have f2 := hfY.cell 2 rfl
  have fl := hfY.lt
  clear hX hY hbX hxs hbY hBX hfY
  refine wp_region_W (fun w' => w'.cell? ⟨BX + 1, 0, none⟩ = some (.slice xA NB xc) ∧ w'.cell? ⟨BX + 1, 1, none⟩ = some (.slice yA nt yc) ∧ w'.cell? ⟨BX + 1, 2, none⟩ = some (.slice zA nz zc)) 8 (by kernel_rfl) (by (try dsimp only); go_keep) (fun hHeld => ?_)
  refine wpW_take 0 (v := ?_) rfl (by kernel_rfl) (by kernel_rfl) (by kernel_rfl) (by kernel_rfl) (fun _ _ _ h => h) (Or.inl ⟨by rfl, ?_⟩) hHeld ?_
  rotate_left
  · intro w hSw
    try dsimp only at hSw
    go_simp
    try with_reducible rfl
  try simp only [Act.put, List.setIfInBounds_toArray, List.set_cons_zero, List.set_cons_succ]
  refine wpW_take 1 (v := ?_) rfl (by kernel_rfl) (by kernel_rfl) (by kernel_rfl) (by kernel_rfl) (fun _ _ _ h => h) (Or.inl ⟨by rfl, ?_⟩) hHeld ?_
  rotate_left
  · intro w hSw
    try dsimp only at hSw
    go_simp
    try with_reducible rfl
  try simp only [Act.put, List.setIfInBounds_toArray, List.set_cons_zero, List.set_cons_succ]
  refine wpW_take 2 (v := ?_) rfl (by kernel_rfl) (by kernel_rfl) (by kernel_rfl) (by kernel_rfl) (fun _ _ _ h => h) (Or.inl ⟨by rfl, ?_⟩) hHeld ?_
  rotate_left
  · intro w hSw
    try dsimp only at hSw
    go_simp
    try with_reducible rfl
  try simp only [Act.put, List.setIfInBounds_toArray, List.set_cons_zero, List.set_cons_succ]
  refine wpW_take 3 (v := ?_) rfl (by kernel_rfl) (by kernel_rfl) (by kernel_rfl) (by kernel_rfl) (fun _ _ _ h => h) (Or.inl ⟨by rfl, ?_⟩) hHeld ?_
  rotate_left
  · intro w hSw
    try dsimp only at hSw
    go_simp
    try with_reducible rfl
  try simp only [Act.put, List.setIfInBounds_toArray, List.set_cons_zero, List.set_cons_succ]
  refine wpW_take 4 (v := ?_) rfl (by kernel_rfl) (by kernel_rfl) (by kernel_rfl) (by kernel_rfl) (fun _ _ _ h => h) (Or.inl ⟨by rfl, ?_⟩) hHeld ?_
  rotate_left
  · intro w hSw
    try dsimp only at hSw
    go_simp
    try with_reducible rfl
  try simp only [Act.put, List.setIfInBounds_toArray, List.set_cons_zero, List.set_cons_succ]
  refine wpW_take 5 (v := ?_) rfl (by kernel_rfl) (by kernel_rfl) (by kernel_rfl) (by kernel_rfl) (fun _ _ _ h => h) (Or.inl ⟨by rfl, ?_⟩) hHeld ?_
  rotate_left
  · intro w hSw
    try dsimp only at hSw
    go_simp
    try with_reducible rfl
  try simp only [Act.put, List.setIfInBounds_toArray, List.set_cons_zero, List.set_cons_succ]
  refine wpW_one 6 rfl (by kernel_rfl) (fun K hK => ?_)
  go_simp
  refine (HTA.out _ (HWY.out.trans (((Below.refl Y.heap.size Y).drew).mono HWY.out.size))).mono ?_
  rintro e w5 ⟨hb5', S, rfl, hS⟩
  have hb5 : Below Y.heap.size Y w5 := ((Below.refl Y.heap.size Y).drew).trans hb5'
  have y0 : w5.cell? ⟨BX + 1, 0, none⟩ = some (.slice xA NB xc) := (hb5.cell (p := ⟨BX + 1, 0, none⟩) fl).trans f0
  have y1 : w5.cell? ⟨BX + 1, 1, none⟩ = some (.slice yA nt yc) := (hb5.cell (p := ⟨BX + 1, 1, none⟩) fl).trans f1
  have y2 : w5.cell? ⟨BX + 1, 2, none⟩ = some (.slice zA nz zc) := (hb5.cell (p := ⟨BX + 1, 2, none⟩) fl).trans f2
  refine hK.out _ _ (by (try dsimp only); exact ⟨y0, y1, y2⟩) (fun hHeld => ?_)
  clear hK K
  try simp only [Act.put, List.setIfInBounds_toArray, List.set_cons_zero, List.set_cons_succ]
  refine wpW_take 7 (v := ?_) rfl (by kernel_rfl) (by kernel_rfl) (by kernel_rfl) (by kernel_rfl) (fun _ _ _ h => h) (Or.inl ⟨by rfl, ?_⟩) hHeld ?_
  rotate_left
  · intro w hSw
    try dsimp only at hSw
    go_simp
    try with_reducible rfl
  try simp only [Act.put, List.setIfInBounds_toArray, List.set_cons_zero, List.set_cons_succ]
  refine wpW_done (by kernel_rfl) ?_ _
  have HS := Lib.hid hS
  have HB5 := Lib.hid (HB1.out.trans ((HWY.out.trans (hb5.mono HWY.out.size)).mono HB1.out.size))
  have hall : ∀ e ∈ (l.take kq).map (tlE d), EdgOk e := fun e he => by
    obtain ⟨x, -, rfl⟩ := List.mem_map.1 he
    exact tlE_ok HST.out.tal x
  have hfl := (fmt_len _ hall).1
  rw [List.length_map, HKL.out, ← hS, bt_len] at hfl
  have HALL := Lib.hid hall
  have HNS : Hid (S.size ≤ 660) := Lib.hid (by omega)
  clear hS hb5 hb5' y0 y1 y2 f0 f1 f2 fl hall hfl
  go_upto_region 4 with fail
  obtain ⟨V, hV⟩ : ∃ z, w5.alloc (.cells #[.string ⟨#[49, 32, 50]⟩, .string ⟨#[49, 32, 50, 10]⟩, .string ⟨#[49, 32, 50, 32, 51, 32, 52, 10]⟩, .string ⟨#[97, 32, 50, 32, 51, 10]⟩, .string ⟨#[48, 49, 32, 50, 32, 51, 10]⟩, .string ⟨#[49, 32, 32, 50, 32, 51, 10]⟩, .string ⟨#[45, 49, 32, 50, 32, 51, 10]⟩, .string ⟨#[49, 32, 50, 32, 49, 48, 55, 51, 55, 52, 49, 56, 50, 53, 10]⟩, .string ⟨#[10]⟩, .string ⟨#[49, 32, 50, 32, 51]⟩] 9) = z := ⟨_, rfl⟩
  rw [hV]
  have hvb : Blk V w5.heap.size 9 (oddT.map Value.string) := by rw [← hV]; exact Blk.new w5 _ _
  have hbV : Below w5.heap.size w5 V := by rw [← hV]; exact (Below.refl _ _).alloc (Nat.le_refl _) _
  obtain ⟨BV, hBV⟩ : ∃ z, w5.heap.size = z := ⟨_, rfl⟩
  have HBV := Lib.hid (HB5.out.trans (hbV.mono HB5.out.size))
  rw [hBV] at hvb ⊢
  obtain ⟨OD, hOD⟩ : ∃ z, oddT.getD kk ⟨#[]⟩ = z := ⟨_, rfl⟩
  have hoc : V.cell? ⟨BV, kk, none⟩ = some (.string OD) := hvb.cell kk (by
    rw [List.getElem?_map, ← hOD, List.getD_eq_getElem?_getD, List.getElem?_eq_getElem (show kk < oddT.length from hk10)]
    rfl)
  have hvl := hvb.lt
  have HOD := Lib.hid hOD
  have hod15 : OD.size ≤ 15 := by
    rw [← hOD]
    have h : kk = 0 ∨ kk = 1 ∨ kk = 2 ∨ kk = 3 ∨ kk = 4 ∨ kk = 5 ∨ kk = 6 ∨ kk = 7 ∨ kk = 8 ∨ kk = 9 := by omega
    rcases h with rfl | rfl | rfl | rfl | rfl | rfl | rfl | rfl | rfl | rfl <;> decide
  have HRD := Lib.hid (read_any (S ++ OD) (by rw [ByteArray.size_append]; have := HNS.out; omega) V (HW.out.below HBV.out))
  have hsd : (S ++ OD).data.toList = ((l.take kq).map (tlE d)).flatMap fmtE ++ (oddT.getD kk ⟨#[]⟩).data.toList := by
    rw [hOD, ← HS.out]
    simp [ByteArray.data_append]
  rw [hsd, readE_odd _ HALL.out (by rw [List.length_map, HKL.out]; omega) kk hk10] at HRD
  have q1 : ¬ 9223372036854775807 < S.size + OD.size := by have := HNS.out; omega
  have hkI : (kk : Int) < 10 := by omega
  have hk0I : (0 : Int) ≤ (kk : Int) := by omega
  obtain ⟨SO, hSO⟩ : ∃ z, S ++ OD = z := ⟨_, rfl⟩
  rw [hSO] at HRD
  clear hV hvb hbV hBV hOD hsd hod15
  go_wp2_with fail
  refine (HPK.out V).mono ?_
  rintro e V2 ⟨rfl, rfl⟩
  by_cases h0 : kk = 0
  · subst h0
    have HW5 : Hid (Calls Tryd.prog 11 #[.string SO] V (ReadPost V (.inl 5))) := HRD
    go_wp2_with fail
    refine HW5.out.mono ?_
    rintro e w7 ⟨hb7, rfl⟩
    have HBE := Lib.hid (HBV.out.trans (hb7.mono HBV.out.size))
    clear hb7
    go_wp2_with fail
    go_ret
    exact ⟨by simp, HBE.out⟩
  · by_cases h9 : kk = 9
    · subst h9
      have HW5 : Hid (Calls Tryd.prog 11 #[.string SO] V (ReadPost V (.inl 5))) := HRD
      go_wp2_with fail
      refine HW5.out.mono ?_
      rintro e w7 ⟨hb7, rfl⟩
      have HBE := Lib.hid (HBV.out.trans (hb7.mono HBV.out.size))
      clear hb7
      go_wp2_with fail
      go_ret
      exact ⟨by simp, HBE.out⟩
    · have ho : oddW kk = 4 := by unfold oddW; rw [if_neg (by omega)]
      rw [ho] at HRD
      have r1 : ¬ (kk : Int) = 0 := by omega
      have r2 : ¬ (kk : Int) = 9 := by omega
      have r3 : ((kk : Int) == 0) = false := by simpa using h0
      have r4 : ((kk : Int) == 9) = false := by simpa using r2
      clear ho
      go_wp2_with fail
      refine HRD.out.mono ?_
      rintro e w7 ⟨hb7, rfl⟩
      have HBE := Lib.hid (HBV.out.trans (hb7.mono HBV.out.size))
      clear hb7
      go_wp2_with fail
      go_ret
      exact ⟨by simp, HBE.out⟩
set_option maxRecDepth 100000 in
theorem tallyBad_contract (H : Type) (enc : TypeId × Value → H) (W : World) (base : Nat) (args : Array Value) (ds gs : List (DataW H)) (before : List MemPlace)
    (hval : ∀ (j : Nat) t v, Tryd.f8.params[j]? = some t → args[j]? = some v → Value.okWide Tryd.prog W .any base t v)
    (hW : DataW.Whole enc Tryd.prog Tryd.f8.params.toList Rows.tallyBadSpec.vars false W args.toList ds gs before) (hL : laidMetH Tryd.prog Rows.tallyBadRow.laid W) (hS : W.ShapedOpen Tryd.prog)
    (hz : (DataW.weightsEach Tryd.prog (Tryd.f8.params.toList ++ (OpenSpec.ofChange Rows.tallyBadSpec).bare.plain.varTypes Tryd.prog) (ds ++ gs)).all (· ≤ reachBytes) = true) :
    Calls Tryd.prog 8 args W fun e W' => ∃ v, e = .returned v ∧ Rows.tallyBadSpec.post enc Tryd.prog Tryd.f8 false true false false W args v W' := by
  have hT : TlyW W := tlyW_any hL hS
  have hT5 : Tabs W := tabs_any hL
  have hW0 := hW
  obtain ⟨p, q, hA0, hV, rfl, hfz, hnd⟩ := hW
  have hA : DataW.TrodAll enc Tryd.prog W 0 (fun _ => true) true Tryd.f8.params.toList args.toList ds p := hA0
  rw [Tryd.params8] at hA hval
  obtain ⟨v0, vs0, d0, ds0, p0, q0, hargs, rfl, rfl, h0, r0⟩ := trodAll_cons hA
  obtain ⟨v1, vs1, d1, ds1, p1, q1, rfl, rfl, rfl, h1, r1⟩ := trodAll_cons r0
  obtain ⟨rfl, rfl, rfl⟩ := trodAll_nil r1
  obtain rfl : args = #[v0, v1] := by cases args; simp_all
  obtain ⟨rfl, rfl⟩ := trodVars_none hV
  clear hA0
  obtain ⟨A, cap, L, rfl, hcap, hcm, hR, hd⟩ := open_raws (hval 0 22 v0 rfl rfl) h0
  obtain ⟨n, rfl, rfl, rfl, wn⟩ := open_int Tryd.underlying3 (hval 1 3 v1 rfl rfl) h1
  have hL : L.length ≤ 140737488355328 := by
    rcases hd with ⟨-, rfl, -⟩ | ⟨elems, spare, rfl, hl⟩
    · exact Nat.zero_le _
    · have h1 := sized_slice hz (j := 0) (t := 22) (by rw [Tryd.params8]; rfl) rfl Tryd.underlying22
      have h2 : Tryd.prog.bytesOf 26 = 32 := by kernel_rfl
      have h3 := reachBytes_lt
      rw [h2, hl] at h1
      omega
  refine (tallyBad_walk L A cap n (i64_of_wf wn) W hT5 hT hR hL hcap).mono fun e W' ⟨he, hb⟩ => ?_
  subst he
  exact ⟨_, rfl, law_post hW0 rfl rfl (by kernel_rfl) (by kernel_rfl) hb⟩
set_option maxRecDepth 100000 in
theorem tallyBad_met (os : Os) : laidMet Tryd.prog Rows.tallyBadRow.laid ((World.laidAll Tryd.prog os Rows.tallyBadRow.laid).forCall (fun _ _ => 0) ⟨#[], #[.slice none 0 0, .int .i64 0], []⟩).memory :=
  laidMet_laidAll _ (by kernel_rfl) (by kernel_rfl)
set_option maxRecDepth 100000 in
theorem tallyBad_reads (os : Os) {H : Type} (enc : TypeId × Value → H) : ∃ places, DataW.whole enc Tryd.prog ((World.laidAll Tryd.prog os Rows.tallyBadRow.laid).forCall (fun _ _ => 0) ⟨#[], #[.slice none 0 0, .int .i64 0], []⟩).memory Tryd.f8.params.toList Rows.tallyBadSpec.vars false (#[.slice none 0 0, .int .i64 0] : Array Value).toList 8 = some ([.nil, .lit (.int .i64 0)], [], places) :=
  ⟨[], by kernel_rfl⟩
set_option maxRecDepth 100000 in
theorem tallyBad_lifted (os : Os) (started : os.Started) (H : Type) (enc : TypeId × Value → H) (F : Stop.Interp) :
    ReturnsInHanded {} Tryd.checked os 8 .any ((OpenSpec.ofChange Rows.tallyBadSpec).preRow enc Tryd.prog Tryd.f8 Rows.tallyBadRow.domain false Rows.tallyBadRow.laid) (((OpenSpec.ofChange Rows.tallyBadSpec).at F).post enc Tryd.prog Tryd.f8 false true false false) := by
  obtain ⟨places, hx⟩ := tallyBad_reads os enc
  refine returnsInHanded_of_row (C := Tryd.checked) (s := OpenSpec.ofChange Rows.tallyBadSpec) ownP started (by kernel_rfl) Tryd.func8
    (witness_row_at (enc := enc) (C := Tryd.checked) false (World.laidAll Tryd.prog os Rows.tallyBadRow.laid) #[.slice none 0 0, .int .i64 0] (World.laidAll_os _ _ _) (by kernel_rfl) (by kernel_rfl) (by kernel_rfl)
      (OpenSpec.preRow_of_cond 8 hx (by kernel_rfl) (fun k hk => by cases hk) (by kernel_rfl) (tallyBad_met os))) ?_
  intro W base args ds gs before hval hW _ _ hreach hL hS _
  exact tallyBad_contract H enc W base args ds gs before hval hW hL hS hreach
set_option maxRecDepth 100000 in
theorem tallyBad_said : Rows.TallyBadSaid :=
  OpenClaim.holds_of_cond 8 Tryd.f8 rfl rfl rfl rfl rfl rfl rfl ⟨rfl, rfl, rfl, rfl, rfl⟩ rfl rfl rfl rfl rfl (by kernel_rfl) Tryd.func8 (by kernel_rfl)
    (of_decide_eq_true (by kernel_rfl)) (by unfold Func.isWrapper; first | (rw [if_pos (by decide +kernel)]; kernel_rfl) | (rw [if_neg (by decide +kernel)]; exact ⟨rfl, rfl⟩))
    (fun os started H enc _ F => by rw [OpenClaim.pre_eq_preRow]; exact tallyBad_lifted os started H enc F)
set_option maxRecDepth 100000 in
theorem tallyBad_plain (f : FuncId) (fn : Func) (hf : Tryd.pinned.checked.prog.funcNamed "bolthole/boltholekeep.TallyBad" = some f) (hfn : Tryd.pinned.checked.prog.funcs[f]? = some fn) :
    ∀ (j : Nat) t, fn.params[j]? = some t → Tryd.pinned.checked.prog.wantsStandIn t = false := by
  obtain rfl : f = 8 := Option.some.inj ((show Tryd.prog.funcNamed "bolthole/boltholekeep.TallyBad" = some 8 by kernel_rfl).symm.trans hf) |>.symm
  obtain rfl : fn = Tryd.f8 := (Option.some.inj (Tryd.func8.symm.trans hfn)).symm
  intro j t ht
  have hall : ∀ t ∈ Tryd.f8.params, Tryd.prog.wantsStandIn t = false := by
    rw [Tryd.params8]
    intro t ht
    simp only [List.mem_toArray, List.mem_cons, List.not_mem_nil, or_false] at ht
    rcases ht with rfl | rfl
    all_goals kernel_rfl
  exact hall t (Array.mem_of_getElem? ht)
set_option maxRecDepth 100000 in
theorem tallyBad_card : Rows.TallyBadCardSaid :=
  Claim7.holds_tied_plain_at .later [] _ _ _ _ tallyBad_said (fun _ h => by cases h) (by kernel_rfl) (fun _ h => by cases h) tallyBad_row_tie rfl ⟨rfl, rfl⟩ (by kernel_rfl) rfl (fun f fn hf hfn => ⟨by kernel_rfl, tallyBad_plain f fn hf hfn⟩) (by kernel_rfl)
end Go.Proofs.YtcafhoobeggmeaaDoor
