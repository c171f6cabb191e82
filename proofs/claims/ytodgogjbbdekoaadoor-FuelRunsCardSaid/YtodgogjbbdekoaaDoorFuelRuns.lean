/- The given statement on FuelRuns, proved: with more fuel a run goes on from where it was. No condition of its own. -/
import Derived.Test.YtodgogjbbdekoaaDoorLawS
import Derived.Test.YtodgogjbbdekoaaDoorRunW
import Derived.Test.YtodgogjbbdekoaaDoorRegX
import Derived.Test.YtodgogjbbdekoaaDoorEqI
import Derived.Deep.DeepCutAuto
import Derived.Deep.CutBlock
import Derived.Deep.QuietTactic
import Derived.BigQuiet
import Derived.IntWalk
import Derived.WalkLawsBesides
namespace Go.Proofs.YtodgogjbbdekoaaDoor
open Go.ChangeShapes Go.WideShapes Go.ChangeAt Go.RowKit Go.Joins
open Go.ChangeMaps (open_string)
set_option maxHeartbeats 8000000 in
set_option maxRecDepth 100000 in
theorem fuelRuns_walk (l : List RawI) (A : Option Addr) (c : Nat) (il : List Int) (iA : Option Addr) (ic : Nat) (n more : Int) (hn : N64 n) (hmore : N64 more) (w : World) (hT : Tabs w) (hR : RdR w w.heap.size A l) (hl : l.length ≤ 140737488355328) (hc : l.length ≤ c)
    (hi64 : ∀ x ∈ il, N64 x) (hin : RdG w w.heap.size iA (intsV .i64 il)) (hill : il.length ≤ 140737488355328) (hilc : il.length ≤ ic) :
    Calls Tryd.prog 13 #[.slice A l.length c, .slice iA il.length ic, .int .i64 n, .int .i64 more] w fun e w' => e = .returned (.bool true) ∧ Below w.heap.size w w' := by
  have HPG := Lib.hid (fun W (hW : Below w.heap.size w W) => program_any l A c W (hT.below hW) ((hR.below hW).more hW.size) hc hl)
  have HIN := Lib.hid (fun W (hW : Below w.heap.size w W) => inputs_any il iA ic W hi64 ((hin.below hW).more hW.size) hill hilc)
  have HPN := Lib.hid (fun W => picked_any n 60 W hn.1 hn.2 (by decide) (by decide))
  have HPM := Lib.hid (fun W => picked_any more 60 W hmore.1 hmore.2 (by decide) (by decide))
  have hk := pickL_bd n 60 (by decide)
  have hd := pickL_bd more 60 (by decide)
  obtain ⟨k0, hk0⟩ : ∃ z, pickL n 60 = z := ⟨_, rfl⟩
  obtain ⟨d0, hd0⟩ : ∃ z, pickL more 60 = z := ⟨_, rfl⟩
  rw [hk0] at hk HPN
  rw [hd0] at hd HPM
  obtain ⟨k, rfl⟩ := Int.eq_ofNat_of_zero_le hk.1
  obtain ⟨d, rfl⟩ := Int.eq_ofNat_of_zero_le hd.1
  obtain ⟨ll, hll⟩ : ∃ z, l.length = z := ⟨_, rfl⟩
  obtain ⟨nl, hnl⟩ : ∃ z, il.length = z := ⟨_, rfl⟩
  obtain ⟨q, hq⟩ : ∃ z, (inpL il).length = z := ⟨_, rfl⟩
  have HQ := Lib.hid hq
  have HQ8 : Hid (q ≤ 8) := Lib.hid (by rw [← hq]; exact inpL_len il)
  rw [hll] at HPG ⊢
  rw [hnl] at HIN ⊢
  have HT := Lib.hid hT
  clear hT hR hl hc hll hnl hq hi64 hin hill hilc hn hmore hk0 hd0
  go_enter Tryd.func13, Tryd.ntmps13
  go_wp2_with fail
  refine (stepEnds_any w HT.out).mono ?_
  rintro e w1 ⟨rfl, hb1⟩
  have HB1 := Lib.hid hb1
  clear hb1
  go_wp2_with fail
  refine (HPG.out w1 HB1.out).mono ?_
  rintro e wp ⟨hb2, ⟨tA, tc, fA, fc, bA, bc, dA, dc, lA, lc⟩, m, rfl, hown, hok, hpg⟩
  have HCK := Lib.hid hpg.check
  have HRD := Lib.hid hown.rd
  have HOK := Lib.hid hok
  have HB2 := Lib.hid (HB1.out.trans (hb2.mono HB1.out.size))
  clear hb2 hown hok hpg HPG HB1
  unfold Img.val
  simp only at *
  go_wp2_with fail
  refine (HPN.out _).mono ?_
  rintro e wq ⟨rfl, rfl⟩
  obtain ⟨X, hX⟩ : ∃ X, wp.alloc (.cells #[.slice tA m.text.length tc, .slice fA m.funcs.length fc, .slice bA m.tables.length bc, .slice dA m.data.length dc, .slice lA m.lines.length lc, .int .i64 m.entry] 29) = X := ⟨_, rfl⟩
  have hm1 : Blk X wp.heap.size 29 [.slice tA m.text.length tc, .slice fA m.funcs.length fc, .slice bA m.tables.length bc, .slice dA m.data.length dc, .slice lA m.lines.length lc, .int .i64 m.entry] := by rw [← hX]; exact heap_alloc_new wp _
  have hbX : Below wp.heap.size wp X := by rw [← hX]; exact (Below.refl _ _).alloc (Nat.le_refl _) _
  have HWX := Lib.hid (HB2.out.trans (hbX.mono HB2.out.size))
  have HIX := Lib.hid ((HRD.out.below hbX).more hbX.size)
  have HM1 := Lib.hid hm1
  rw [hX]
  have m0 := hm1.cell 0 rfl
  have m1 := hm1.cell 1 rfl
  have m2 := hm1.cell 2 rfl
  have m3 := hm1.cell 3 rfl
  have m4 := hm1.cell 4 rfl
  have m5 := hm1.cell 5 rfl
  have ml := hm1.lt
  have HML : Hid (wp.heap.size < X.heap.size) := Lib.hid ml
  clear hX hm1 hbX
  obtain ⟨⟨t, ht⟩, g1, g2, g3⟩ := fuel_plain m (inpL il) k d
  obtain ⟨S1, hS1⟩ : ∃ z, runS m (inpL il) (k : Int) = z := ⟨_, rfl⟩
  obtain ⟨S2, hS2⟩ : ∃ z, runS m (inpL il) ((k + d : Nat) : Int) = z := ⟨_, rfl⟩
  rw [hS1] at ht g1 g2 g3
  rw [hS2] at ht g3
  have HRS1 := Lib.hid hS1
  have HRS2 := Lib.hid hS2
  obtain ⟨T1, hT1⟩ : ∃ z, S1.told = z := ⟨_, rfl⟩
  obtain ⟨T2, hT2⟩ : ∃ z, S2.told = z := ⟨_, rfl⟩
  obtain ⟨n1, hn1⟩ : ∃ z, T1.length = z := ⟨_, rfl⟩
  obtain ⟨n2, hn2⟩ : ∃ z, T2.length = z := ⟨_, rfl⟩
  obtain ⟨E1, hE1⟩ : ∃ z, S1.en = z := ⟨_, rfl⟩
  obtain ⟨E2, hE2⟩ : ∃ z, S2.en = z := ⟨_, rfl⟩
  obtain ⟨St1, hSt1⟩ : ∃ z, S1.steps = z := ⟨_, rfl⟩
  obtain ⟨St2, hSt2⟩ : ∃ z, S2.steps = z := ⟨_, rfl⟩
  obtain ⟨P1, hP1⟩ : ∃ z, S1.pc = z := ⟨_, rfl⟩
  obtain ⟨P2, hP2⟩ : ∃ z, S2.pc = z := ⟨_, rfl⟩
  rw [hT1, hT2] at ht
  rw [hE1, hE2, hSt1, hSt2, hP1, hP2] at g3
  rw [hSt1] at g1 g2
  have HTT : Hid (T2 = T1 ++ t) := Lib.hid ht
  have HN1 := Lib.hid hn1
  have HN2 := Lib.hid hn2
  have hn60 : n1 ≤ k := by rw [← hn1, ← hT1, ← hS1]; exact told_len m (inpL il) k
  have hn12 : n1 ≤ n2 := by rw [← hn1, ← hn2, ht, List.length_append]; omega
  have HG3 := Lib.hid g3
  have hI64 : ∀ x ∈ inpL il, N64 x := fun x hx => by have := inpL_bd il x hx; unfold N64; omega
  have hI41 : ∀ x ∈ inpL il, N41 x := fun x hx => by have := inpL_bd il x hx; unfold N41; omega
  have HIB := Lib.hid hI64
  have HIB1 := Lib.hid hI41
  have HRUN1 : Hid (∀ W A c, Below X.heap.size X W → RdG W W.heap.size A (intsV .i64 (inpL il)) → q ≤ c → Calls Tryd.prog 24 #[.agg #[.slice tA m.text.length tc, .slice fA m.funcs.length fc, .slice bA m.tables.length bc, .slice dA m.data.length dc, .slice lA m.lines.length lc, .int .i64 m.entry], .slice A q c, .int .i64 (k : Int)] W (RunP W T1 n1 E1 St1 P1)) := Lib.hid fun W A c hW hr hqc => by
    have h := run_rp m ⟨tA, tc, fA, fc, bA, bc, dA, dc, lA, lc⟩ A c (inpL il) (k : Int) W S1 T1 n1 E1 St1 P1 (HT.out.below (HWX.out.trans (hW.mono HWX.out.size))) ((HIX.out.below hW).more hW.size) HOK.out hr (by rw [HQ.out]; exact hqc) (by rw [HQ.out]; have := HQ8.out; omega) (by unfold N64; omega) HIB.out
      (runE_fuel HCK.out (by omega) (by rw [HQ.out]; have := HQ8.out; omega) HIB1.out) HRS1.out hT1 HN1.out hE1 hSt1 hP1
    rw [HQ.out] at h
    exact h
  have HRUN2 : Hid (∀ W A c, Below X.heap.size X W → RdG W W.heap.size A (intsV .i64 (inpL il)) → q ≤ c → Calls Tryd.prog 24 #[.agg #[.slice tA m.text.length tc, .slice fA m.funcs.length fc, .slice bA m.tables.length bc, .slice dA m.data.length dc, .slice lA m.lines.length lc, .int .i64 m.entry], .slice A q c, .int .i64 ((k : Int) + (d : Int))] W (RunP W T2 n2 E2 St2 P2)) := Lib.hid fun W A c hW hr hqc => by
    have h := run_rp m ⟨tA, tc, fA, fc, bA, bc, dA, dc, lA, lc⟩ A c (inpL il) ((k + d : Nat) : Int) W S2 T2 n2 E2 St2 P2 (HT.out.below (HWX.out.trans (hW.mono HWX.out.size))) ((HIX.out.below hW).more hW.size) HOK.out hr (by rw [HQ.out]; exact hqc) (by rw [HQ.out]; have := HQ8.out; omega) (by unfold N64; omega) HIB.out
      (runE_fuel HCK.out (by omega) (by rw [HQ.out]; have := HQ8.out; omega) HIB1.out) HRS2.out hT2 HN2.out hE2 hSt2 hP2
    rw [HQ.out] at h
    exact h
  have HINP : Hid (∀ W, Below X.heap.size X W → Calls Tryd.prog 34 #[.slice iA nl ic] W (InpPost W il)) := Lib.hid fun W hW => HIN.out W (HWX.out.trans (hW.mono HWX.out.size))
  clear ht g3 hS1 hS2 hT1 hT2 hn1 hn2 hE1 hE2 hSt1 hSt2 hP1 hP2 hI64 hI41 HIN HPN
  obtain ⟨-, hk2⟩ := hk
  obtain ⟨-, hd2⟩ := hd
  go_upto_region 5 with fail
  go_cut [11, 12] (fun s11 s12 wx => ∃ (b : Nat) (A : Option Addr) (c : Nat), s11 = .pointer (some ⟨b, 0, none⟩) ∧ s12 = .int .i64 0 ∧ Hid (RunVar X wx b A c T1 n1 E1 St1 P1))
  case first =>
    as_aux_lemma =>
    refine wp_region_W (fun w' => w'.cell? ⟨wp.heap.size, 0, none⟩ = some (.slice tA m.text.length tc) ∧ w'.cell? ⟨wp.heap.size, 1, none⟩ = some (.slice fA m.funcs.length fc) ∧ w'.cell? ⟨wp.heap.size, 2, none⟩ = some (.slice bA m.tables.length bc) ∧ w'.cell? ⟨wp.heap.size, 3, none⟩ = some (.slice dA m.data.length dc) ∧ w'.cell? ⟨wp.heap.size, 4, none⟩ = some (.slice lA m.lines.length lc) ∧ w'.cell? ⟨wp.heap.size, 5, none⟩ = some (.int .i64 m.entry)) 11 (by kernel_rfl) (by (try dsimp only); go_keep) (fun hHeld => ?_)
    have hbD : Below X.heap.size X X.drew := (Below.refl _ _).drew
    refine wpW_take 0 (v := ?_) rfl (by kernel_rfl) (by kernel_rfl) (by kernel_rfl) (by kernel_rfl) (fun _ _ _ h => h) (Or.inl ⟨by rfl, ?_⟩) hHeld ?_
    rotate_left
    · intro w hSw
      try dsimp only at hSw
      go_simp
      try with_reducible rfl
    try simp only [Act.put, List.setIfInBounds_toArray, List.set_cons_zero, List.set_cons_succ]
    refine wpW_take 1 (v := ?_) rfl (by kernel_rfl) (by kernel_rfl) (by kernel_rfl) (by kernel_rfl) (fun _ _ _ h => h) (Or.inl ⟨by rfl, ?_⟩) hHeld ?_
    rotate_left
    · intro w hSw
      try dsimp only at hSw
      go_simp
      try with_reducible rfl
    try simp only [Act.put, List.setIfInBounds_toArray, List.set_cons_zero, List.set_cons_succ]
    refine wpW_take 3 (v := ?_) rfl (by kernel_rfl) (by kernel_rfl) (by kernel_rfl) (by kernel_rfl) (fun _ _ _ h => h) (Or.inl ⟨by rfl, ?_⟩) hHeld ?_
    rotate_left
    · intro w hSw
      try dsimp only at hSw
      go_simp
      try with_reducible rfl
    try simp only [Act.put, List.setIfInBounds_toArray, List.set_cons_zero, List.set_cons_succ]
    refine wpW_all [2, 8] (by kernel_rfl) (by simp) ?_
    refine AllW.cons (i := 2) rfl (fun K hK => ?_) ?_
    · skip
      go_simp
      refine (HINP.out X.drew hbD).mono ?_
      rintro e w2 ⟨hb2, A2, c2, rfl, ho2⟩
      have hr2 := own_rdg ho2
      have hcp2 := own_capG ho2
      rw [HQ.out] at hcp2 ⊢
      clear ho2
      have hbX2 : Below X.heap.size X w2 := hbD.trans (hb2.mono hbD.size)
      have y2_0 : w2.cell? ⟨wp.heap.size, 0, none⟩ = some (.slice tA m.text.length tc) := (hbX2.cell HML.out).trans m0
      have y2_1 : w2.cell? ⟨wp.heap.size, 1, none⟩ = some (.slice fA m.funcs.length fc) := (hbX2.cell HML.out).trans m1
      have y2_2 : w2.cell? ⟨wp.heap.size, 2, none⟩ = some (.slice bA m.tables.length bc) := (hbX2.cell HML.out).trans m2
      have y2_3 : w2.cell? ⟨wp.heap.size, 3, none⟩ = some (.slice dA m.data.length dc) := (hbX2.cell HML.out).trans m3
      have y2_4 : w2.cell? ⟨wp.heap.size, 4, none⟩ = some (.slice lA m.lines.length lc) := (hbX2.cell HML.out).trans m4
      have y2_5 : w2.cell? ⟨wp.heap.size, 5, none⟩ = some (.int .i64 m.entry) := (hbX2.cell HML.out).trans m5
      refine hK.out _ _ (by (try dsimp only); go_keep) (fun hHeld => ?_)
      clear hK K
      try simp only [Act.put, List.setIfInBounds_toArray, List.set_cons_zero, List.set_cons_succ]
      refine wpW_all [4, 8] (by kernel_rfl) (by simp) ?_
      refine AllW.cons (i := 4) rfl (fun K hK => ?_) ?_
      · skip
        go_simp
        have hri4 := hr2
        refine (HRUN1.out w2 A2 c2 hbX2 hri4 hcp2).mono ?_
        rintro e w4 ⟨hb4, A4, c4, rfl, hrow4⟩
        have hbX4 : Below X.heap.size X w4 := hbX2.trans (hb4.mono hbX2.size)
        have y4_0 : w4.cell? ⟨wp.heap.size, 0, none⟩ = some (.slice tA m.text.length tc) := (hbX4.cell HML.out).trans m0
        have y4_1 : w4.cell? ⟨wp.heap.size, 1, none⟩ = some (.slice fA m.funcs.length fc) := (hbX4.cell HML.out).trans m1
        have y4_2 : w4.cell? ⟨wp.heap.size, 2, none⟩ = some (.slice bA m.tables.length bc) := (hbX4.cell HML.out).trans m2
        have y4_3 : w4.cell? ⟨wp.heap.size, 3, none⟩ = some (.slice dA m.data.length dc) := (hbX4.cell HML.out).trans m3
        have y4_4 : w4.cell? ⟨wp.heap.size, 4, none⟩ = some (.slice lA m.lines.length lc) := (hbX4.cell HML.out).trans m4
        have y4_5 : w4.cell? ⟨wp.heap.size, 5, none⟩ = some (.int .i64 m.entry) := (hbX4.cell HML.out).trans m5
        refine hK.out _ _ (by (try dsimp only); go_keep) (fun hHeld => ?_)
        clear hK K
        try simp only [Act.put, List.setIfInBounds_toArray, List.set_cons_zero, List.set_cons_succ]
        refine wpW_take 5 (v := ?_) rfl (by kernel_rfl) (by kernel_rfl) (by kernel_rfl) (by kernel_rfl) (fun _ _ _ h => h) (Or.inl ⟨by rfl, ?_⟩) hHeld ?_
        rotate_left
        · intro w hSw
          try dsimp only at hSw
          go_simp
          try with_reducible rfl
        try simp only [Act.put, List.setIfInBounds_toArray, List.set_cons_zero, List.set_cons_succ]
        refine wpW_take 6 (v := ?_) rfl (by kernel_rfl) (by kernel_rfl) (by kernel_rfl) (by kernel_rfl) (fun _ _ _ h => h) (Or.inl ⟨by rfl, ?_⟩) hHeld ?_
        rotate_left
        · intro w hSw
          try dsimp only at hSw
          go_simp
          try with_reducible rfl
        try simp only [Act.put, List.setIfInBounds_toArray, List.set_cons_zero, List.set_cons_succ]
        refine wpW_take 7 (v := ?_) rfl (by kernel_rfl) (by kernel_rfl) (by kernel_rfl) (by kernel_rfl) (fun _ _ _ h => h) (Or.inl ⟨by rfl, ?_⟩) hHeld ?_
        rotate_left
        · intro w hSw
          try dsimp only at hSw
          go_simp
          try with_reducible rfl
        try simp only [Act.put, List.setIfInBounds_toArray, List.set_cons_zero, List.set_cons_succ]
        refine wpW_one 8 rfl (by kernel_rfl) (fun K hK => ?_)
        go_simp
        have zb0 : Blk (w4.alloc (.cells #[.slice none 0 0, .int .i64 0, .int .i64 0, .int .i64 0] 52)) (w4.heap.size) 52 [.slice none 0 0, .int .i64 0, .int .i64 0, .int .i64 0] := Blk.new w4 _ _
        have hbA : Below X.heap.size X (w4.alloc (.cells #[.slice none 0 0, .int .i64 0, .int .i64 0, .int .i64 0] 52)) := hbX4.alloc (hbX4.size) _
        have hneA : ¬ w4.heap.size = wp.heap.size := by have h1 := hbX4.size; have h2 := HML.out; omega
        refine hK.out _ _ (by (try dsimp only); go_keep) (fun hHeld => ?_)
        clear hK K
        try simp only [Act.put, List.setIfInBounds_toArray, List.set_cons_zero, List.set_cons_succ]
        refine wpW_one 9 rfl (by kernel_rfl) (fun K hK => ?_)
        go_simp
        refine hK.out _ _ (by (try dsimp only); go_keep) (fun hHeld => ?_)
        clear hK K
        try simp only [Act.put, List.setIfInBounds_toArray, List.set_cons_zero, List.set_cons_succ]
        refine wpW_take 10 (v := ?_) rfl (by kernel_rfl) (by kernel_rfl) (by kernel_rfl) (by kernel_rfl) (fun _ _ _ h => h) (Or.inl ⟨by rfl, ?_⟩) hHeld ?_
        rotate_left
        · intro w hSw
          try dsimp only at hSw
          go_simp
          try with_reducible rfl
        try simp only [Act.put, List.setIfInBounds_toArray, List.set_cons_zero, List.set_cons_succ]
        refine wpW_done (by kernel_rfl) ?_ _
        go_wp2
        go_meet
        exact ⟨_, _, _, rfl, rfl, Lib.hid (runVar_new hbX4 hrow4 hbX2.size)⟩
      refine AllW.cons (i := 8) rfl (fun K hK => ?_) AllW.nil
      go_simp
      have zb0 : Blk (w2.alloc (.cells #[.slice none 0 0, .int .i64 0, .int .i64 0, .int .i64 0] 52)) (w2.heap.size) 52 [.slice none 0 0, .int .i64 0, .int .i64 0, .int .i64 0] := Blk.new w2 _ _
      have hbA : Below X.heap.size X (w2.alloc (.cells #[.slice none 0 0, .int .i64 0, .int .i64 0, .int .i64 0] 52)) := hbX2.alloc (hbX2.size) _
      have hneA : ¬ w2.heap.size = wp.heap.size := by have h1 := hbX2.size; have h2 := HML.out; omega
      refine hK.out _ _ (by (try dsimp only); go_keep) (fun hHeld => ?_)
      clear hK K
      try simp only [Act.put, List.setIfInBounds_toArray, List.set_cons_zero, List.set_cons_succ]
      refine wpW_one 4 rfl (by kernel_rfl) (fun K hK => ?_)
      go_simp
      have hri4 : RdG (w2.alloc (.cells #[.slice none 0 0, .int .i64 0, .int .i64 0, .int .i64 0] 52)) ((w2.alloc (.cells #[.slice none 0 0, .int .i64 0, .int .i64 0, .int .i64 0] 52))).heap.size A2 (intsV .i64 (inpL il)) := (hr2.below ((Below.refl w2.heap.size w2).alloc (Nat.le_refl _) _)).more (by simp)
      refine (HRUN1.out (w2.alloc (.cells #[.slice none 0 0, .int .i64 0, .int .i64 0, .int .i64 0] 52)) A2 c2 hbA hri4 hcp2).mono ?_
      rintro e w4 ⟨hb4, A4, c4, rfl, hrow4⟩
      have hbX4 : Below X.heap.size X w4 := hbA.trans (hb4.mono hbA.size)
      have y4_0 : w4.cell? ⟨wp.heap.size, 0, none⟩ = some (.slice tA m.text.length tc) := (hbX4.cell HML.out).trans m0
      have y4_1 : w4.cell? ⟨wp.heap.size, 1, none⟩ = some (.slice fA m.funcs.length fc) := (hbX4.cell HML.out).trans m1
      have y4_2 : w4.cell? ⟨wp.heap.size, 2, none⟩ = some (.slice bA m.tables.length bc) := (hbX4.cell HML.out).trans m2
      have y4_3 : w4.cell? ⟨wp.heap.size, 3, none⟩ = some (.slice dA m.data.length dc) := (hbX4.cell HML.out).trans m3
      have y4_4 : w4.cell? ⟨wp.heap.size, 4, none⟩ = some (.slice lA m.lines.length lc) := (hbX4.cell HML.out).trans m4
      have y4_5 : w4.cell? ⟨wp.heap.size, 5, none⟩ = some (.int .i64 m.entry) := (hbX4.cell HML.out).trans m5
      have zb5 := zb0.keep hb4
      have zc4_0 := zb5.cell 0 rfl
      have zf4_0 := zb5.free 0
      have zc4_1 := zb5.cell 1 rfl
      have zf4_1 := zb5.free 1
      have zc4_2 := zb5.cell 2 rfl
      have zf4_2 := zb5.free 2
      have zc4_3 := zb5.cell 3 rfl
      have zf4_3 := zb5.free 3
      have zl4 := zb5.lt
      refine hK.out _ _ (by (try dsimp only); go_keep) (fun hHeld => ?_)
      clear hK K
      try simp only [Act.put, List.setIfInBounds_toArray, List.set_cons_zero, List.set_cons_succ]
      refine wpW_take 5 (v := ?_) rfl (by kernel_rfl) (by kernel_rfl) (by kernel_rfl) (by kernel_rfl) (fun _ _ _ h => h) (Or.inl ⟨by rfl, ?_⟩) hHeld ?_
      rotate_left
      · intro w hSw
        try dsimp only at hSw
        go_simp
        try with_reducible rfl
      try simp only [Act.put, List.setIfInBounds_toArray, List.set_cons_zero, List.set_cons_succ]
      refine wpW_take 6 (v := ?_) rfl (by kernel_rfl) (by kernel_rfl) (by kernel_rfl) (by kernel_rfl) (fun _ _ _ h => h) (Or.inl ⟨by rfl, ?_⟩) hHeld ?_
      rotate_left
      · intro w hSw
        try dsimp only at hSw
        go_simp
        try with_reducible rfl
      try simp only [Act.put, List.setIfInBounds_toArray, List.set_cons_zero, List.set_cons_succ]
      refine wpW_take 7 (v := ?_) rfl (by kernel_rfl) (by kernel_rfl) (by kernel_rfl) (by kernel_rfl) (fun _ _ _ h => h) (Or.inl ⟨by rfl, ?_⟩) hHeld ?_
      rotate_left
      · intro w hSw
        try dsimp only at hSw
        go_simp
        try with_reducible rfl
      try simp only [Act.put, List.setIfInBounds_toArray, List.set_cons_zero, List.set_cons_succ]
      refine wpW_one 9 rfl (by kernel_rfl) (fun K hK => ?_)
      go_simp
      refine hK.out _ _ (by (try dsimp only); go_keep) (fun hHeld => ?_)
      clear hK K
      try simp only [Act.put, List.setIfInBounds_toArray, List.set_cons_zero, List.set_cons_succ]
      refine wpW_take 10 (v := ?_) rfl (by kernel_rfl) (by kernel_rfl) (by kernel_rfl) (by kernel_rfl) (fun _ _ _ h => h) (Or.inl ⟨by rfl, ?_⟩) hHeld ?_
      rotate_left
      · intro w hSw
        try dsimp only at hSw
        go_simp
        try with_reducible rfl
      try simp only [Act.put, List.setIfInBounds_toArray, List.set_cons_zero, List.set_cons_succ]
      refine wpW_done (by kernel_rfl) ?_ _
      go_wp2
      go_meet
      exact ⟨_, _, _, rfl, rfl, Lib.hid (runVar_old zb5 hbX4 hbX2.size hrow4 zb0.lt hbA.size)⟩
    refine AllW.cons (i := 8) rfl (fun K hK => ?_) AllW.nil
    go_simp
    have zb0 : Blk (X.alloc (.cells #[.slice none 0 0, .int .i64 0, .int .i64 0, .int .i64 0] 52)).drew (X.heap.size) 52 [.slice none 0 0, .int .i64 0, .int .i64 0, .int .i64 0] := Blk.drew (Blk.new X _ _)
    have hbA : Below X.heap.size X (X.alloc (.cells #[.slice none 0 0, .int .i64 0, .int .i64 0, .int .i64 0] 52)).drew := ((Below.refl _ _).alloc (Nat.le_refl _) _).drew
    have hneA : ¬ X.heap.size = wp.heap.size := by have h1 := hbD.size; have h2 := HML.out; omega
    refine hK.out _ _ (by (try dsimp only); go_keep) (fun hHeld => ?_)
    clear hK K
    try simp only [Act.put, List.setIfInBounds_toArray, List.set_cons_zero, List.set_cons_succ]
    refine wpW_one 2 rfl (by kernel_rfl) (fun K hK => ?_)
    go_simp
    refine (HINP.out (X.alloc (.cells #[.slice none 0 0, .int .i64 0, .int .i64 0, .int .i64 0] 52)).drew hbA).mono ?_
    rintro e w2 ⟨hb2, A2, c2, rfl, ho2⟩
    have hr2 := own_rdg ho2
    have hcp2 := own_capG ho2
    rw [HQ.out] at hcp2 ⊢
    clear ho2
    have hbX2 : Below X.heap.size X w2 := hbA.trans (hb2.mono hbA.size)
    have y2_0 : w2.cell? ⟨wp.heap.size, 0, none⟩ = some (.slice tA m.text.length tc) := (hbX2.cell HML.out).trans m0
    have y2_1 : w2.cell? ⟨wp.heap.size, 1, none⟩ = some (.slice fA m.funcs.length fc) := (hbX2.cell HML.out).trans m1
    have y2_2 : w2.cell? ⟨wp.heap.size, 2, none⟩ = some (.slice bA m.tables.length bc) := (hbX2.cell HML.out).trans m2
    have y2_3 : w2.cell? ⟨wp.heap.size, 3, none⟩ = some (.slice dA m.data.length dc) := (hbX2.cell HML.out).trans m3
    have y2_4 : w2.cell? ⟨wp.heap.size, 4, none⟩ = some (.slice lA m.lines.length lc) := (hbX2.cell HML.out).trans m4
    have y2_5 : w2.cell? ⟨wp.heap.size, 5, none⟩ = some (.int .i64 m.entry) := (hbX2.cell HML.out).trans m5
    have zb3 := zb0.keep hb2
    have zc2_0 := zb3.cell 0 rfl
    have zf2_0 := zb3.free 0
    have zc2_1 := zb3.cell 1 rfl
    have zf2_1 := zb3.free 1
    have zc2_2 := zb3.cell 2 rfl
    have zf2_2 := zb3.free 2
    have zc2_3 := zb3.cell 3 rfl
    have zf2_3 := zb3.free 3
    have zl2 := zb3.lt
    refine hK.out _ _ (by (try dsimp only); go_keep) (fun hHeld => ?_)
    clear hK K
    try simp only [Act.put, List.setIfInBounds_toArray, List.set_cons_zero, List.set_cons_succ]
    refine wpW_one 4 rfl (by kernel_rfl) (fun K hK => ?_)
    go_simp
    have hri4 := hr2
    refine (HRUN1.out w2 A2 c2 hbX2 hri4 hcp2).mono ?_
    rintro e w4 ⟨hb4, A4, c4, rfl, hrow4⟩
    have hbX4 : Below X.heap.size X w4 := hbX2.trans (hb4.mono hbX2.size)
    have y4_0 : w4.cell? ⟨wp.heap.size, 0, none⟩ = some (.slice tA m.text.length tc) := (hbX4.cell HML.out).trans m0
    have y4_1 : w4.cell? ⟨wp.heap.size, 1, none⟩ = some (.slice fA m.funcs.length fc) := (hbX4.cell HML.out).trans m1
    have y4_2 : w4.cell? ⟨wp.heap.size, 2, none⟩ = some (.slice bA m.tables.length bc) := (hbX4.cell HML.out).trans m2
    have y4_3 : w4.cell? ⟨wp.heap.size, 3, none⟩ = some (.slice dA m.data.length dc) := (hbX4.cell HML.out).trans m3
    have y4_4 : w4.cell? ⟨wp.heap.size, 4, none⟩ = some (.slice lA m.lines.length lc) := (hbX4.cell HML.out).trans m4
    have y4_5 : w4.cell? ⟨wp.heap.size, 5, none⟩ = some (.int .i64 m.entry) := (hbX4.cell HML.out).trans m5
    have zb5 := zb3.keep hb4
    have zc4_0 := zb5.cell 0 rfl
    have zf4_0 := zb5.free 0
    have zc4_1 := zb5.cell 1 rfl
    have zf4_1 := zb5.free 1
    have zc4_2 := zb5.cell 2 rfl
    have zf4_2 := zb5.free 2
    have zc4_3 := zb5.cell 3 rfl
    have zf4_3 := zb5.free 3
    have zl4 := zb5.lt
    refine hK.out _ _ (by (try dsimp only); go_keep) (fun hHeld => ?_)
    clear hK K
    try simp only [Act.put, List.setIfInBounds_toArray, List.set_cons_zero, List.set_cons_succ]
    refine wpW_take 5 (v := ?_) rfl (by kernel_rfl) (by kernel_rfl) (by kernel_rfl) (by kernel_rfl) (fun _ _ _ h => h) (Or.inl ⟨by rfl, ?_⟩) hHeld ?_
    rotate_left
    · intro w hSw
      try dsimp only at hSw
      go_simp
      try with_reducible rfl
    try simp only [Act.put, List.setIfInBounds_toArray, List.set_cons_zero, List.set_cons_succ]
    refine wpW_take 6 (v := ?_) rfl (by kernel_rfl) (by kernel_rfl) (by kernel_rfl) (by kernel_rfl) (fun _ _ _ h => h) (Or.inl ⟨by rfl, ?_⟩) hHeld ?_
    rotate_left
    · intro w hSw
      try dsimp only at hSw
      go_simp
      try with_reducible rfl
    try simp only [Act.put, List.setIfInBounds_toArray, List.set_cons_zero, List.set_cons_succ]
    refine wpW_take 7 (v := ?_) rfl (by kernel_rfl) (by kernel_rfl) (by kernel_rfl) (by kernel_rfl) (fun _ _ _ h => h) (Or.inl ⟨by rfl, ?_⟩) hHeld ?_
    rotate_left
    · intro w hSw
      try dsimp only at hSw
      go_simp
      try with_reducible rfl
    try simp only [Act.put, List.setIfInBounds_toArray, List.set_cons_zero, List.set_cons_succ]
    refine wpW_one 9 rfl (by kernel_rfl) (fun K hK => ?_)
    go_simp
    refine hK.out _ _ (by (try dsimp only); go_keep) (fun hHeld => ?_)
    clear hK K
    try simp only [Act.put, List.setIfInBounds_toArray, List.set_cons_zero, List.set_cons_succ]
    refine wpW_take 10 (v := ?_) rfl (by kernel_rfl) (by kernel_rfl) (by kernel_rfl) (by kernel_rfl) (fun _ _ _ h => h) (Or.inl ⟨by rfl, ?_⟩) hHeld ?_
    rotate_left
    · intro w hSw
      try dsimp only at hSw
      go_simp
      try with_reducible rfl
    try simp only [Act.put, List.setIfInBounds_toArray, List.set_cons_zero, List.set_cons_succ]
    refine wpW_done (by kernel_rfl) ?_ _
    go_wp2
    go_meet
    exact ⟨_, _, _, rfl, rfl, Lib.hid (runVar_old zb5 hbX4 (Nat.le_refl _) hrow4 zb3.lt hbX2.size)⟩
  case rest =>
    obtain ⟨b1, A1, c1, rfl, rfl, HV1⟩ := hcut
    rename World => Y
    have HXY := Lib.hid HV1.out.2.2.1
    have hmy := HM1.out.keep HXY.out
    have n0 := hmy.cell 0 rfl
    have n1_ := hmy.cell 1 rfl
    have n2_ := hmy.cell 2 rfl
    have n3 := hmy.cell 3 rfl
    have n4 := hmy.cell 4 rfl
    have n5 := hmy.cell 5 rfl
    have HNL : Hid (wp.heap.size < Y.heap.size) := Lib.hid hmy.lt
    have HINQ : Hid (∀ W, Below Y.heap.size Y W → Calls Tryd.prog 34 #[.slice iA nl ic] W (InpPost W il)) := Lib.hid fun W hW => HINP.out W (HXY.out.trans (hW.mono HXY.out.size))
    have HRQ2 : Hid (∀ W A c, Below Y.heap.size Y W → RdG W W.heap.size A (intsV .i64 (inpL il)) → q ≤ c → Calls Tryd.prog 24 #[.agg #[.slice tA m.text.length tc, .slice fA m.funcs.length fc, .slice bA m.tables.length bc, .slice dA m.data.length dc, .slice lA m.lines.length lc, .int .i64 m.entry], .slice A q c, .int .i64 ((k : Int) + (d : Int))] W (RunP W T2 n2 E2 St2 P2)) := Lib.hid fun W A c hW => HRUN2.out W A c (HXY.out.trans (hW.mono HXY.out.size))
    have hwk : IntKind.i64.wrap ((k : Int) + (d : Int)) = (k : Int) + (d : Int) := IntWalk.i64_in _ (by omega)
    clear m0 m1 m2 m3 m4 m5 ml hmy HINP HRUN1 HRUN2
    go_upto_region 6 with fail
    go_cut [13, 14] (fun s13 s14 wx => ∃ (b : Nat) (A : Option Addr) (c : Nat), s13 = .pointer (some ⟨b, 0, none⟩) ∧ s14 = .int .i64 0 ∧ Hid (RunVar Y wx b A c T2 n2 E2 St2 P2))
    case first =>
      as_aux_lemma =>
      refine wp_region_W (fun w' => w'.cell? ⟨wp.heap.size, 0, none⟩ = some (.slice tA m.text.length tc) ∧ w'.cell? ⟨wp.heap.size, 1, none⟩ = some (.slice fA m.funcs.length fc) ∧ w'.cell? ⟨wp.heap.size, 2, none⟩ = some (.slice bA m.tables.length bc) ∧ w'.cell? ⟨wp.heap.size, 3, none⟩ = some (.slice dA m.data.length dc) ∧ w'.cell? ⟨wp.heap.size, 4, none⟩ = some (.slice lA m.lines.length lc) ∧ w'.cell? ⟨wp.heap.size, 5, none⟩ = some (.int .i64 m.entry)) 14 (by kernel_rfl) (by (try dsimp only); go_keep) (fun hHeld => ?_)
      have hbD : Below Y.heap.size Y Y.drew := (Below.refl _ _).drew
      refine wpW_take 0 (v := ?_) rfl (by kernel_rfl) (by kernel_rfl) (by kernel_rfl) (by kernel_rfl) (fun _ _ _ h => h) (Or.inl ⟨by rfl, ?_⟩) hHeld ?_
      rotate_left
      · intro w hSw
        try dsimp only at hSw
        go_simp
        try with_reducible rfl
      try simp only [Act.put, List.setIfInBounds_toArray, List.set_cons_zero, List.set_cons_succ]
      refine wpW_take 1 (v := ?_) rfl (by kernel_rfl) (by kernel_rfl) (by kernel_rfl) (by kernel_rfl) (fun _ _ _ h => h) (Or.inl ⟨by rfl, ?_⟩) hHeld ?_
      rotate_left
      · intro w hSw
        try dsimp only at hSw
        go_simp
        try with_reducible rfl
      try simp only [Act.put, List.setIfInBounds_toArray, List.set_cons_zero, List.set_cons_succ]
      refine wpW_take 3 (v := ?_) rfl (by kernel_rfl) (by kernel_rfl) (by kernel_rfl) (by kernel_rfl) (fun _ _ _ h => h) (Or.inl ⟨by rfl, ?_⟩) hHeld ?_
      rotate_left
      · intro w hSw
        try dsimp only at hSw
        go_simp
        try with_reducible rfl
      try simp only [Act.put, List.setIfInBounds_toArray, List.set_cons_zero, List.set_cons_succ]
      refine wpW_take 4 (v := ?_) rfl (by kernel_rfl) (by kernel_rfl) (by kernel_rfl) (by kernel_rfl) (fun _ _ _ h => h) (Or.inl ⟨by rfl, ?_⟩) hHeld ?_
      rotate_left
      · intro w hSw
        try dsimp only at hSw
        go_simp
        try with_reducible rfl
      try simp only [Act.put, List.setIfInBounds_toArray, List.set_cons_zero, List.set_cons_succ]
      refine wpW_all [2, 11] (by kernel_rfl) (by simp) ?_
      refine AllW.cons (i := 2) rfl (fun K hK => ?_) ?_
      · skip
        go_simp
        refine (HINQ.out Y.drew hbD).mono ?_
        rintro e w2 ⟨hb2, A2, c2, rfl, ho2⟩
        have hr2 := own_rdg ho2
        have hcp2 := own_capG ho2
        rw [HQ.out] at hcp2 ⊢
        clear ho2
        have hbX2 : Below Y.heap.size Y w2 := hbD.trans (hb2.mono hbD.size)
        have y2_0 : w2.cell? ⟨wp.heap.size, 0, none⟩ = some (.slice tA m.text.length tc) := (hbX2.cell HNL.out).trans n0
        have y2_1 : w2.cell? ⟨wp.heap.size, 1, none⟩ = some (.slice fA m.funcs.length fc) := (hbX2.cell HNL.out).trans n1_
        have y2_2 : w2.cell? ⟨wp.heap.size, 2, none⟩ = some (.slice bA m.tables.length bc) := (hbX2.cell HNL.out).trans n2_
        have y2_3 : w2.cell? ⟨wp.heap.size, 3, none⟩ = some (.slice dA m.data.length dc) := (hbX2.cell HNL.out).trans n3
        have y2_4 : w2.cell? ⟨wp.heap.size, 4, none⟩ = some (.slice lA m.lines.length lc) := (hbX2.cell HNL.out).trans n4
        have y2_5 : w2.cell? ⟨wp.heap.size, 5, none⟩ = some (.int .i64 m.entry) := (hbX2.cell HNL.out).trans n5
        refine hK.out _ _ (by (try dsimp only); go_keep) (fun hHeld => ?_)
        clear hK K
        try simp only [Act.put, List.setIfInBounds_toArray, List.set_cons_zero, List.set_cons_succ]
        refine wpW_all [5, 11] (by kernel_rfl) (by simp) ?_
        refine AllW.cons (i := 5) rfl (fun K hK => ?_) ?_
        · skip
          go_simp
          refine (HPM.out _).mono ?_
          rintro e wq ⟨rfl, rfl⟩
          refine hK.out _ _ (by (try dsimp only); go_keep) (fun hHeld => ?_)
          clear hK K
          try simp only [Act.put, List.setIfInBounds_toArray, List.set_cons_zero, List.set_cons_succ]
          refine wpW_take 6 (v := ?_) rfl (by kernel_rfl) (by kernel_rfl) (by kernel_rfl) (by kernel_rfl) (fun _ _ _ h => h) (Or.inl ⟨by rfl, ?_⟩) hHeld ?_
          rotate_left
          · intro w hSw
            try dsimp only at hSw
            go_simp
            try with_reducible rfl
          try simp only [Act.put, List.setIfInBounds_toArray, List.set_cons_zero, List.set_cons_succ]
          refine wpW_all [7, 11] (by kernel_rfl) (by simp) ?_
          refine AllW.cons (i := 7) rfl (fun K hK => ?_) ?_
          · skip
            go_simp
            have hri7 := hr2
            refine (HRQ2.out w2 A2 c2 hbX2 hri7 hcp2).mono ?_
            rintro e w7 ⟨hb7, A7, c7, rfl, hrow7⟩
            have hbX7 : Below Y.heap.size Y w7 := hbX2.trans (hb7.mono hbX2.size)
            have y7_0 : w7.cell? ⟨wp.heap.size, 0, none⟩ = some (.slice tA m.text.length tc) := (hbX7.cell HNL.out).trans n0
            have y7_1 : w7.cell? ⟨wp.heap.size, 1, none⟩ = some (.slice fA m.funcs.length fc) := (hbX7.cell HNL.out).trans n1_
            have y7_2 : w7.cell? ⟨wp.heap.size, 2, none⟩ = some (.slice bA m.tables.length bc) := (hbX7.cell HNL.out).trans n2_
            have y7_3 : w7.cell? ⟨wp.heap.size, 3, none⟩ = some (.slice dA m.data.length dc) := (hbX7.cell HNL.out).trans n3
            have y7_4 : w7.cell? ⟨wp.heap.size, 4, none⟩ = some (.slice lA m.lines.length lc) := (hbX7.cell HNL.out).trans n4
            have y7_5 : w7.cell? ⟨wp.heap.size, 5, none⟩ = some (.int .i64 m.entry) := (hbX7.cell HNL.out).trans n5
            refine hK.out _ _ (by (try dsimp only); go_keep) (fun hHeld => ?_)
            clear hK K
            try simp only [Act.put, List.setIfInBounds_toArray, List.set_cons_zero, List.set_cons_succ]
            refine wpW_take 8 (v := ?_) rfl (by kernel_rfl) (by kernel_rfl) (by kernel_rfl) (by kernel_rfl) (fun _ _ _ h => h) (Or.inl ⟨by rfl, ?_⟩) hHeld ?_
            rotate_left
            · intro w hSw
              try dsimp only at hSw
              go_simp
              try with_reducible rfl
            try simp only [Act.put, List.setIfInBounds_toArray, List.set_cons_zero, List.set_cons_succ]
            refine wpW_take 9 (v := ?_) rfl (by kernel_rfl) (by kernel_rfl) (by kernel_rfl) (by kernel_rfl) (fun _ _ _ h => h) (Or.inl ⟨by rfl, ?_⟩) hHeld ?_
            rotate_left
            · intro w hSw
              try dsimp only at hSw
              go_simp
              try with_reducible rfl
            try simp only [Act.put, List.setIfInBounds_toArray, List.set_cons_zero, List.set_cons_succ]
            refine wpW_take 10 (v := ?_) rfl (by kernel_rfl) (by kernel_rfl) (by kernel_rfl) (by kernel_rfl) (fun _ _ _ h => h) (Or.inl ⟨by rfl, ?_⟩) hHeld ?_
            rotate_left
            · intro w hSw
              try dsimp only at hSw
              go_simp
              try with_reducible rfl
            try simp only [Act.put, List.setIfInBounds_toArray, List.set_cons_zero, List.set_cons_succ]
            refine wpW_one 11 rfl (by kernel_rfl) (fun K hK => ?_)
            go_simp
            have zb0 : Blk (w7.alloc (.cells #[.slice none 0 0, .int .i64 0, .int .i64 0, .int .i64 0] 52)) (w7.heap.size) 52 [.slice none 0 0, .int .i64 0, .int .i64 0, .int .i64 0] := Blk.new w7 _ _
            have hbA : Below Y.heap.size Y (w7.alloc (.cells #[.slice none 0 0, .int .i64 0, .int .i64 0, .int .i64 0] 52)) := hbX7.alloc (hbX7.size) _
            have hneA : ¬ w7.heap.size = wp.heap.size := by have h1 := hbX7.size; have h2 := HNL.out; omega
            refine hK.out _ _ (by (try dsimp only); go_keep) (fun hHeld => ?_)
            clear hK K
            try simp only [Act.put, List.setIfInBounds_toArray, List.set_cons_zero, List.set_cons_succ]
            refine wpW_one 12 rfl (by kernel_rfl) (fun K hK => ?_)
            go_simp
            refine hK.out _ _ (by (try dsimp only); go_keep) (fun hHeld => ?_)
            clear hK K
            try simp only [Act.put, List.setIfInBounds_toArray, List.set_cons_zero, List.set_cons_succ]
            refine wpW_take 13 (v := ?_) rfl (by kernel_rfl) (by kernel_rfl) (by kernel_rfl) (by kernel_rfl) (fun _ _ _ h => h) (Or.inl ⟨by rfl, ?_⟩) hHeld ?_
            rotate_left
            · intro w hSw
              try dsimp only at hSw
              go_simp
              try with_reducible rfl
            try simp only [Act.put, List.setIfInBounds_toArray, List.set_cons_zero, List.set_cons_succ]
            refine wpW_done (by kernel_rfl) ?_ _
            go_wp2
            go_meet
            exact ⟨_, _, _, rfl, rfl, Lib.hid (runVar_new hbX7 hrow7 hbX2.size)⟩
          refine AllW.cons (i := 11) rfl (fun K hK => ?_) AllW.nil
          go_simp
          have zb0 : Blk (w2.alloc (.cells #[.slice none 0 0, .int .i64 0, .int .i64 0, .int .i64 0] 52)) (w2.heap.size) 52 [.slice none 0 0, .int .i64 0, .int .i64 0, .int .i64 0] := Blk.new w2 _ _
          have hbA : Below Y.heap.size Y (w2.alloc (.cells #[.slice none 0 0, .int .i64 0, .int .i64 0, .int .i64 0] 52)) := hbX2.alloc (hbX2.size) _
          have hneA : ¬ w2.heap.size = wp.heap.size := by have h1 := hbX2.size; have h2 := HNL.out; omega
          refine hK.out _ _ (by (try dsimp only); go_keep) (fun hHeld => ?_)
          clear hK K
          try simp only [Act.put, List.setIfInBounds_toArray, List.set_cons_zero, List.set_cons_succ]
          refine wpW_one 7 rfl (by kernel_rfl) (fun K hK => ?_)
          go_simp
          have hri7 : RdG (w2.alloc (.cells #[.slice none 0 0, .int .i64 0, .int .i64 0, .int .i64 0] 52)) ((w2.alloc (.cells #[.slice none 0 0, .int .i64 0, .int .i64 0, .int .i64 0] 52))).heap.size A2 (intsV .i64 (inpL il)) := (hr2.below ((Below.refl w2.heap.size w2).alloc (Nat.le_refl _) _)).more (by simp)
          refine (HRQ2.out (w2.alloc (.cells #[.slice none 0 0, .int .i64 0, .int .i64 0, .int .i64 0] 52)) A2 c2 hbA hri7 hcp2).mono ?_
          rintro e w7 ⟨hb7, A7, c7, rfl, hrow7⟩
          have hbX7 : Below Y.heap.size Y w7 := hbA.trans (hb7.mono hbA.size)
          have y7_0 : w7.cell? ⟨wp.heap.size, 0, none⟩ = some (.slice tA m.text.length tc) := (hbX7.cell HNL.out).trans n0
          have y7_1 : w7.cell? ⟨wp.heap.size, 1, none⟩ = some (.slice fA m.funcs.length fc) := (hbX7.cell HNL.out).trans n1_
          have y7_2 : w7.cell? ⟨wp.heap.size, 2, none⟩ = some (.slice bA m.tables.length bc) := (hbX7.cell HNL.out).trans n2_
          have y7_3 : w7.cell? ⟨wp.heap.size, 3, none⟩ = some (.slice dA m.data.length dc) := (hbX7.cell HNL.out).trans n3
          have y7_4 : w7.cell? ⟨wp.heap.size, 4, none⟩ = some (.slice lA m.lines.length lc) := (hbX7.cell HNL.out).trans n4
          have y7_5 : w7.cell? ⟨wp.heap.size, 5, none⟩ = some (.int .i64 m.entry) := (hbX7.cell HNL.out).trans n5
          have zb8 := zb0.keep hb7
          have zc7_0 := zb8.cell 0 rfl
          have zf7_0 := zb8.free 0
          have zc7_1 := zb8.cell 1 rfl
          have zf7_1 := zb8.free 1
          have zc7_2 := zb8.cell 2 rfl
          have zf7_2 := zb8.free 2
          have zc7_3 := zb8.cell 3 rfl
          have zf7_3 := zb8.free 3
          have zl7 := zb8.lt
          refine hK.out _ _ (by (try dsimp only); go_keep) (fun hHeld => ?_)
          clear hK K
          try simp only [Act.put, List.setIfInBounds_toArray, List.set_cons_zero, List.set_cons_succ]
          refine wpW_take 8 (v := ?_) rfl (by kernel_rfl) (by kernel_rfl) (by kernel_rfl) (by kernel_rfl) (fun _ _ _ h => h) (Or.inl ⟨by rfl, ?_⟩) hHeld ?_
          rotate_left
          · intro w hSw
            try dsimp only at hSw
            go_simp
            try with_reducible rfl
          try simp only [Act.put, List.setIfInBounds_toArray, List.set_cons_zero, List.set_cons_succ]
          refine wpW_take 9 (v := ?_) rfl (by kernel_rfl) (by kernel_rfl) (by kernel_rfl) (by kernel_rfl) (fun _ _ _ h => h) (Or.inl ⟨by rfl, ?_⟩) hHeld ?_
          rotate_left
          · intro w hSw
            try dsimp only at hSw
            go_simp
            try with_reducible rfl
          try simp only [Act.put, List.setIfInBounds_toArray, List.set_cons_zero, List.set_cons_succ]
          refine wpW_take 10 (v := ?_) rfl (by kernel_rfl) (by kernel_rfl) (by kernel_rfl) (by kernel_rfl) (fun _ _ _ h => h) (Or.inl ⟨by rfl, ?_⟩) hHeld ?_
          rotate_left
          · intro w hSw
            try dsimp only at hSw
            go_simp
            try with_reducible rfl
          try simp only [Act.put, List.setIfInBounds_toArray, List.set_cons_zero, List.set_cons_succ]
          refine wpW_one 12 rfl (by kernel_rfl) (fun K hK => ?_)
          go_simp
          refine hK.out _ _ (by (try dsimp only); go_keep) (fun hHeld => ?_)
          clear hK K
          try simp only [Act.put, List.setIfInBounds_toArray, List.set_cons_zero, List.set_cons_succ]
          refine wpW_take 13 (v := ?_) rfl (by kernel_rfl) (by kernel_rfl) (by kernel_rfl) (by kernel_rfl) (fun _ _ _ h => h) (Or.inl ⟨by rfl, ?_⟩) hHeld ?_
          rotate_left
          · intro w hSw
            try dsimp only at hSw
            go_simp
            try with_reducible rfl
          try simp only [Act.put, List.setIfInBounds_toArray, List.set_cons_zero, List.set_cons_succ]
          refine wpW_done (by kernel_rfl) ?_ _
          go_wp2
          go_meet
          exact ⟨_, _, _, rfl, rfl, Lib.hid (runVar_old zb8 hbX7 hbX2.size hrow7 zb0.lt hbA.size)⟩
        refine AllW.cons (i := 11) rfl (fun K hK => ?_) AllW.nil
        go_simp
        have zb0 : Blk (w2.alloc (.cells #[.slice none 0 0, .int .i64 0, .int .i64 0, .int .i64 0] 52)) (w2.heap.size) 52 [.slice none 0 0, .int .i64 0, .int .i64 0, .int .i64 0] := Blk.new w2 _ _
        have hbA : Below Y.heap.size Y (w2.alloc (.cells #[.slice none 0 0, .int .i64 0, .int .i64 0, .int .i64 0] 52)) := hbX2.alloc (hbX2.size) _
        have hneA : ¬ w2.heap.size = wp.heap.size := by have h1 := hbX2.size; have h2 := HNL.out; omega
        refine hK.out _ _ (by (try dsimp only); go_keep) (fun hHeld => ?_)
        clear hK K
        try simp only [Act.put, List.setIfInBounds_toArray, List.set_cons_zero, List.set_cons_succ]
        refine wpW_one 5 rfl (by kernel_rfl) (fun K hK => ?_)
        go_simp
        refine (HPM.out _).mono ?_
        rintro e wq ⟨rfl, rfl⟩
        refine hK.out _ _ (by (try dsimp only); go_keep) (fun hHeld => ?_)
        clear hK K
        try simp only [Act.put, List.setIfInBounds_toArray, List.set_cons_zero, List.set_cons_succ]
        refine wpW_take 6 (v := ?_) rfl (by kernel_rfl) (by kernel_rfl) (by kernel_rfl) (by kernel_rfl) (fun _ _ _ h => h) (Or.inl ⟨by rfl, ?_⟩) hHeld ?_
        rotate_left
        · intro w hSw
          try dsimp only at hSw
          go_simp
          try with_reducible rfl
        try simp only [Act.put, List.setIfInBounds_toArray, List.set_cons_zero, List.set_cons_succ]
        refine wpW_one 7 rfl (by kernel_rfl) (fun K hK => ?_)
        go_simp
        have hri7 : RdG (w2.alloc (.cells #[.slice none 0 0, .int .i64 0, .int .i64 0, .int .i64 0] 52)) ((w2.alloc (.cells #[.slice none 0 0, .int .i64 0, .int .i64 0, .int .i64 0] 52))).heap.size A2 (intsV .i64 (inpL il)) := (hr2.below ((Below.refl w2.heap.size w2).alloc (Nat.le_refl _) _)).more (by simp)
        refine (HRQ2.out (w2.alloc (.cells #[.slice none 0 0, .int .i64 0, .int .i64 0, .int .i64 0] 52)) A2 c2 hbA hri7 hcp2).mono ?_
        rintro e w7 ⟨hb7, A7, c7, rfl, hrow7⟩
        have hbX7 : Below Y.heap.size Y w7 := hbA.trans (hb7.mono hbA.size)
        have y7_0 : w7.cell? ⟨wp.heap.size, 0, none⟩ = some (.slice tA m.text.length tc) := (hbX7.cell HNL.out).trans n0
        have y7_1 : w7.cell? ⟨wp.heap.size, 1, none⟩ = some (.slice fA m.funcs.length fc) := (hbX7.cell HNL.out).trans n1_
        have y7_2 : w7.cell? ⟨wp.heap.size, 2, none⟩ = some (.slice bA m.tables.length bc) := (hbX7.cell HNL.out).trans n2_
        have y7_3 : w7.cell? ⟨wp.heap.size, 3, none⟩ = some (.slice dA m.data.length dc) := (hbX7.cell HNL.out).trans n3
        have y7_4 : w7.cell? ⟨wp.heap.size, 4, none⟩ = some (.slice lA m.lines.length lc) := (hbX7.cell HNL.out).trans n4
        have y7_5 : w7.cell? ⟨wp.heap.size, 5, none⟩ = some (.int .i64 m.entry) := (hbX7.cell HNL.out).trans n5
        have zb8 := zb0.keep hb7
        have zc7_0 := zb8.cell 0 rfl
        have zf7_0 := zb8.free 0
        have zc7_1 := zb8.cell 1 rfl
        have zf7_1 := zb8.free 1
        have zc7_2 := zb8.cell 2 rfl
        have zf7_2 := zb8.free 2
        have zc7_3 := zb8.cell 3 rfl
        have zf7_3 := zb8.free 3
        have zl7 := zb8.lt
        refine hK.out _ _ (by (try dsimp only); go_keep) (fun hHeld => ?_)
        clear hK K
        try simp only [Act.put, List.setIfInBounds_toArray, List.set_cons_zero, List.set_cons_succ]
        refine wpW_take 8 (v := ?_) rfl (by kernel_rfl) (by kernel_rfl) (by kernel_rfl) (by kernel_rfl) (fun _ _ _ h => h) (Or.inl ⟨by rfl, ?_⟩) hHeld ?_
        rotate_left
        · intro w hSw
          try dsimp only at hSw
          go_simp
          try with_reducible rfl
        try simp only [Act.put, List.setIfInBounds_toArray, List.set_cons_zero, List.set_cons_succ]
        refine wpW_take 9 (v := ?_) rfl (by kernel_rfl) (by kernel_rfl) (by kernel_rfl) (by kernel_rfl) (fun _ _ _ h => h) (Or.inl ⟨by rfl, ?_⟩) hHeld ?_
        rotate_left
        · intro w hSw
          try dsimp only at hSw
          go_simp
          try with_reducible rfl
        try simp only [Act.put, List.setIfInBounds_toArray, List.set_cons_zero, List.set_cons_succ]
        refine wpW_take 10 (v := ?_) rfl (by kernel_rfl) (by kernel_rfl) (by kernel_rfl) (by kernel_rfl) (fun _ _ _ h => h) (Or.inl ⟨by rfl, ?_⟩) hHeld ?_
        rotate_left
        · intro w hSw
          try dsimp only at hSw
          go_simp
          try with_reducible rfl
        try simp only [Act.put, List.setIfInBounds_toArray, List.set_cons_zero, List.set_cons_succ]
        refine wpW_one 12 rfl (by kernel_rfl) (fun K hK => ?_)
        go_simp
        refine hK.out _ _ (by (try dsimp only); go_keep) (fun hHeld => ?_)
        clear hK K
        try simp only [Act.put, List.setIfInBounds_toArray, List.set_cons_zero, List.set_cons_succ]
        refine wpW_take 13 (v := ?_) rfl (by kernel_rfl) (by kernel_rfl) (by kernel_rfl) (by kernel_rfl) (fun _ _ _ h => h) (Or.inl ⟨by rfl, ?_⟩) hHeld ?_
        rotate_left
        · intro w hSw
          try dsimp only at hSw
          go_simp
          try with_reducible rfl
        try simp only [Act.put, List.setIfInBounds_toArray, List.set_cons_zero, List.set_cons_succ]
        refine wpW_done (by kernel_rfl) ?_ _
        go_wp2
        go_meet
        exact ⟨_, _, _, rfl, rfl, Lib.hid (runVar_old zb8 hbX7 hbX2.size hrow7 zb0.lt hbA.size)⟩
      refine AllW.cons (i := 11) rfl (fun K hK => ?_) AllW.nil
      go_simp
      have zb0 : Blk (Y.alloc (.cells #[.slice none 0 0, .int .i64 0, .int .i64 0, .int .i64 0] 52)).drew (Y.heap.size) 52 [.slice none 0 0, .int .i64 0, .int .i64 0, .int .i64 0] := Blk.drew (Blk.new Y _ _)
      have hbA : Below Y.heap.size Y (Y.alloc (.cells #[.slice none 0 0, .int .i64 0, .int .i64 0, .int .i64 0] 52)).drew := ((Below.refl _ _).alloc (Nat.le_refl _) _).drew
      have hneA : ¬ Y.heap.size = wp.heap.size := by have h1 := hbD.size; have h2 := HNL.out; omega
      refine hK.out _ _ (by (try dsimp only); go_keep) (fun hHeld => ?_)
      clear hK K
      try simp only [Act.put, List.setIfInBounds_toArray, List.set_cons_zero, List.set_cons_succ]
      refine wpW_one 2 rfl (by kernel_rfl) (fun K hK => ?_)
      go_simp
      refine (HINQ.out (Y.alloc (.cells #[.slice none 0 0, .int .i64 0, .int .i64 0, .int .i64 0] 52)).drew hbA).mono ?_
      rintro e w2 ⟨hb2, A2, c2, rfl, ho2⟩
      have hr2 := own_rdg ho2
      have hcp2 := own_capG ho2
      rw [HQ.out] at hcp2 ⊢
      clear ho2
      have hbX2 : Below Y.heap.size Y w2 := hbA.trans (hb2.mono hbA.size)
      have y2_0 : w2.cell? ⟨wp.heap.size, 0, none⟩ = some (.slice tA m.text.length tc) := (hbX2.cell HNL.out).trans n0
      have y2_1 : w2.cell? ⟨wp.heap.size, 1, none⟩ = some (.slice fA m.funcs.length fc) := (hbX2.cell HNL.out).trans n1_
      have y2_2 : w2.cell? ⟨wp.heap.size, 2, none⟩ = some (.slice bA m.tables.length bc) := (hbX2.cell HNL.out).trans n2_
      have y2_3 : w2.cell? ⟨wp.heap.size, 3, none⟩ = some (.slice dA m.data.length dc) := (hbX2.cell HNL.out).trans n3
      have y2_4 : w2.cell? ⟨wp.heap.size, 4, none⟩ = some (.slice lA m.lines.length lc) := (hbX2.cell HNL.out).trans n4
      have y2_5 : w2.cell? ⟨wp.heap.size, 5, none⟩ = some (.int .i64 m.entry) := (hbX2.cell HNL.out).trans n5
      have zb3 := zb0.keep hb2
      have zc2_0 := zb3.cell 0 rfl
      have zf2_0 := zb3.free 0
      have zc2_1 := zb3.cell 1 rfl
      have zf2_1 := zb3.free 1
      have zc2_2 := zb3.cell 2 rfl
      have zf2_2 := zb3.free 2
      have zc2_3 := zb3.cell 3 rfl
      have zf2_3 := zb3.free 3
      have zl2 := zb3.lt
      refine hK.out _ _ (by (try dsimp only); go_keep) (fun hHeld => ?_)
      clear hK K
      try simp only [Act.put, List.setIfInBounds_toArray, List.set_cons_zero, List.set_cons_succ]
      refine wpW_one 5 rfl (by kernel_rfl) (fun K hK => ?_)
      go_simp
      refine (HPM.out _).mono ?_
      rintro e wq ⟨rfl, rfl⟩
      refine hK.out _ _ (by (try dsimp only); go_keep) (fun hHeld => ?_)
      clear hK K
      try simp only [Act.put, List.setIfInBounds_toArray, List.set_cons_zero, List.set_cons_succ]
      refine wpW_take 6 (v := ?_) rfl (by kernel_rfl) (by kernel_rfl) (by kernel_rfl) (by kernel_rfl) (fun _ _ _ h => h) (Or.inl ⟨by rfl, ?_⟩) hHeld ?_
      rotate_left
      · intro w hSw
        try dsimp only at hSw
        go_simp
        try with_reducible rfl
      try simp only [Act.put, List.setIfInBounds_toArray, List.set_cons_zero, List.set_cons_succ]
      refine wpW_one 7 rfl (by kernel_rfl) (fun K hK => ?_)
      go_simp
      have hri7 := hr2
      refine (HRQ2.out w2 A2 c2 hbX2 hri7 hcp2).mono ?_
      rintro e w7 ⟨hb7, A7, c7, rfl, hrow7⟩
      have hbX7 : Below Y.heap.size Y w7 := hbX2.trans (hb7.mono hbX2.size)
      have y7_0 : w7.cell? ⟨wp.heap.size, 0, none⟩ = some (.slice tA m.text.length tc) := (hbX7.cell HNL.out).trans n0
      have y7_1 : w7.cell? ⟨wp.heap.size, 1, none⟩ = some (.slice fA m.funcs.length fc) := (hbX7.cell HNL.out).trans n1_
      have y7_2 : w7.cell? ⟨wp.heap.size, 2, none⟩ = some (.slice bA m.tables.length bc) := (hbX7.cell HNL.out).trans n2_
      have y7_3 : w7.cell? ⟨wp.heap.size, 3, none⟩ = some (.slice dA m.data.length dc) := (hbX7.cell HNL.out).trans n3
      have y7_4 : w7.cell? ⟨wp.heap.size, 4, none⟩ = some (.slice lA m.lines.length lc) := (hbX7.cell HNL.out).trans n4
      have y7_5 : w7.cell? ⟨wp.heap.size, 5, none⟩ = some (.int .i64 m.entry) := (hbX7.cell HNL.out).trans n5
      have zb8 := zb3.keep hb7
      have zc7_0 := zb8.cell 0 rfl
      have zf7_0 := zb8.free 0
      have zc7_1 := zb8.cell 1 rfl
      have zf7_1 := zb8.free 1
      have zc7_2 := zb8.cell 2 rfl
      have zf7_2 := zb8.free 2
      have zc7_3 := zb8.cell 3 rfl
      have zf7_3 := zb8.free 3
      have zl7 := zb8.lt
      refine hK.out _ _ (by (try dsimp only); go_keep) (fun hHeld => ?_)
      clear hK K
      try simp only [Act.put, List.setIfInBounds_toArray, List.set_cons_zero, List.set_cons_succ]
      refine wpW_take 8 (v := ?_) rfl (by kernel_rfl) (by kernel_rfl) (by kernel_rfl) (by kernel_rfl) (fun _ _ _ h => h) (Or.inl ⟨by rfl, ?_⟩) hHeld ?_
      rotate_left
      · intro w hSw
        try dsimp only at hSw
        go_simp
        try with_reducible rfl
      try simp only [Act.put, List.setIfInBounds_toArray, List.set_cons_zero, List.set_cons_succ]
      refine wpW_take 9 (v := ?_) rfl (by kernel_rfl) (by kernel_rfl) (by kernel_rfl) (by kernel_rfl) (fun _ _ _ h => h) (Or.inl ⟨by rfl, ?_⟩) hHeld ?_
      rotate_left
      · intro w hSw
        try dsimp only at hSw
        go_simp
        try with_reducible rfl
      try simp only [Act.put, List.setIfInBounds_toArray, List.set_cons_zero, List.set_cons_succ]
      refine wpW_take 10 (v := ?_) rfl (by kernel_rfl) (by kernel_rfl) (by kernel_rfl) (by kernel_rfl) (fun _ _ _ h => h) (Or.inl ⟨by rfl, ?_⟩) hHeld ?_
      rotate_left
      · intro w hSw
        try dsimp only at hSw
        go_simp
        try with_reducible rfl
      try simp only [Act.put, List.setIfInBounds_toArray, List.set_cons_zero, List.set_cons_succ]
      refine wpW_one 12 rfl (by kernel_rfl) (fun K hK => ?_)
      go_simp
      refine hK.out _ _ (by (try dsimp only); go_keep) (fun hHeld => ?_)
      clear hK K
      try simp only [Act.put, List.setIfInBounds_toArray, List.set_cons_zero, List.set_cons_succ]
      refine wpW_take 13 (v := ?_) rfl (by kernel_rfl) (by kernel_rfl) (by kernel_rfl) (by kernel_rfl) (fun _ _ _ h => h) (Or.inl ⟨by rfl, ?_⟩) hHeld ?_
      rotate_left
      · intro w hSw
        try dsimp only at hSw
        go_simp
        try with_reducible rfl
      try simp only [Act.put, List.setIfInBounds_toArray, List.set_cons_zero, List.set_cons_succ]
      refine wpW_done (by kernel_rfl) ?_ _
      go_wp2
      go_meet
      exact ⟨_, _, _, rfl, rfl, Lib.hid (runVar_old zb8 hbX7 (Nat.le_refl _) hrow7 zb3.lt hbX2.size)⟩
    case rest =>
      obtain ⟨b2, A2, c2, rfl, rfl, HV2⟩ := hcut
      rename World => V
      have HYV := Lib.hid HV2.out.2.2.1
      have hb1y := HV1.out.2.2.2
      have hr1 := HV1.out.1.keep HYV.out
      have hr2 := HV2.out.1
      have p0 := hr1.cell 0 rfl
      have p1 := hr1.cell 1 rfl
      have p2 := hr1.cell 2 rfl
      have p3 := hr1.cell 3 rfl
      have pl := hr1.lt
      have q0 := hr2.cell 0 rfl
      have q1 := hr2.cell 1 rfl
      have q2 := hr2.cell 2 rfl
      have q3 := hr2.cell 3 rfl
      have ql := hr2.lt
      have hc2 := own_capG HV2.out.2.1
      have HRA : Hid (RdG V V.heap.size A1 (intsV .i64 T1)) := Lib.hid (own_rdg (own_keep HV1.out.2.1 HYV.out))
      have HRB : Hid (RdG V V.heap.size A2 (intsV .i64 T1)) := Lib.hid (by
        have h := (own_rdg HV2.out.2.1).take n1
        have e : (intsV .i64 T2).take n1 = intsV .i64 T1 := by
          unfold intsV
          rw [← List.map_take, HTT.out, ← HN1.out, List.take_left]
        rw [e] at h
        exact h)
      have HEQ : Hid (∀ x, Calls Tryd.prog 32 #[.slice A1 n1 c1, .slice A2 n1 c2] (V.drewN x) fun e w' => e = .returned (.bool true) ∧ ∃ y, w' = (V.drewN x).drewN y) := Lib.hid fun x => eqi_same T1 A1 A2 n1 c1 n1 c2 (V.drewN x) HRA.out HRB.out HN1.out.symm HN1.out.symm (by omega)
      have HWV := Lib.hid ((HWX.out.trans (HXY.out.mono HWX.out.size)).trans (HYV.out.mono (by have := HWX.out.size; have := HXY.out.size; omega)))
      have hnI : ¬ (n2 : Int) < (n1 : Int) := by omega
      have hnd : decide ((n2 : Int) < (n1 : Int)) = false := by simpa using hnI
      have hnN : decide (n2 < n1) = false := by simpa using hn12
      have hst : decide ((k : Int) < St1) = false := by simpa using g2
      have hc12 : n1 ≤ c2 := by omega
      clear hr1 hr2
      go_upto_region 7 with fail
      go_quiet ((go_at_call 32; exact Calls.quiet_of (HEQ.out _)))
      have HB : Hid (∀ x, Below w.heap.size w (V.drewN x)) := Lib.hid fun x => ⟨HWV.out.os, HWV.out.tape, HWV.out.output, HWV.out.size, HWV.out.block⟩
      rcases HG3.out with ⟨e3, ek⟩ | ⟨e1, e2, e3⟩
      · subst e3
        subst ek
        go_wp2
        go_ret
        exact ⟨rfl, HB.out _⟩
      · subst e1
        subst e2
        subst e3
        by_cases h3 : E1 = 3
        · subst h3
          by_cases hk : St1 = (k : Int)
          · subst hk
            go_wp2
            go_ret
            exact ⟨rfl, HB.out _⟩
          · have t1 : (St1 == (k : Int)) = false := by simpa using hk
            clear hk
            go_wp2
            go_ret
            exact ⟨rfl, HB.out _⟩
        · have t1 : (E1 == 3) = false := by simpa using h3
          clear h3
          go_wp2
          go_ret
          exact ⟨rfl, HB.out _⟩
set_option maxRecDepth 100000 in
theorem fuelRuns_contract (H : Type) (enc : TypeId × Value → H) (W : World) (base : Nat) (args : Array Value) (ds gs : List (DataW H)) (before : List MemPlace)
    (hval : ∀ (j : Nat) t v, Tryd.f13.params[j]? = some t → args[j]? = some v → Value.okWide Tryd.prog W .any base t v)
    (hW : DataW.Whole enc Tryd.prog Tryd.f13.params.toList Rows.fuelRunsSpec.vars false W args.toList ds gs before) (hL : laidMetH Tryd.prog Rows.fuelRunsRow.laid W)
    (hz : (DataW.weightsEach Tryd.prog (Tryd.f13.params.toList ++ (OpenSpec.ofChange Rows.fuelRunsSpec).bare.plain.varTypes Tryd.prog) (ds ++ gs)).all (· ≤ reachBytes) = true) :
    Calls Tryd.prog 13 args W fun e W' => ∃ v, e = .returned v ∧ Rows.fuelRunsSpec.post enc Tryd.prog Tryd.f13 false true false false W args v W' := by
  have hT : Tabs W := tabs_of_laid5 hL
  have hW0 := hW
  obtain ⟨p, q, hA0, hV, rfl, hfz, hnd⟩ := hW
  have hA : DataW.TrodAll enc Tryd.prog W 0 (fun _ => true) true Tryd.f13.params.toList args.toList ds p := hA0
  rw [Tryd.params13] at hA hval
  obtain ⟨v0, vs0, d0, ds0, p0, q0, hargs, rfl, rfl, h0, r0⟩ := trodAll_cons hA
  obtain ⟨v1, vs1, d1, ds1, p1, q1, rfl, rfl, rfl, h1, r1⟩ := trodAll_cons r0
  obtain ⟨v2, vs2, d2, ds2, p2, q2, rfl, rfl, rfl, h2, r2⟩ := trodAll_cons r1
  obtain ⟨v3, vs3, d3, ds3, p3, q3, rfl, rfl, rfl, h3, r3⟩ := trodAll_cons r2
  obtain ⟨rfl, rfl, rfl⟩ := trodAll_nil r3
  obtain rfl : args = #[v0, v1, v2, v3] := by cases args; simp_all
  obtain ⟨rfl, rfl⟩ := trodVars_none hV
  clear hA0
  obtain ⟨A, cap, L, rfl, hcap, hcm, hR, hd⟩ := open_raws (hval 0 22 v0 rfl rfl) h0
  obtain ⟨iA, icap, IL, rfl, hicap, hicm, hI64, hIR, hid⟩ := open_nums (hval 1 26 v1 rfl rfl) h1
  obtain ⟨n, rfl, rfl, rfl, wn⟩ := open_int Tryd.underlying3 (hval 2 3 v2 rfl rfl) h2
  obtain ⟨mo, rfl, rfl, rfl, wmo⟩ := open_int Tryd.underlying3 (hval 3 3 v3 rfl rfl) h3
  have hL : L.length ≤ 140737488355328 := by
    rcases hd with ⟨-, rfl, -⟩ | ⟨elems, spare, rfl, hl⟩
    · exact Nat.zero_le _
    · have h1 := sized_slice hz (j := 0) (t := 22) (by rw [Tryd.params13]; rfl) rfl Tryd.underlying22
      have h2 : Tryd.prog.bytesOf 143 = 32 := by kernel_rfl
      have h3 := reachBytes_lt
      rw [h2, hl] at h1
      omega
  have hIL : IL.length ≤ 140737488355328 := by
    rcases hid with ⟨-, rfl, -⟩ | ⟨elems, spare, rfl, hl⟩
    · exact Nat.zero_le _
    · have h1 := sized_slice hz (j := 1) (t := 26) (by rw [Tryd.params13]; rfl) rfl Tryd.underlying26
      have h2 : Tryd.prog.bytesOf 3 = 8 := by kernel_rfl
      have h3 := reachBytes_lt
      rw [h2, hl] at h1
      omega
  refine (fuelRuns_walk L A cap IL iA icap n mo (i64_of_wf wn) (i64_of_wf wmo) W hT hR hL hcap hI64 hIR hIL hicap).mono fun e W' ⟨he, hb⟩ => ?_
  subst he
  exact ⟨_, rfl, law_post hW0 rfl rfl (by kernel_rfl) (by kernel_rfl) hb⟩
set_option maxRecDepth 100000 in
theorem fuelRuns_met (os : Os) : laidMet Tryd.prog Rows.fuelRunsRow.laid ((laidWorld5 os).forCall (fun _ _ => 0) ⟨#[], #[.slice none 0 0, .slice none 0 0, .int .i64 0, .int .i64 0], []⟩).memory :=
  laidMet_of_run' 8 (by kernel_rfl) (by kernel_rfl)
set_option maxRecDepth 100000 in
theorem fuelRuns_reads (os : Os) {H : Type} (enc : TypeId × Value → H) : ∃ places, DataW.whole enc Tryd.prog ((laidWorld5 os).forCall (fun _ _ => 0) ⟨#[], #[.slice none 0 0, .slice none 0 0, .int .i64 0, .int .i64 0], []⟩).memory Tryd.f13.params.toList Rows.fuelRunsSpec.vars false (#[.slice none 0 0, .slice none 0 0, .int .i64 0, .int .i64 0] : Array Value).toList 8 = some ([.nil, .nil, .lit (.int .i64 0), .lit (.int .i64 0)], [], places) :=
  ⟨[], by kernel_rfl⟩
set_option maxRecDepth 100000 in
theorem fuelRuns_lifted (os : Os) (started : os.Started) (H : Type) (enc : TypeId × Value → H) (F : Stop.Interp) :
    ReturnsInHanded {} Tryd.checked os 13 .any ((OpenSpec.ofChange Rows.fuelRunsSpec).preRow enc Tryd.prog Tryd.f13 Rows.fuelRunsRow.domain false Rows.fuelRunsRow.laid) (((OpenSpec.ofChange Rows.fuelRunsSpec).at F).post enc Tryd.prog Tryd.f13 false true false false) := by
  obtain ⟨places, hx⟩ := fuelRuns_reads os enc
  refine returnsInHanded_of_row (C := Tryd.checked) (s := OpenSpec.ofChange Rows.fuelRunsSpec) ownP started (by kernel_rfl) Tryd.func13
    (witness_row_at (enc := enc) (C := Tryd.checked) false (laidWorld5 os) #[.slice none 0 0, .slice none 0 0, .int .i64 0, .int .i64 0] rfl (by kernel_rfl) (by kernel_rfl) (by kernel_rfl)
      (OpenSpec.preRow_of_cond 8 hx (by kernel_rfl) (fun k hk => by cases hk) (by kernel_rfl) (fuelRuns_met os))) ?_
  intro W base args ds gs before hval hW _ _ hreach hL _ _
  exact fuelRuns_contract H enc W base args ds gs before hval hW hL hreach
set_option maxRecDepth 100000 in
theorem fuelRuns_said : Rows.FuelRunsSaid :=
  OpenClaim.holds_of_cond 13 Tryd.f13 rfl rfl rfl rfl rfl rfl rfl ⟨rfl, rfl, rfl, rfl, rfl⟩ rfl rfl rfl rfl rfl (by kernel_rfl) Tryd.func13 (by kernel_rfl)
    (of_decide_eq_true (by kernel_rfl)) (by unfold Func.isWrapper; first | (rw [if_pos (by decide +kernel)]; kernel_rfl) | (rw [if_neg (by decide +kernel)]; exact ⟨rfl, rfl⟩))
    (fun os started H enc _ F => by rw [OpenClaim.pre_eq_preRow]; exact fuelRuns_lifted os started H enc F)
set_option maxRecDepth 100000 in
theorem fuelRuns_plain (f : FuncId) (fn : Func) (hf : Tryd.pinned.checked.prog.funcNamed "bolthole/boltholekeep.FuelRuns" = some f) (hfn : Tryd.pinned.checked.prog.funcs[f]? = some fn) :
    ∀ (j : Nat) t, fn.params[j]? = some t → Tryd.pinned.checked.prog.wantsStandIn t = false := by
  obtain rfl : f = 13 := Option.some.inj ((show Tryd.prog.funcNamed "bolthole/boltholekeep.FuelRuns" = some 13 by kernel_rfl).symm.trans hf) |>.symm
  obtain rfl : fn = Tryd.f13 := (Option.some.inj (Tryd.func13.symm.trans hfn)).symm
  intro j t ht
  have hall : ∀ t ∈ Tryd.f13.params, Tryd.prog.wantsStandIn t = false := by
    rw [Tryd.params13]
    intro t ht
    simp only [List.mem_toArray, List.mem_cons, List.not_mem_nil, or_false] at ht
    rcases ht with rfl | rfl | rfl | rfl
    all_goals kernel_rfl
  exact hall t (Array.mem_of_getElem? ht)
set_option maxRecDepth 100000 in
theorem fuelRuns_card : Rows.FuelRunsCardSaid :=
  Claim7.holds_tied_plain_at .later [] _ _ _ _ fuelRuns_said (fun _ h => by cases h) (by kernel_rfl) (fun _ h => by cases h) fuelRuns_row_tie rfl ⟨rfl, rfl⟩ (by kernel_rfl) rfl (fun f fn hf hfn => ⟨by kernel_rfl, fuelRuns_plain f fn hf hfn⟩) (by kernel_rfl)
end Go.Proofs.YtodgogjbbdekoaaDoor
