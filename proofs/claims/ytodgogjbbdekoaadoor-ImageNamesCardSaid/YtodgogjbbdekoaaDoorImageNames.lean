/- The given statement on ImageNames, proved: functions have names of their own. No condition of its own. -/
import Derived.Test.YtodgogjbbdekoaaDoorLawS
import Derived.Test.YtodgogjbbdekoaaDoorPgmG
import Derived.Test.YtodgogjbbdekoaaDoorImgX
import Derived.Test.YtodgogjbbdekoaaDoorRegX
import Derived.Deep.DeepCutAuto
import Derived.Deep.CutBlock
import Derived.IntWalk
import Derived.WalkLawsBesides
namespace Go.Proofs.YtodgogjbbdekoaaDoor
open Go.ChangeShapes Go.WideShapes Go.ChangeAt Go.RowKit Go.Joins
open Go.ChangeMaps (open_string)
set_option maxHeartbeats 8000000 in
set_option maxRecDepth 100000 in
theorem imageNames_walk (l : List RawI) (A : Option Addr) (c : Nat) (n : Int) (hn : N64 n) (w : World) (hT : Tabs w) (hR : RdR w w.heap.size A l) (hl : l.length ≤ 140737488355328) (hc : l.length ≤ c) :
    Calls Tryd.prog 3 #[.slice A l.length c, .int .i64 n] w fun e w' => e = .returned (.bool true) ∧ Below w.heap.size w w' := by
  have HPG := Lib.hid (program_any l A c w hT hR hc hl)
  obtain ⟨ll, hll⟩ : ∃ z, l.length = z := ⟨_, rfl⟩
  rw [hll] at HPG ⊢
  have hk := pickL_bd n 6 (by decide)
  have HPK := Lib.hid (fun W => picked_any n 6 W hn.1 hn.2 (by decide) (by decide))
  obtain ⟨k0, hk0⟩ : ∃ z, pickL n 6 = z := ⟨_, rfl⟩
  rw [hk0] at hk HPK
  obtain ⟨kk, rfl⟩ := Int.eq_ofNat_of_zero_le hk.1
  have hk6 : kk < 6 := by omega
  have hk6I : (kk : Int) < 6 := hk.2
  obtain ⟨nm, wv, HNM⟩ : ∃ (nm : ByteArray) (wv : Int), Hid (([.string ⟨#[120]⟩, .string ⟨#[121]⟩, .string ⟨#[]⟩, .string ⟨#[120, 32, 121]⟩, .string ⟨#[97, 98, 99, 100, 101, 102, 103, 104, 105, 106, 107, 108, 109, 110, 111, 112]⟩, .string ⟨#[97, 98, 99, 100, 101, 102, 103, 104, 105, 106, 107, 108, 109, 110, 111, 112, 113]⟩] : List Value)[kk]? = some (.string nm) ∧ ([.int .i64 7, .int .i64 0, .int .i64 4, .int .i64 4, .int .i64 0, .int .i64 4] : List Value)[kk]? = some (.int .i64 wv) ∧ nm.size ≤ 17 ∧ (if nameOk nm = false then 4 else if ((⟨#[120]⟩ : ByteArray).toList == nm.toList) = true then 7 else 0) = wv ∧ nm.toList.length ≠ 2) := by
    have hc : kk = 0 ∨ kk = 1 ∨ kk = 2 ∨ kk = 3 ∨ kk = 4 ∨ kk = 5 := by omega
    rcases hc with rfl | rfl | rfl | rfl | rfl | rfl
    all_goals exact ⟨_, _, Lib.hid ⟨rfl, rfl, by decide +kernel, by decide +kernel, by decide +kernel⟩⟩
  clear hT hR hl hc hll hn hk hk0
  go_enter Tryd.func3, Tryd.ntmps3
  go_wp2_with fail
  refine HPG.out.mono ?_
  rintro e wp ⟨hb1, ⟨tA, tc, fA, fc, bA, bc, dA, dc, lA, lc⟩, m, rfl, hown, hok, hpg⟩
  have hpt := hpg.text
  have hfn := hpg.fn
  obtain ⟨bs', z1, -, z3, z4⟩ := hpg
  have HCHK : Hid (checkE (withTwo m ⟨#[120]⟩ nm) = wv) := Lib.hid (by
    obtain ⟨-, -, -, y4, y5⟩ := HNM.out
    rw [z4, names_check z1 z3 _ ⟨#[120]⟩ nm (by decide +kernel) (fnL_no _ _ _ z1.nf.2 (by decide +kernel)) (fnL_no _ _ _ z1.nf.2 y5)]
    exact y4)
  have HOK := Lib.hid hok
  have HB1 := Lib.hid hb1
  have HOW := Lib.hid hown
  obtain ⟨T, hT⟩ : ∃ z, m.text.length = z := ⟨_, rfl⟩
  obtain ⟨nf, hnf⟩ : ∃ z, m.funcs.length = z := ⟨_, rfl⟩
  rw [hT] at hpt
  rw [hnf] at hfn
  obtain ⟨hT1, hT2⟩ := hpt
  obtain ⟨hf1, hf2⟩ := hfn
  have HTE := Lib.hid hT
  have HNF := Lib.hid hnf
  unfold Img.val
  simp only at *
  rw [hT, hnf]
  clear hown hok z1 z3 z4 HPG hT hnf
  go_upto_region 2 with fail
  obtain ⟨X, hX⟩ : ∃ X, wp.alloc (.cells #[.slice tA T tc, .slice fA nf fc, .slice bA m.tables.length bc, .slice dA m.data.length dc, .slice lA m.lines.length lc, .int .i64 m.entry] 29) = X := ⟨_, rfl⟩
  have hm1 : Blk X wp.heap.size 29 [.slice tA T tc, .slice fA nf fc, .slice bA m.tables.length bc, .slice dA m.data.length dc, .slice lA m.lines.length lc, .int .i64 m.entry] := by rw [← hX]; exact heap_alloc_new wp _
  have hbX : Below wp.heap.size wp X := by rw [← hX]; exact (Below.refl _ _).alloc (Nat.le_refl _) _
  have HWX := Lib.hid (hb1.trans (hbX.mono hb1.size))
  have HOX := Lib.hid (HOW.out.keep hbX)
  have HM1 := Lib.hid hm1
  rw [hX]
  have m0 := hm1.cell 0 rfl
  have mf0 := hm1.free 0
  have ml := hm1.lt
  have hwX := HWX.out.size
  clear hX hm1 hb1
  have HOT : Hid (X.ownsRow w.heap.size 5 1 (.slice tA T tc) T (bytesV m.text)) := Lib.hid (by have h := HOX.out.tx; unfold OwnB at h; rw [HTE.out] at h; exact h)
  have hone : (Value.slice tA T tc).ownBlock ≠ some wp.heap.size := fun e => by
    have h := HOW.out.tx
    unfold OwnB at h
    simp only at h
    rw [HTE.out] at h
    have := (World.ownsRow.lt h _ e).2
    omega
  have HONE := Lib.hid hone
  clear hone hbX
  go_upto_region 3 with fail
  go_wp2_with (first | (refine app_many rfl _ _ 23 5 1 1 _ Tryd.underlying23 infoU8 rfl (by decide) rfl w.heap.size _ T _ rfl (World.ownsRow.alloc HOT.out _) X.heap.size 2 2 rfl [.int .u8 0, .int .u8 0] 5 (0, 0) (heap_alloc_new X _) rfl (by decide) (by simp [Value.oneCell']) (by omega) (by omega) (by simp; omega) (X.heap.size + 1) (by simp) ?a1))
  case a1 =>
    intro g1 c1 w3 ho3 hgr3 hat3 hlt3
    have hXA : Below X.heap.size X (X.alloc (.cells #[.int .u8 0, .int .u8 0] 5)) := (Below.refl _ _).alloc (Nat.le_refl _) _
    have hm3 := (HM1.out.keep hXA).gb hgr3 HONE.out
    have q0 := hm3.cell 0 rfl
    have qf0 := hm3.free 0
    have ql := hm3.lt
    have hO3 := (HOX.out.keep hXA).setTx (L' := m.text ++ [0, 0]) (n := T + 2) (by simp only; rw [HTE.out]; exact hgr3) (by
      unfold OwnB
      rw [List.length_append, HTE.out]
      simpa [bytesV] using ho3) (by rw [List.length_append, HTE.out]; rfl) (by intro e; have := HTE.out; rw [e] at this; simp at this; omega)
    have hb3 : Below w.heap.size X w3 := (hXA.mono hwX).trans (gb_below_of hgr3 (fun q hq => (World.ownsRow.lt HOT.out q hq).1) (by simp; omega))
    have HM3 := Lib.hid hm3
    have HO3 := Lib.hid hO3
    have HB3 := Lib.hid (HWX.out.trans hb3)
    have hs3 := hb3.size
    clear hXA ho3 hgr3 hat3 hlt3 hm3 hO3 hb3
    go_upto_region 4 with fail
    obtain ⟨Y, hY⟩ : ∃ Y, w3.setCell ⟨wp.heap.size, 0, none⟩ (.slice (some ⟨g1, 0, none⟩) (T + 2) c1) = Y := ⟨_, rfl⟩
    have hgY : w3.grownBy Y (some wp.heap.size) := by rw [← hY]; exact gb_setCell (gb_refl _ _) _ _
    have hmY : Blk Y wp.heap.size 29 [.slice (some ⟨g1, 0, none⟩) (T + 2) c1, .slice fA nf fc, .slice bA m.tables.length bc, .slice dA m.data.length dc, .slice lA m.lines.length lc, .int .i64 m.entry] := by rw [← hY]; exact HM3.out.set 0 _
    have hoY := HO3.out.blk HM3.out hgY (by intro x e; cases e) (by decide)
    have hbp : w.heap.size ≤ wp.heap.size := HB1.out.size
    have hwY : Below w.heap.size w Y := HB3.out.trans (gb_to_below hgY hbp HB3.out.size)
    have HOF : Hid (Y.ownsRow w.heap.size 32 3 (.slice fA nf fc) nf (funcsV m.funcs)) := Lib.hid (by have h := hoY.fn; simp only at h; rw [HNF.out] at h; exact h)
    have HFNE : Hid ((Value.slice fA nf fc).ownBlock ≠ some wp.heap.size) := Lib.hid (by
      have h := own_blk_ne HOF.out hmY (by decide)
      rcases h with h | h
      · rw [h]; intro e; cases e
      · exact h)
    rw [hY]
    have y1 := hmY.cell 1 rfl
    have yf1 := hmY.free 1
    have yl := hmY.lt
    have HMY := Lib.hid hmY
    have HOY := Lib.hid hoY
    have HWY := Lib.hid hwY
    have HNC : Hid (Blk (Y.alloc (.cells #[.string ⟨#[120]⟩, .string ⟨#[121]⟩, .string ⟨#[]⟩, .string ⟨#[120, 32, 121]⟩, .string ⟨#[97, 98, 99, 100, 101, 102, 103, 104, 105, 106, 107, 108, 109, 110, 111, 112]⟩, .string ⟨#[97, 98, 99, 100, 101, 102, 103, 104, 105, 106, 107, 108, 109, 110, 111, 112, 113]⟩] 9)).drew Y.heap.size 9 [.string ⟨#[120]⟩, .string ⟨#[121]⟩, .string ⟨#[]⟩, .string ⟨#[120, 32, 121]⟩, .string ⟨#[97, 98, 99, 100, 101, 102, 103, 104, 105, 106, 107, 108, 109, 110, 111, 112]⟩, .string ⟨#[97, 98, 99, 100, 101, 102, 103, 104, 105, 106, 107, 108, 109, 110, 111, 112, 113]⟩]) := Lib.hid (Blk.drew (Blk.new Y _ _))
    have HBS : Hid (∀ W : World, (Instr.buildSlice 33 6 #[(0, .string ⟨#[120]⟩), (1, .string ⟨#[121]⟩), (2, .string ⟨#[]⟩), (3, .string ⟨#[120, 32, 121]⟩), (4, .string ⟨#[97, 98, 99, 100, 101, 102, 103, 104, 105, 106, 107, 108, 109, 110, 111, 112]⟩), (5, .string ⟨#[97, 98, 99, 100, 101, 102, 103, 104, 105, 106, 107, 108, 109, 110, 111, 112, 113]⟩)]).run Tryd.prog W = .ok (.slice (some ⟨W.heap.size, 0, none⟩) 6 6) (W.alloc (.cells #[.string ⟨#[120]⟩, .string ⟨#[121]⟩, .string ⟨#[]⟩, .string ⟨#[120, 32, 121]⟩, .string ⟨#[97, 98, 99, 100, 101, 102, 103, 104, 105, 106, 107, 108, 109, 110, 111, 112]⟩, .string ⟨#[97, 98, 99, 100, 101, 102, 103, 104, 105, 106, 107, 108, 109, 110, 111, 112, 113]⟩] 9))) := Lib.hid fun W => by kernel_rfl
    have HBF : Hid (∀ W : World, (Instr.buildSlice 24 2 #[(0, .agg #[.string ⟨#[120]⟩, .int .i64 (T : Int), .int .i64 1]), (1, .agg #[.string nm, .int .i64 ((T : Int) + 1), .int .i64 1])]).run Tryd.prog W = .ok (.slice (some ⟨W.heap.size, 0, none⟩) 2 2) (W.alloc (.cells #[.string ⟨#[120]⟩, .int .i64 (T : Int), .int .i64 1, .string nm, .int .i64 ((T : Int) + 1), .int .i64 1] 32))) := Lib.hid fun W => by kernel_rfl
    have hwT : IntKind.i64.wrap ((T : Int) + 1) = (T : Int) + 1 := IntWalk.i64_in _ (by omega)
    clear hY hgY hmY hoY hwY q0 qf0 ql m0 mf0 ml
    go_cut [] (fun wx => ∃ (g2 c2 : Nat) (w6 Y1 : World), Hid (w6.ownsRow w.heap.size 32 3 (.slice (some ⟨g2, 0, none⟩) (nf + 2) c2) (nf + 2) (funcsV m.funcs ++ [.string ⟨#[120]⟩, .int .i64 (T : Int), .int .i64 1, .string nm, .int .i64 ((T : Int) + 1), .int .i64 1])) ∧ Hid ((Y1.alloc (.cells #[.string ⟨#[120]⟩, .int .i64 (T : Int), .int .i64 1, .string nm, .int .i64 ((T : Int) + 1), .int .i64 1] 32)).grownBy w6 (Value.slice fA nf fc).ownBlock) ∧ Hid (Blk w6 wp.heap.size 29 [.slice (some ⟨g1, 0, none⟩) (T + 2) c1, .slice fA nf fc, .slice bA m.tables.length bc, .slice dA m.data.length dc, .slice lA m.lines.length lc, .int .i64 m.entry]) ∧ Hid (Below Y.heap.size Y (Y1.alloc (.cells #[.string ⟨#[120]⟩, .int .i64 (T : Int), .int .i64 1, .string nm, .int .i64 ((T : Int) + 1), .int .i64 1] 32))) ∧ wx = w6.setCell ⟨wp.heap.size, 1, none⟩ (.slice (some ⟨g2, 0, none⟩) (nf + 2) c2))
    case first =>
      as_aux_lemma =>
        refine wp_region_W (fun w' => w'.cell? ⟨wp.heap.size, 1, none⟩ = some (.slice fA nf fc)) 15 (by kernel_rfl) (by (try dsimp only); go_keep) (fun hHeld => ?_)
        refine wpW_take 0 (v := ?_) rfl (by kernel_rfl) (by kernel_rfl) (by kernel_rfl) (by kernel_rfl) (fun _ _ _ h => h) (Or.inl ⟨by rfl, ?_⟩) hHeld ?_
        rotate_left
        · intro w hSw
          try dsimp only at hSw
          go_simp
          try with_reducible rfl
        try simp only [Act.put, List.setIfInBounds_toArray, List.set_cons_zero, List.set_cons_succ]
        refine wpW_take 1 (v := ?_) rfl (by kernel_rfl) (by kernel_rfl) (by kernel_rfl) (by kernel_rfl) (fun _ _ _ h => h) (Or.inl ⟨by rfl, ?_⟩) hHeld ?_
        rotate_left
        · intro w hSw
          try dsimp only at hSw
          go_simp
          try with_reducible rfl
        try simp only [Act.put, List.setIfInBounds_toArray, List.set_cons_zero, List.set_cons_succ]
        refine wpW_take 2 (v := ?_) rfl (by kernel_rfl) (by kernel_rfl) (by kernel_rfl) (by kernel_rfl) (fun _ _ _ h => h) (Or.inl ⟨by rfl, ?_⟩) hHeld ?_
        rotate_left
        · intro w hSw
          try dsimp only at hSw
          go_simp
          try with_reducible rfl
        try simp only [Act.put, List.setIfInBounds_toArray, List.set_cons_zero, List.set_cons_succ]
        refine wpW_take 3 (v := ?_) rfl (by kernel_rfl) (by kernel_rfl) (by kernel_rfl) (by kernel_rfl) (fun _ _ _ h => h) (Or.inl ⟨by rfl, ?_⟩) hHeld ?_
        rotate_left
        · intro w hSw
          try dsimp only at hSw
          go_simp
          try with_reducible rfl
        try simp only [Act.put, List.setIfInBounds_toArray, List.set_cons_zero, List.set_cons_succ]
        refine wpW_take 5 (v := ?_) rfl (by kernel_rfl) (by kernel_rfl) (by kernel_rfl) (by kernel_rfl) (fun _ _ _ h => h) (Or.inl ⟨by rfl, ?_⟩) hHeld ?_
        rotate_left
        · intro w hSw
          try dsimp only at hSw
          go_simp
          try with_reducible rfl
        try simp only [Act.put, List.setIfInBounds_toArray, List.set_cons_zero, List.set_cons_succ]
        refine wpW_take 9 (v := ?_) rfl (by kernel_rfl) (by kernel_rfl) (by kernel_rfl) (by kernel_rfl) (fun _ _ _ h => h) (Or.inl ⟨by rfl, ?_⟩) hHeld ?_
        rotate_left
        · intro w hSw
          try dsimp only at hSw
          go_simp
          try with_reducible rfl
        try simp only [Act.put, List.setIfInBounds_toArray, List.set_cons_zero, List.set_cons_succ]
        refine wpW_take 10 (v := ?_) rfl (by kernel_rfl) (by kernel_rfl) (by kernel_rfl) (by kernel_rfl) (fun _ _ _ h => h) (Or.inl ⟨by rfl, ?_⟩) hHeld ?_
        rotate_left
        · intro w hSw
          try dsimp only at hSw
          go_simp
          try with_reducible rfl
        try simp only [Act.put, List.setIfInBounds_toArray, List.set_cons_zero, List.set_cons_succ]
        refine wpW_all [4, 6] (by kernel_rfl) (by simp) ?_
        refine AllW.cons (i := 4) rfl (fun K hK => ?_) ?_
        · skip
          refine step_build 33 6 _ #[(0, .string ⟨#[120]⟩), (1, .string ⟨#[121]⟩), (2, .string ⟨#[]⟩), (3, .string ⟨#[120, 32, 121]⟩), (4, .string ⟨#[97, 98, 99, 100, 101, 102, 103, 104, 105, 106, 107, 108, 109, 110, 111, 112]⟩), (5, .string ⟨#[97, 98, 99, 100, 101, 102, 103, 104, 105, 106, 107, 108, 109, 110, 111, 112, 113]⟩)] (.slice (some ⟨Y.heap.size, 0, none⟩) 6 6) (Y.drew.alloc (.cells #[.string ⟨#[120]⟩, .string ⟨#[121]⟩, .string ⟨#[]⟩, .string ⟨#[120, 32, 121]⟩, .string ⟨#[97, 98, 99, 100, 101, 102, 103, 104, 105, 106, 107, 108, 109, 110, 111, 112]⟩, .string ⟨#[97, 98, 99, 100, 101, 102, 103, 104, 105, 106, 107, 108, 109, 110, 111, 112, 113]⟩] 9)) rfl rfl (by simp [Act.eval]) (HBS.out Y.drew) ?_
          obtain ⟨Y1, hY1⟩ : ∃ z, Y.drew.alloc (.cells #[.string ⟨#[120]⟩, .string ⟨#[121]⟩, .string ⟨#[]⟩, .string ⟨#[120, 32, 121]⟩, .string ⟨#[97, 98, 99, 100, 101, 102, 103, 104, 105, 106, 107, 108, 109, 110, 111, 112]⟩, .string ⟨#[97, 98, 99, 100, 101, 102, 103, 104, 105, 106, 107, 108, 109, 110, 111, 112, 113]⟩] 9) = z := ⟨_, rfl⟩
          rw [hY1]
          have hcell : Y1.cell? ⟨Y.heap.size, kk, none⟩ = some (.string nm) := by rw [← hY1]; exact HNC.out.cell kk HNM.out.1
          have HYY : Hid (Below Y.heap.size Y Y1) := Lib.hid (by rw [← hY1]; exact ((Below.refl _ _).alloc (Nat.le_refl _) _).drew)
          have y1b : Y1.cell? ⟨wp.heap.size, 1, none⟩ = some (.slice fA nf fc) := (HYY.out.cell yl).trans y1
          have hsY : Y.heap.size < Y1.heap.size := by rw [← hY1]; simp
          clear hY1
          refine hK.out _ _ (by (try dsimp only); go_keep) (fun hHeld => ?_)
          clear hK K
          try simp only [Act.put, List.setIfInBounds_toArray, List.set_cons_zero, List.set_cons_succ]
          refine wpW_one 6 rfl (by kernel_rfl) (fun K hK => ?_)
          go_simp
          refine (HPK.out _).mono ?_
          rintro e wq ⟨rfl, rfl⟩
          try go_wp2_with fail
          refine hK.out _ _ (by (try dsimp only); go_keep) (fun hHeld => ?_)
          clear hK K
          try simp only [Act.put, List.setIfInBounds_toArray, List.set_cons_zero, List.set_cons_succ]
          refine wpW_take 7 (v := ?_) rfl (by kernel_rfl) (by kernel_rfl) (by kernel_rfl) (by kernel_rfl) (fun _ _ _ h => h) (Or.inl ⟨by rfl, ?_⟩) hHeld ?_
          rotate_left
          · intro w hSw
            try dsimp only at hSw
            go_simp
            try with_reducible rfl
          try simp only [Act.put, List.setIfInBounds_toArray, List.set_cons_zero, List.set_cons_succ]
          refine wpW_one 8 rfl (by kernel_rfl) (fun K hK => ?_)
          go_simp
          refine hK.out _ _ (by (try dsimp only); go_keep) (fun hHeld => ?_)
          clear hK K
          try simp only [Act.put, List.setIfInBounds_toArray, List.set_cons_zero, List.set_cons_succ]
          refine wpW_take 11 (v := ?_) rfl (by kernel_rfl) (by kernel_rfl) (by kernel_rfl) (by kernel_rfl) (fun _ _ _ h => h) (Or.inl ⟨by rfl, ?_⟩) hHeld ?_
          rotate_left
          · intro w hSw
            try dsimp only at hSw
            go_simp
            try with_reducible rfl
          try simp only [Act.put, List.setIfInBounds_toArray, List.set_cons_zero, List.set_cons_succ]
          refine wpW_one 12 rfl (by kernel_rfl) (fun K hK => ?_)
          refine step_build 24 2 _ #[(0, .agg #[.string ⟨#[120]⟩, .int .i64 (T : Int), .int .i64 1]), (1, .agg #[.string nm, .int .i64 ((T : Int) + 1), .int .i64 1])] (.slice (some ⟨Y1.heap.size, 0, none⟩) 2 2) (Y1.alloc (.cells #[.string ⟨#[120]⟩, .int .i64 (T : Int), .int .i64 1, .string nm, .int .i64 ((T : Int) + 1), .int .i64 1] 32)) rfl rfl (by simp [Act.eval]) (HBF.out Y1) ?_
          refine hK.out _ _ (by (try dsimp only); go_keep) (fun hHeld => ?_)
          clear hK K
          try simp only [Act.put, List.setIfInBounds_toArray, List.set_cons_zero, List.set_cons_succ]
          refine wpW_one 13 rfl (by kernel_rfl) (fun K hK => ?_)
          have hr1 : (Y1.alloc (.cells #[.string ⟨#[120]⟩, .int .i64 (T : Int), .int .i64 1, .string nm, .int .i64 ((T : Int) + 1), .int .i64 1] 32)).heap[Y1.heap.size]? = some (.cells #[.string ⟨#[120]⟩, .int .i64 (T : Int), .int .i64 1, .string nm, .int .i64 ((T : Int) + 1), .int .i64 1] 32 (0, 0)) := heap_alloc_new Y1 _
          have ho1 : (Y1.alloc (.cells #[.string ⟨#[120]⟩, .int .i64 (T : Int), .int .i64 1, .string nm, .int .i64 ((T : Int) + 1), .int .i64 1] 32)).ownsRow w.heap.size 32 3 (.slice fA nf fc) nf (funcsV m.funcs) := World.ownsRow.alloc (own_keep HOF.out HYY.out) _
          have hz1 : (Y1.alloc (.cells #[.string ⟨#[120]⟩, .int .i64 (T : Int), .int .i64 1, .string nm, .int .i64 ((T : Int) + 1), .int .i64 1] 32)).heap.size = Y1.heap.size + 1 := (by simp)
          have hbb : w.heap.size ≤ (Y1.alloc (.cells #[.string ⟨#[120]⟩, .int .i64 (T : Int), .int .i64 1, .string nm, .int .i64 ((T : Int) + 1), .int .i64 1] 32)).heap.size := (by rw [hz1]; have := HWY.out.size; have := HYY.out.size; omega)
          refine step_app_many rfl _ _ 24 32 3 32 _ Tryd.underlying24 infoFunc rfl (by decide) rfl w.heap.size _ nf _ rfl ho1 Y1.heap.size 2 2 rfl [.string ⟨#[120]⟩, .int .i64 (T : Int), .int .i64 1, .string nm, .int .i64 ((T : Int) + 1), .int .i64 1] 32 (0, 0) hr1 rfl (by decide) (by simp [Value.oneCell']) (by omega) (by omega) hbb (Y1.heap.size + 1) hz1 ?_
          intro g2 c2 w6 ho6 hgr6 hat6 hlt6
          have hY6 : Below Y.heap.size Y (Y1.alloc (.cells #[.string ⟨#[120]⟩, .int .i64 (T : Int), .int .i64 1, .string nm, .int .i64 ((T : Int) + 1), .int .i64 1] 32)) := HYY.out.alloc HYY.out.size _
          have hm6 := (HMY.out.keep hY6).gb hgr6 HFNE.out
          have q1 := hm6.cell 1 rfl
          have qf := hm6.free 1
          have ql := hm6.lt
          have HO6 := Lib.hid ho6
          have HG6 := Lib.hid hgr6
          have HM6 := Lib.hid hm6
          have HY6 := Lib.hid hY6
          clear hr1 ho1 hz1 hbb ho6 hgr6 hat6 hm6 hY6
          refine hK.out _ _ (by (try dsimp only); go_keep) (fun hHeld => ?_)
          clear hK K
          try simp only [Act.put, List.setIfInBounds_toArray, List.set_cons_zero, List.set_cons_succ]
          refine wpW_take 14 (v := ?_) rfl (by kernel_rfl) (by kernel_rfl) (by kernel_rfl) (by kernel_rfl) (fun _ _ _ h => h) (Or.inl ⟨by rfl, ?_⟩) hHeld ?_
          rotate_left
          · intro w hSw
            try dsimp only at hSw
            go_simp
            try with_reducible rfl
          try simp only [Act.put, List.setIfInBounds_toArray, List.set_cons_zero, List.set_cons_succ]
          refine wpW_last 15 rfl (by kernel_rfl) (by decide) (fun K hK => ?_)
          go_simp
          refine hK.out _ _ ?_
          clear hK K
          try simp only [Act.put, List.setIfInBounds_toArray, List.set_cons_zero, List.set_cons_succ]
          refine wpW_done (by kernel_rfl) ?_ _
          go_wp2
          go_meet
          exact ⟨g2, c2, w6, Y1, HO6, HG6, HM6, HY6, rfl⟩
        refine AllW.cons (i := 6) rfl (fun K hK => ?_) AllW.nil
        go_simp
        refine (HPK.out _).mono ?_
        rintro e wq ⟨rfl, rfl⟩
        try go_wp2_with fail
        refine hK.out _ _ (by (try dsimp only); go_keep) (fun hHeld => ?_)
        clear hK K
        try simp only [Act.put, List.setIfInBounds_toArray, List.set_cons_zero, List.set_cons_succ]
        refine wpW_one 4 rfl (by kernel_rfl) (fun K hK => ?_)
        refine step_build 33 6 _ #[(0, .string ⟨#[120]⟩), (1, .string ⟨#[121]⟩), (2, .string ⟨#[]⟩), (3, .string ⟨#[120, 32, 121]⟩), (4, .string ⟨#[97, 98, 99, 100, 101, 102, 103, 104, 105, 106, 107, 108, 109, 110, 111, 112]⟩), (5, .string ⟨#[97, 98, 99, 100, 101, 102, 103, 104, 105, 106, 107, 108, 109, 110, 111, 112, 113]⟩)] (.slice (some ⟨Y.heap.size, 0, none⟩) 6 6) (Y.drew.alloc (.cells #[.string ⟨#[120]⟩, .string ⟨#[121]⟩, .string ⟨#[]⟩, .string ⟨#[120, 32, 121]⟩, .string ⟨#[97, 98, 99, 100, 101, 102, 103, 104, 105, 106, 107, 108, 109, 110, 111, 112]⟩, .string ⟨#[97, 98, 99, 100, 101, 102, 103, 104, 105, 106, 107, 108, 109, 110, 111, 112, 113]⟩] 9)) rfl rfl (by simp [Act.eval]) (HBS.out Y.drew) ?_
        obtain ⟨Y1, hY1⟩ : ∃ z, Y.drew.alloc (.cells #[.string ⟨#[120]⟩, .string ⟨#[121]⟩, .string ⟨#[]⟩, .string ⟨#[120, 32, 121]⟩, .string ⟨#[97, 98, 99, 100, 101, 102, 103, 104, 105, 106, 107, 108, 109, 110, 111, 112]⟩, .string ⟨#[97, 98, 99, 100, 101, 102, 103, 104, 105, 106, 107, 108, 109, 110, 111, 112, 113]⟩] 9) = z := ⟨_, rfl⟩
        rw [hY1]
        have hcell : Y1.cell? ⟨Y.heap.size, kk, none⟩ = some (.string nm) := by rw [← hY1]; exact HNC.out.cell kk HNM.out.1
        have HYY : Hid (Below Y.heap.size Y Y1) := Lib.hid (by rw [← hY1]; exact ((Below.refl _ _).alloc (Nat.le_refl _) _).drew)
        have y1b : Y1.cell? ⟨wp.heap.size, 1, none⟩ = some (.slice fA nf fc) := (HYY.out.cell yl).trans y1
        have hsY : Y.heap.size < Y1.heap.size := by rw [← hY1]; simp
        clear hY1
        refine hK.out _ _ (by (try dsimp only); go_keep) (fun hHeld => ?_)
        clear hK K
        try simp only [Act.put, List.setIfInBounds_toArray, List.set_cons_zero, List.set_cons_succ]
        refine wpW_take 7 (v := ?_) rfl (by kernel_rfl) (by kernel_rfl) (by kernel_rfl) (by kernel_rfl) (fun _ _ _ h => h) (Or.inl ⟨by rfl, ?_⟩) hHeld ?_
        rotate_left
        · intro w hSw
          try dsimp only at hSw
          go_simp
          try with_reducible rfl
        try simp only [Act.put, List.setIfInBounds_toArray, List.set_cons_zero, List.set_cons_succ]
        refine wpW_one 8 rfl (by kernel_rfl) (fun K hK => ?_)
        go_simp
        refine hK.out _ _ (by (try dsimp only); go_keep) (fun hHeld => ?_)
        clear hK K
        try simp only [Act.put, List.setIfInBounds_toArray, List.set_cons_zero, List.set_cons_succ]
        refine wpW_take 11 (v := ?_) rfl (by kernel_rfl) (by kernel_rfl) (by kernel_rfl) (by kernel_rfl) (fun _ _ _ h => h) (Or.inl ⟨by rfl, ?_⟩) hHeld ?_
        rotate_left
        · intro w hSw
          try dsimp only at hSw
          go_simp
          try with_reducible rfl
        try simp only [Act.put, List.setIfInBounds_toArray, List.set_cons_zero, List.set_cons_succ]
        refine wpW_one 12 rfl (by kernel_rfl) (fun K hK => ?_)
        refine step_build 24 2 _ #[(0, .agg #[.string ⟨#[120]⟩, .int .i64 (T : Int), .int .i64 1]), (1, .agg #[.string nm, .int .i64 ((T : Int) + 1), .int .i64 1])] (.slice (some ⟨Y1.heap.size, 0, none⟩) 2 2) (Y1.alloc (.cells #[.string ⟨#[120]⟩, .int .i64 (T : Int), .int .i64 1, .string nm, .int .i64 ((T : Int) + 1), .int .i64 1] 32)) rfl rfl (by simp [Act.eval]) (HBF.out Y1) ?_
        refine hK.out _ _ (by (try dsimp only); go_keep) (fun hHeld => ?_)
        clear hK K
        try simp only [Act.put, List.setIfInBounds_toArray, List.set_cons_zero, List.set_cons_succ]
        refine wpW_one 13 rfl (by kernel_rfl) (fun K hK => ?_)
        have hr1 : (Y1.alloc (.cells #[.string ⟨#[120]⟩, .int .i64 (T : Int), .int .i64 1, .string nm, .int .i64 ((T : Int) + 1), .int .i64 1] 32)).heap[Y1.heap.size]? = some (.cells #[.string ⟨#[120]⟩, .int .i64 (T : Int), .int .i64 1, .string nm, .int .i64 ((T : Int) + 1), .int .i64 1] 32 (0, 0)) := heap_alloc_new Y1 _
        have ho1 : (Y1.alloc (.cells #[.string ⟨#[120]⟩, .int .i64 (T : Int), .int .i64 1, .string nm, .int .i64 ((T : Int) + 1), .int .i64 1] 32)).ownsRow w.heap.size 32 3 (.slice fA nf fc) nf (funcsV m.funcs) := World.ownsRow.alloc (own_keep HOF.out HYY.out) _
        have hz1 : (Y1.alloc (.cells #[.string ⟨#[120]⟩, .int .i64 (T : Int), .int .i64 1, .string nm, .int .i64 ((T : Int) + 1), .int .i64 1] 32)).heap.size = Y1.heap.size + 1 := (by simp)
        have hbb : w.heap.size ≤ (Y1.alloc (.cells #[.string ⟨#[120]⟩, .int .i64 (T : Int), .int .i64 1, .string nm, .int .i64 ((T : Int) + 1), .int .i64 1] 32)).heap.size := (by rw [hz1]; have := HWY.out.size; have := HYY.out.size; omega)
        refine step_app_many rfl _ _ 24 32 3 32 _ Tryd.underlying24 infoFunc rfl (by decide) rfl w.heap.size _ nf _ rfl ho1 Y1.heap.size 2 2 rfl [.string ⟨#[120]⟩, .int .i64 (T : Int), .int .i64 1, .string nm, .int .i64 ((T : Int) + 1), .int .i64 1] 32 (0, 0) hr1 rfl (by decide) (by simp [Value.oneCell']) (by omega) (by omega) hbb (Y1.heap.size + 1) hz1 ?_
        intro g2 c2 w6 ho6 hgr6 hat6 hlt6
        have hY6 : Below Y.heap.size Y (Y1.alloc (.cells #[.string ⟨#[120]⟩, .int .i64 (T : Int), .int .i64 1, .string nm, .int .i64 ((T : Int) + 1), .int .i64 1] 32)) := HYY.out.alloc HYY.out.size _
        have hm6 := (HMY.out.keep hY6).gb hgr6 HFNE.out
        have q1 := hm6.cell 1 rfl
        have qf := hm6.free 1
        have ql := hm6.lt
        have HO6 := Lib.hid ho6
        have HG6 := Lib.hid hgr6
        have HM6 := Lib.hid hm6
        have HY6 := Lib.hid hY6
        clear hr1 ho1 hz1 hbb ho6 hgr6 hat6 hm6 hY6
        refine hK.out _ _ (by (try dsimp only); go_keep) (fun hHeld => ?_)
        clear hK K
        try simp only [Act.put, List.setIfInBounds_toArray, List.set_cons_zero, List.set_cons_succ]
        refine wpW_take 14 (v := ?_) rfl (by kernel_rfl) (by kernel_rfl) (by kernel_rfl) (by kernel_rfl) (fun _ _ _ h => h) (Or.inl ⟨by rfl, ?_⟩) hHeld ?_
        rotate_left
        · intro w hSw
          try dsimp only at hSw
          go_simp
          try with_reducible rfl
        try simp only [Act.put, List.setIfInBounds_toArray, List.set_cons_zero, List.set_cons_succ]
        refine wpW_last 15 rfl (by kernel_rfl) (by decide) (fun K hK => ?_)
        go_simp
        refine hK.out _ _ ?_
        clear hK K
        try simp only [Act.put, List.setIfInBounds_toArray, List.set_cons_zero, List.set_cons_succ]
        refine wpW_done (by kernel_rfl) ?_ _
        go_wp2
        go_meet
        exact ⟨g2, c2, w6, Y1, HO6, HG6, HM6, HY6, rfl⟩
    case rest =>
      obtain ⟨g2, c2, w6, Y1, HO6, HG6, HM6, HY6, rfl⟩ := hcut
      obtain ⟨V, hV⟩ : ∃ V, w6.setCell ⟨wp.heap.size, 1, none⟩ (.slice (some ⟨g2, 0, none⟩) (nf + 2) c2) = V := ⟨_, rfl⟩
      have hgV : w6.grownBy V (some wp.heap.size) := by rw [← hV]; exact gb_setCell (gb_refl _ _) _ _
      have hmV : Blk V wp.heap.size 29 [.slice (some ⟨g1, 0, none⟩) (T + 2) c1, .slice (some ⟨g2, 0, none⟩) (nf + 2) c2, .slice bA m.tables.length bc, .slice dA m.data.length dc, .slice lA m.lines.length lc, .int .i64 m.entry] := by rw [← hV]; exact HM6.out.set 1 _
      have hO6 := (HOY.out.keep HY6.out).setFn (L' := m.funcs ++ [⟨⟨#[120]⟩, (m.text.length : Int), 1⟩, ⟨nm, (m.text.length : Int) + 1, 1⟩]) (n := nf + 2) (by simp only; rw [HNF.out]; exact HG6.out) (by have h := HO6.out; rw [← HTE.out] at h; simpa [funcsV, fnV, List.flatMap_append] using h) (by rw [List.length_append, HNF.out]; rfl) (by intro e; have := HNF.out; simp only at e; rw [e] at this; simp at this; omega)
      have hOV := hO6.blk HM6.out hgV (by intro x e; cases e) (by decide)
      have hWW : w.heap.size ≤ ((Y1.alloc (.cells #[.string ⟨#[120]⟩, .int .i64 (T : Int), .int .i64 1, .string nm, .int .i64 ((T : Int) + 1), .int .i64 1] 32))).heap.size := by have := HWY.out.size; have := HY6.out.size; omega
      have hw6 : Below w.heap.size w w6 := (HWY.out.trans (HY6.out.mono HWY.out.size)).trans (gb_below_of HG6.out (fun q hq => (World.ownsRow.lt HOF.out q hq).1) hWW)
      have hwV : Below w.heap.size w V := hw6.trans (gb_to_below hgV HB1.out.size hw6.size)
      have hk2 : ImgOk (withTwo m ⟨#[120]⟩ nm) ⟨some ⟨g1, 0, none⟩, c1, some ⟨g2, 0, none⟩, c2, bA, bc, dA, dc, lA, lc⟩ := by
        have h := HOK.out
        have htc := own_capG hOV.tx
        have hfc := own_capG hOV.fn
        refine ⟨?_, ?_, h.bl, h.dl, h.ll, htc, hfc, h.bc, h.dc, h.lc, ?_, ?_, h.bb, h.db, h.lb, h.eb⟩
        · show (m.text ++ [0, 0]).length ≤ _
          rw [List.length_append, HTE.out]
          simp
          omega
        · show (m.funcs ++ _).length ≤ _
          rw [List.length_append, HNF.out]
          simp
          omega
        · intro x hx
          rcases List.mem_append.1 hx with hx | hx
          · exact h.tb x hx
          · simp at hx
            omega
        · intro f hf
          rcases List.mem_append.1 hf with hf | hf
          · exact h.fb f hf
          · have hT := HTE.out
            have hnm := HNM.out.2.2.1
            simp only [List.mem_cons, List.not_mem_nil, or_false] at hf
            rcases hf with rfl | rfl
            · exact ⟨by unfold N64; simp only; omega, by unfold N64; simp only; omega, show (1 : Nat) ≤ 140737488355328 by decide⟩
            · exact ⟨by unfold N64; simp only; omega, by unfold N64; simp only; omega, by simp only; omega⟩
      have HCK : Hid (∀ W, Below V.heap.size V W → Calls Tryd.prog 17 #[.agg #[.slice (some ⟨g1, 0, none⟩) (T + 2) c1, .slice (some ⟨g2, 0, none⟩) (nf + 2) c2, .slice bA m.tables.length bc, .slice dA m.data.length dc, .slice lA m.lines.length lc, .int .i64 m.entry]] W fun e w' => e = .returned (.int .i64 wv) ∧ Below W.heap.size W w') := Lib.hid fun W hW => by
        have h := imgCheck_any (withTwo m ⟨#[120]⟩ nm) ⟨some ⟨g1, 0, none⟩, c1, some ⟨g2, 0, none⟩, c2, bA, bc, dA, dc, lA, lc⟩ W ((hOV.rd.below hW).more hW.size) hk2
        rw [HCHK.out] at h
        unfold Img.val withTwo at h
        simp only [List.length_append, HTE.out, HNF.out] at h
        exact h
      have HWV := Lib.hid hwV
      rw [hV]
      have v0 := hmV.cell 0 rfl
      have v1 := hmV.cell 1 rfl
      have v2 := hmV.cell 2 rfl
      have v3 := hmV.cell 3 rfl
      have v4 := hmV.cell 4 rfl
      have v5 := hmV.cell 5 rfl
      have vl := hmV.lt
      have HNW : Hid (Blk (V.alloc (.cells #[.int .i64 7, .int .i64 0, .int .i64 4, .int .i64 4, .int .i64 0, .int .i64 4] 35)) V.heap.size 35 [.int .i64 7, .int .i64 0, .int .i64 4, .int .i64 4, .int .i64 0, .int .i64 4]) := Lib.hid (Blk.new V _ _)
      have hcell2 := HNW.out.cell kk HNM.out.2.1
      have hwV2 := HWV.out.size
      clear hV hgV hmV hO6 hOV hWW hw6 hwV hk2 y1 yf1 yl hs3 hwX
      go_wp2_with (first | (go_at_call 16; refine (HPK.out _).mono ?_; rintro e wq ⟨rfl, rfl⟩) | (go_at_call 17; refine (HCK.out _ ((Below.refl _ _).alloc (Nat.le_refl _) _)).mono ?_; rintro e w9 ⟨rfl, hb9⟩; have HB9 := Lib.hid (HWV.out.trans (((Below.refl V.heap.size V).alloc (Nat.le_refl _) (.cells #[.int .i64 7, .int .i64 0, .int .i64 4, .int .i64 4, .int .i64 0, .int .i64 4] 35)).mono hwV2 |>.trans (hb9.mono (by simp; omega)))); clear hb9))
      go_ret
      exact ⟨rfl, HB9.out⟩
set_option maxRecDepth 100000 in
theorem imageNames_contract (H : Type) (enc : TypeId × Value → H) (W : World) (base : Nat) (args : Array Value) (ds gs : List (DataW H)) (before : List MemPlace)
    (hval : ∀ (j : Nat) t v, Tryd.f3.params[j]? = some t → args[j]? = some v → Value.okWide Tryd.prog W .any base t v)
    (hW : DataW.Whole enc Tryd.prog Tryd.f3.params.toList Rows.imageNamesSpec.vars false W args.toList ds gs before) (hL : laidMetH Tryd.prog Rows.imageNamesRow.laid W)
    (hz : (DataW.weightsEach Tryd.prog (Tryd.f3.params.toList ++ (OpenSpec.ofChange Rows.imageNamesSpec).bare.plain.varTypes Tryd.prog) (ds ++ gs)).all (· ≤ reachBytes) = true) :
    Calls Tryd.prog 3 args W fun e W' => ∃ v, e = .returned v ∧ Rows.imageNamesSpec.post enc Tryd.prog Tryd.f3 false true false false W args v W' := by
  have hT : Tabs W := tabs_of_laid5 hL
  have hW0 := hW
  obtain ⟨p, q, hA0, hV, rfl, hfz, hnd⟩ := hW
  have hA : DataW.TrodAll enc Tryd.prog W 0 (fun _ => true) true Tryd.f3.params.toList args.toList ds p := hA0
  rw [Tryd.params3] at hA hval
  obtain ⟨v0, vs0, d0, ds0, p0, q0, hargs, rfl, rfl, h0, r0⟩ := trodAll_cons hA
  obtain ⟨v1, vs1, d1, ds1, p1, q1, rfl, rfl, rfl, h1, r1⟩ := trodAll_cons r0
  obtain ⟨rfl, rfl, rfl⟩ := trodAll_nil r1
  obtain rfl : args = #[v0, v1] := by cases args; simp_all
  obtain ⟨rfl, rfl⟩ := trodVars_none hV
  clear hA0
  obtain ⟨A, cap, L, rfl, hcap, hcm, hR, hd⟩ := open_raws (hval 0 22 v0 rfl rfl) h0
  obtain ⟨n, rfl, rfl, rfl, wn⟩ := open_int Tryd.underlying3 (hval 1 3 v1 rfl rfl) h1
  have hL : L.length ≤ 140737488355328 := by
    rcases hd with ⟨-, rfl, -⟩ | ⟨elems, spare, rfl, hl⟩
    · exact Nat.zero_le _
    · have h1 := sized_slice hz (j := 0) (t := 22) (by rw [Tryd.params3]; rfl) rfl Tryd.underlying22
      have h2 : Tryd.prog.bytesOf 143 = 32 := by kernel_rfl
      have h3 := reachBytes_lt
      rw [h2, hl] at h1
      omega
  refine (imageNames_walk L A cap n (i64_of_wf wn) W hT hR hL hcap).mono fun e W' ⟨he, hb⟩ => ?_
  subst he
  exact ⟨_, rfl, law_post hW0 rfl rfl (by kernel_rfl) (by kernel_rfl) hb⟩
set_option maxRecDepth 100000 in
theorem imageNames_met (os : Os) : laidMet Tryd.prog Rows.imageNamesRow.laid ((laidWorld5 os).forCall (fun _ _ => 0) ⟨#[], #[.slice none 0 0, .int .i64 0], []⟩).memory :=
  laidMet_of_run' 8 (by kernel_rfl) (by kernel_rfl)
set_option maxRecDepth 100000 in
theorem imageNames_reads (os : Os) {H : Type} (enc : TypeId × Value → H) : ∃ places, DataW.whole enc Tryd.prog ((laidWorld5 os).forCall (fun _ _ => 0) ⟨#[], #[.slice none 0 0, .int .i64 0], []⟩).memory Tryd.f3.params.toList Rows.imageNamesSpec.vars false (#[.slice none 0 0, .int .i64 0] : Array Value).toList 8 = some ([.nil, .lit (.int .i64 0)], [], places) :=
  ⟨[], by kernel_rfl⟩
set_option maxRecDepth 100000 in
theorem imageNames_lifted (os : Os) (started : os.Started) (H : Type) (enc : TypeId × Value → H) (F : Stop.Interp) :
    ReturnsInHanded {} Tryd.checked os 3 .any ((OpenSpec.ofChange Rows.imageNamesSpec).preRow enc Tryd.prog Tryd.f3 Rows.imageNamesRow.domain false Rows.imageNamesRow.laid) (((OpenSpec.ofChange Rows.imageNamesSpec).at F).post enc Tryd.prog Tryd.f3 false true false false) := by
  obtain ⟨places, hx⟩ := imageNames_reads os enc
  refine returnsInHanded_of_row (C := Tryd.checked) (s := OpenSpec.ofChange Rows.imageNamesSpec) ownP started (by kernel_rfl) Tryd.func3
    (witness_row_at (enc := enc) (C := Tryd.checked) false (laidWorld5 os) #[.slice none 0 0, .int .i64 0] rfl (by kernel_rfl) (by kernel_rfl) (by kernel_rfl)
      (OpenSpec.preRow_of_cond 8 hx (by kernel_rfl) (fun k hk => by cases hk) (by kernel_rfl) (imageNames_met os))) ?_
  intro W base args ds gs before hval hW _ _ hreach hL _ _
  exact imageNames_contract H enc W base args ds gs before hval hW hL hreach
set_option maxRecDepth 100000 in
theorem imageNames_said : Rows.ImageNamesSaid :=
  OpenClaim.holds_of_cond 3 Tryd.f3 rfl rfl rfl rfl rfl rfl rfl ⟨rfl, rfl, rfl, rfl, rfl⟩ rfl rfl rfl rfl rfl (by kernel_rfl) Tryd.func3 (by kernel_rfl)
    (of_decide_eq_true (by kernel_rfl)) (by unfold Func.isWrapper; first | (rw [if_pos (by decide +kernel)]; kernel_rfl) | (rw [if_neg (by decide +kernel)]; exact ⟨rfl, rfl⟩))
    (fun os started H enc _ F => by rw [OpenClaim.pre_eq_preRow]; exact imageNames_lifted os started H enc F)
set_option maxRecDepth 100000 in
theorem imageNames_plain (f : FuncId) (fn : Func) (hf : Tryd.pinned.checked.prog.funcNamed "bolthole/boltholekeep.ImageNames" = some f) (hfn : Tryd.pinned.checked.prog.funcs[f]? = some fn) :
    ∀ (j : Nat) t, fn.params[j]? = some t → Tryd.pinned.checked.prog.wantsStandIn t = false := by
  obtain rfl : f = 3 := Option.some.inj ((show Tryd.prog.funcNamed "bolthole/boltholekeep.ImageNames" = some 3 by kernel_rfl).symm.trans hf) |>.symm
  obtain rfl : fn = Tryd.f3 := (Option.some.inj (Tryd.func3.symm.trans hfn)).symm
  intro j t ht
  have hall : ∀ t ∈ Tryd.f3.params, Tryd.prog.wantsStandIn t = false := by
    rw [Tryd.params3]
    intro t ht
    simp only [List.mem_toArray, List.mem_cons, List.not_mem_nil, or_false] at ht
    rcases ht with rfl | rfl
    all_goals kernel_rfl
  exact hall t (Array.mem_of_getElem? ht)
set_option maxRecDepth 100000 in
theorem imageNames_card : Rows.ImageNamesCardSaid :=
  Claim7.holds_tied_plain_at .later [] _ _ _ _ imageNames_said (fun _ h => by cases h) (by kernel_rfl) (fun _ h => by cases h) imageNames_row_tie rfl ⟨rfl, rfl⟩ (by kernel_rfl) rfl (fun f fn hf hfn => ⟨by kernel_rfl, imageNames_plain f fn hf hfn⟩) (by kernel_rfl)
end Go.Proofs.YtodgogjbbdekoaaDoor
