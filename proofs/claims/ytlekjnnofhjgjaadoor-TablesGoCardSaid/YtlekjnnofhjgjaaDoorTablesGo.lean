/- The given statement on TablesGo, proved: a table leads where its addresses say; beside them it is stopped. No condition of its own. -/
import Derived.Test.YtlekjnnofhjgjaaDoorLawS
import Derived.Test.YtlekjnnofhjgjaaDoorRunW
import Derived.Test.YtlekjnnofhjgjaaDoorFlowU
import Derived.Test.YtlekjnnofhjgjaaDoorEqI
import Derived.Deep.QuietTactic
import Derived.BigQuiet
import Derived.IntWalk
import Derived.WalkLawsBesides
namespace Go.Proofs.YtlekjnnofhjgjaaDoor
open Go.ChangeShapes Go.WideShapes Go.ChangeAt Go.RowKit Go.Joins
open Go.ChangeMaps (open_string)
theorem Blk.rdg {w : World} {g : Nat} {T : TypeId} {cs : List Value} (h : Blk w g T cs) : RdG w w.heap.size (some ⟨g, 0, none⟩) cs := fun _ => ⟨g, 0, rfl, h.lt, fun j v hv => by rw [Nat.zero_add]; exact h.cell j hv⟩
def tgL (k : Int) : List Ins := [⟨5, 1, 0, 0, k, false⟩, ⟨24, 0, 1, 0, 0, false⟩, ⟨17, 0, 1, 0, 0, false⟩, haltI, ⟨17, 0, 0, 0, 0, false⟩, haltI, ⟨5, 2, 0, 0, 9, false⟩, ⟨17, 0, 2, 0, 0, false⟩]
def tgM (k : Int) : Img := ⟨encAll (tgL k ++ [haltI]), [⟨⟨#[102]⟩, 0, (encAll (tgL k ++ [haltI])).length⟩], [[7, 10, 13]], [5, -3, 0, 7, 1, 2], [], 0⟩
def tgW (j : Nat) : List Int := [[], [0], [0], [9], []].getD j []
def tgE (j : Nat) : Int := [2, 1, 1, 1, 2].getD j 0
theorem tg_facts : ∀ j : Nat, j < 5 → (∀ i ∈ tgL ((j : Int) - 1), i.chk = 0) ∧ checkE (tgM ((j : Int) - 1)) = 0 ∧ (recL (tgM ((j : Int) - 1))).map (fun d => (d.blocks.length, d.tables.map List.length)) = some (4, [3]) ∧ runE (tgM ((j : Int) - 1)) [] 100 = 0 ∧ (runS (tgM ((j : Int) - 1)) [] 100).told = tgW j ∧ (runS (tgM ((j : Int) - 1)) [] 100).en = tgE j ∧ (encAll (tgL ((j : Int) - 1) ++ [haltI])).length ≤ 100 := by decide +kernel
theorem tg_len : ∀ j : Nat, j < 5 → (tgW j).length ≤ 1 := by decide
theorem tg_one : ∀ {ts : List (List Int)}, ts.map List.length = [3] → ∃ t0, ts = [t0] ∧ t0.length = 3
  | [], h => by cases h
  | [t], h => ⟨t, rfl, by simpa using h⟩
  | _ :: _ :: _, h => by simp at h
/-- what the literal of wanted rows leaves -/
theorem tg_want (X : World) : ∃ W : World, ((((X.alloc (.cells #[.int .i64 0] 3)).alloc (.cells #[.int .i64 0] 3)).alloc (.cells #[.int .i64 9] 3)).alloc (.cells #[.slice none 0 0, .slice (some ⟨X.heap.size, 0, none⟩) 1 1, .slice (some ⟨X.heap.size + 1, 0, none⟩) 1 1, .slice (some ⟨X.heap.size + 1 + 1, 0, none⟩) 1 1, .slice none 0 0] 28)) = W ∧ Below X.heap.size X W ∧ X.heap.size + 4 ≤ W.heap.size ∧
    ∀ j : Nat, j < 5 → ∃ (wA : Option Addr) (wn : Nat), W.cell? ⟨X.heap.size + 1 + 1 + 1, j, none⟩ = some (.slice wA wn wn) ∧ RdG W W.heap.size wA (intsV .i64 (tgW j)) ∧ wn = (tgW j).length := by
  obtain ⟨a0, h0⟩ : ∃ z, X.alloc (.cells #[.int .i64 0] 3) = z := ⟨_, rfl⟩
  have z0 : a0.heap.size = X.heap.size + 1 := by rw [← h0]; simp
  have b0 : Below X.heap.size X a0 := by rw [← h0]; exact (Below.refl _ _).alloc (Nat.le_refl _) _
  have k0 : Blk a0 X.heap.size 3 [.int .i64 0] := by rw [← h0]; exact Blk.new X _ _
  rw [h0]
  obtain ⟨a1, h1⟩ : ∃ z, a0.alloc (.cells #[.int .i64 0] 3) = z := ⟨_, rfl⟩
  have z1 : a1.heap.size = X.heap.size + 2 := by rw [← h1]; simp [z0]
  have b1 : Below a0.heap.size a0 a1 := by rw [← h1]; exact (Below.refl _ _).alloc (Nat.le_refl _) _
  have k1 : Blk a1 (X.heap.size + 1) 3 [.int .i64 0] := by rw [← h1, ← z0]; exact Blk.new a0 _ _
  rw [h1]
  obtain ⟨a2, h2⟩ : ∃ z, a1.alloc (.cells #[.int .i64 9] 3) = z := ⟨_, rfl⟩
  have z2 : a2.heap.size = X.heap.size + 3 := by rw [← h2]; simp [z1]
  have b2 : Below a1.heap.size a1 a2 := by rw [← h2]; exact (Below.refl _ _).alloc (Nat.le_refl _) _
  have k2 : Blk a2 (X.heap.size + 1 + 1) 3 [.int .i64 9] := by rw [← h2, show X.heap.size + 1 + 1 = a1.heap.size from z1.symm]; exact Blk.new a1 _ _
  rw [h2]
  obtain ⟨a3, h3⟩ : ∃ z, a2.alloc (.cells #[.slice none 0 0, .slice (some ⟨X.heap.size, 0, none⟩) 1 1, .slice (some ⟨X.heap.size + 1, 0, none⟩) 1 1, .slice (some ⟨X.heap.size + 1 + 1, 0, none⟩) 1 1, .slice none 0 0] 28) = z := ⟨_, rfl⟩
  have z3 : a3.heap.size = X.heap.size + 4 := by rw [← h3]; simp [z2]
  have b3 : Below a2.heap.size a2 a3 := by rw [← h3]; exact (Below.refl _ _).alloc (Nat.le_refl _) _
  have k3 : Blk a3 (X.heap.size + 1 + 1 + 1) 28 [.slice none 0 0, .slice (some ⟨X.heap.size, 0, none⟩) 1 1, .slice (some ⟨X.heap.size + 1, 0, none⟩) 1 1, .slice (some ⟨X.heap.size + 1 + 1, 0, none⟩) 1 1, .slice none 0 0] := by
    rw [← h3, show X.heap.size + 1 + 1 + 1 = a2.heap.size from z2.symm]
    exact Blk.new a2 _ _
  refine ⟨a3, h3, b0.trans ((b1.mono (by omega)).trans ((b2.mono (by omega)).trans (b3.mono (by omega)))), by omega, fun j hj => ?_⟩
  have h : j = 0 ∨ j = 1 ∨ j = 2 ∨ j = 3 ∨ j = 4 := by omega
  rcases h with rfl | rfl | rfl | rfl | rfl
  · exact ⟨none, 0, k3.cell 0 rfl, RdG.nil _ _ _, rfl⟩
  · exact ⟨_, 1, k3.cell 1 rfl, (((k0.keep b1).keep b2).keep b3).rdg, rfl⟩
  · exact ⟨_, 1, k3.cell 2 rfl, ((k1.keep b2).keep b3).rdg, rfl⟩
  · exact ⟨_, 1, k3.cell 3 rfl, (k2.keep b3).rdg, rfl⟩
  · exact ⟨none, 0, k3.cell 4 rfl, RdG.nil _ _ _, rfl⟩
theorem tg_ends (X : World) : ∃ W : World, (X.alloc (.cells #[.int .i64 2, .int .i64 1, .int .i64 1, .int .i64 1, .int .i64 2] 3)) = W ∧ Below X.heap.size X W ∧ X.heap.size + 1 ≤ W.heap.size ∧ ∀ j : Nat, j < 5 → W.cell? ⟨X.heap.size, j, none⟩ = some (.int .i64 (tgE j)) := by
  obtain ⟨a0, h0⟩ : ∃ z, X.alloc (.cells #[.int .i64 2, .int .i64 1, .int .i64 1, .int .i64 1, .int .i64 2] 3) = z := ⟨_, rfl⟩
  have k0 : Blk a0 X.heap.size 3 [.int .i64 2, .int .i64 1, .int .i64 1, .int .i64 1, .int .i64 2] := by rw [← h0]; exact Blk.new X _ _
  refine ⟨a0, h0, by rw [← h0]; exact (Below.refl _ _).alloc (Nat.le_refl _) _, by rw [← h0]; simp, fun j hj => ?_⟩
  have h : j = 0 ∨ j = 1 ∨ j = 2 ∨ j = 3 ∨ j = 4 := by omega
  rcases h with rfl | rfl | rfl | rfl | rfl
  · exact k0.cell 0 rfl
  · exact k0.cell 1 rfl
  · exact k0.cell 2 rfl
  · exact k0.cell 3 rfl
  · exact k0.cell 4 rfl
set_option maxHeartbeats 8000000 in
set_option maxRecDepth 100000 in
theorem tablesGo_walk (n : Int) (hn : N64 n) (w : World) (hT : Tabs w) : Calls Tryd.prog 8 #[.int .i64 n] w fun e w' => e = .returned (.bool true) ∧ Below w.heap.size w w' := by
  obtain ⟨n1, n2⟩ := hn
  have PN := Lib.hid (fun W => picked_any n 5 W n1 n2 (by decide) (by decide))
  have HT := Lib.hid hT
  clear hT
  have v1 := pickL_bd n 5 (by decide)
  obtain ⟨j', wj⟩ : ∃ x, pickL n 5 = x := ⟨_, rfl⟩
  rw [wj] at v1 PN
  obtain ⟨j, rfl⟩ := Int.eq_ofNat_of_zero_le v1.1
  have hj : j < 5 := by omega
  obtain ⟨f1, f2, f3, f4, f5, f6, f7⟩ := tg_facts j hj
  have F1 := Lib.hid f1
  have F2 := Lib.hid f2
  have F3 := Lib.hid f3
  have F4 := Lib.hid f4
  have F5 := Lib.hid f5
  have F6 := Lib.hid f6
  have F7 := Lib.hid f7
  have hw1 : IntKind.i64.wrap ((j : Int) - 1) = (j : Int) - 1 := IntWalk.i64_in _ (by omega)
  have hjI : (j : Int) < 5 := by omega
  clear f1 f2 f3 f4 f5 f6 f7 wj v1
  go_enter Tryd.func8, Tryd.ntmps8
  go_wp2_with fail
  refine (PN.out _).mono ?_
  rintro e wp ⟨rfl, rfl⟩
  go_upto_region 2 with fail
  obtain ⟨kz, hkz⟩ : ∃ q, (j : Int) - 1 = q := ⟨_, rfl⟩
  have HKZ := Lib.hid hkz
  rw [hkz] at F1 F2 F3 F4 F5 F6 F7 ⊢
  clear hw1 hkz
  go_wp2_with fail
  refine (li_any _ _ _).mono ?_
  rintro e u1 ⟨rfl, hv1⟩
  have HU1 := Lib.hid hv1
  clear hv1
  go_wp2_with fail
  refine (out_any _ _).mono ?_
  rintro e u2 ⟨rfl, hv2⟩
  have HU2 := Lib.hid (HU1.out.trans (hv2.mono HU1.out.size))
  clear hv2
  go_wp2_with fail
  refine (out_any _ _).mono ?_
  rintro e u3 ⟨rfl, hv3⟩
  have HU3 := Lib.hid (HU2.out.trans (hv3.mono HU2.out.size))
  clear hv3
  go_wp2_with fail
  refine (li_any _ _ _).mono ?_
  rintro e u4 ⟨rfl, hv4⟩
  have HU4 := Lib.hid (HU3.out.trans (hv4.mono HU3.out.size))
  clear hv4
  go_wp2_with fail
  refine (out_any _ _).mono ?_
  rintro e u5 ⟨rfl, hv5⟩
  have HU5 := Lib.hid (HU4.out.trans (hv5.mono HU4.out.size))
  clear hv5
  go_wp2_with fail
  obtain ⟨U, hu⟩ : ∃ U, u5.alloc (Obj.cells (insR (tgL kz)).toArray 47) = U := ⟨_, rfl⟩
  have hr : U.heap[u5.heap.size]? = some (.cells (insR (tgL kz)).toArray 47 (0, 0)) := by rw [← hu]; exact heap_alloc_new u5 _
  have hwU : Below w.heap.size w U := by rw [← hu]; exact HU5.out.alloc HU5.out.size _
  have hal := alone_any (tgL kz) u5.heap.size 0 8 U (HT.out.below hwU) (by simp [tgL]) (by simp [tgL]) (by simp [tgL]) (Array.getElem?_eq_some_iff.1 hr).1 F1.out (fun j u hu => by rw [Nat.zero_add, cell_of_row U _ j _ _ _ hr]; simpa using hu)
  rw [← hu] at hal
  refine hal.mono ?_
  clear hal
  rintro e w1 ⟨hb1, ⟨tA, tc, fA, fc, bA, bc, dA, dc, lA, lc⟩, rfl, hrd, hok⟩
  rw [hu] at hb1
  have HW1 := Lib.hid (hwU.trans (hb1.mono hwU.size))
  have HRD := Lib.hid hrd
  have HOK := Lib.hid hok
  clear hrd hok hb1 hwU hr hu HU1 HU2 HU3 HU4 HU5
  obtain ⟨T, hTe⟩ : ∃ q, (aloneM (tgL kz)).text.length = q := ⟨_, rfl⟩
  have HTE := Lib.hid hTe
  have hval : (aloneM (tgL kz)).val ⟨tA, tc, fA, fc, bA, bc, dA, dc, lA, lc⟩ = #[.slice tA T tc, .slice fA 1 fc, .slice bA 0 bc, .slice dA 6 dc, .slice lA 0 lc, .int .i64 0] := by
    unfold Img.val
    rw [hTe]
    rfl
  rw [hval]
  clear hval hTe
  go_upto_region 3 with fail
  obtain ⟨X, hX⟩ : ∃ X, w1.alloc (.cells #[.slice tA T tc, .slice fA 1 fc, .slice bA 0 bc, .slice dA 6 dc, .slice lA 0 lc, .int .i64 0] 31) = X := ⟨_, rfl⟩
  rw [hX]
  have hmX : Blk X w1.heap.size 31 [.slice tA T tc, .slice fA 1 fc, .slice bA 0 bc, .slice dA 6 dc, .slice lA 0 lc, .int .i64 0] := by rw [← hX]; exact Blk.new _ _ _
  have hbX : Below w1.heap.size w1 X := by rw [← hX]; exact (Below.refl _ _).alloc (Nat.le_refl _) _
  obtain ⟨X1, hX1⟩ : ∃ z, X.setCell ⟨w1.heap.size, 2, none⟩ (.slice (some ⟨X.heap.size + 1, 0, none⟩) 1 1) = z := ⟨_, rfl⟩
  have hsz : X1.heap.size = X.heap.size := by rw [← hX1]; simp
  have hm1 : Blk X1 w1.heap.size 31 [.slice tA T tc, .slice fA 1 fc, .slice (some ⟨X.heap.size + 1, 0, none⟩) 1 1, .slice dA 6 dc, .slice lA 0 lc, .int .i64 0] := by rw [← hX1]; exact hmX.set 2 _
  have hg1 : X.grownBy X1 (some w1.heap.size) := by rw [← hX1]; exact gb_setCell (gb_refl _ _) _ _
  have hlX : w1.heap.size < X.heap.size := hmX.lt
  obtain ⟨V, hV⟩ : ∃ z, (X1.alloc (.cells #[.int .i64 7, .int .i64 10, .int .i64 13] 3)).alloc (.cells #[.slice (some ⟨X.heap.size, 0, none⟩) 3 3] 28) = z := ⟨_, rfl⟩
  have hVX : Below X1.heap.size X1 V := by rw [← hV]; exact ((Below.refl _ _).alloc (Nat.le_refl _) _).alloc (by simp) _
  have htV1 : Blk V X.heap.size 3 (intsV .i64 [7, 10, 13]) := by rw [← hV, ← hsz]; exact (Blk.new X1 _ _).alloc _
  have htV2 : Blk V (X.heap.size + 1) 28 [.slice (some ⟨X.heap.size, 0, none⟩) 3 3] := by
    have h := Blk.new2 X1 (.cells #[.int .i64 7, .int .i64 10, .int .i64 13] 3) [.slice (some ⟨X.heap.size, 0, none⟩) 3 3] 28
    rw [hsz] at h
    rw [← hV]
    exact h
  have hmV := hm1.keep hVX
  have hb1V : Below w1.heap.size w1 V := (hbX.trans (gb_to_below hg1 (Nat.le_refl _) (by omega))).trans (hVX.mono (by omega))
  have HMV := Lib.hid hmV
  have HBV := Lib.hid (HW1.out.trans (hb1V.mono HW1.out.size))
  have hIV : ImgRd V V.heap.size (tgM kz) ⟨tA, tc, fA, fc, some ⟨X.heap.size + 1, 0, none⟩, 1, dA, dc, lA, lc⟩ := by
    have h := (HRD.out.below hb1V).more hb1V.size
    refine ⟨h.text, h.funcs, ⟨[.slice (some ⟨X.heap.size, 0, none⟩) 3 3], rfl, htV2.rdg, fun j t hj => ?_⟩, h.data, h.lines⟩
    rcases j with _ | j
    · simp only [tgM, List.getElem?_cons_zero, Option.some.injEq] at hj
      subst hj
      exact ⟨_, 3, rfl, Nat.le_refl _, by unfold maxLen; decide, by decide, htV1.rdg⟩
    · simp [tgM] at hj
  have hOV : ImgOk (tgM kz) ⟨tA, tc, fA, fc, some ⟨X.heap.size + 1, 0, none⟩, 1, dA, dc, lA, lc⟩ := by
    have h := HOK.out
    exact ⟨h.tl, h.fl, by simp [tgM], h.dl, h.ll, h.tc, h.fc, by simp [tgM], h.dc, h.lc, h.tb, h.fb, by simp [tgM, N64], h.db, h.lb, h.eb⟩
  have HIV := Lib.hid hIV
  have HOV := Lib.hid hOV
  have x2 := hmX.cell 2 rfl
  have x2f := hmX.free 2
  clear hmX hbX hVX hm1 hg1 hmV htV1 htV2 hb1V hIV hOV hX
  go_upto_region 4 with fail
  clear hX1 hV hsz x2 x2f
  have hrun := run_rp (tgM kz) ⟨tA, tc, fA, fc, some ⟨X.heap.size + 1, 0, none⟩, 1, dA, dc, lA, lc⟩ none 0 [] 100 V _ (tgW j) _ (tgE j) _ _ (HT.out.below HBV.out) HIV.out HOV.out (RdG.nil _ _ _) (Nat.le_refl _) (by simp) (by unfold N64; omega) (by simp) F4.out rfl F5.out rfl F6.out rfl rfl
  obtain ⟨St, hSt⟩ : ∃ q, (runS (tgM kz) [] 100).steps = q := ⟨_, rfl⟩
  obtain ⟨Pc, hPc⟩ : ∃ q, (runS (tgM kz) [] 100).pc = q := ⟨_, rfl⟩
  obtain ⟨nw, hnw⟩ : ∃ q, (tgW j).length = q := ⟨_, rfl⟩
  obtain ⟨ee, hee⟩ : ∃ q, tgE j = q := ⟨_, rfl⟩
  rw [hSt, hPc, hnw, hee] at hrun
  have hvv : (tgM kz).val ⟨tA, tc, fA, fc, some ⟨X.heap.size + 1, 0, none⟩, 1, dA, dc, lA, lc⟩ = #[.slice tA T tc, .slice fA 1 fc, .slice (some ⟨X.heap.size + 1, 0, none⟩) 1 1, .slice dA 6 dc, .slice lA 0 lc, .int .i64 0] := by
    rw [← HTE.out]
    rfl
  have HVV := Lib.hid hvv
  rw [hvv] at hrun
  have HRUN := Lib.hid hrun
  have HNW := Lib.hid hnw
  have HEE := Lib.hid hee
  clear hrun hSt hPc hnw hee hvv
  have m0 := HMV.out.cell 0 rfl
  have m1 := HMV.out.cell 1 rfl
  have m2 := HMV.out.cell 2 rfl
  have m3 := HMV.out.cell 3 rfl
  have m4 := HMV.out.cell 4 rfl
  have m5 := HMV.out.cell 5 rfl
  have ml := HMV.out.lt
  go_wp2_with fail
  refine HRUN.out.mono ?_
  rintro e w2 ⟨hb2, A2, c2, rfl, hrow2⟩
  have HR2 := Lib.hid (own_rdg hrow2)
  have HB2 := Lib.hid (HBV.out.trans (hb2.mono HBV.out.size))
  have HM2 := Lib.hid (HMV.out.keep hb2)
  have HI2 := Lib.hid ((HIV.out.below hb2).more hb2.size)
  clear hb2 hrow2 m0 m1 m2 m3 m4 m5 ml HRUN
  go_upto_region 5 with fail
  obtain ⟨W3, hW3⟩ : ∃ z, w2.alloc (.cells #[.slice A2 nw c2, .int .i64 ee, .int .i64 St, .int .i64 Pc] 33) = z := ⟨_, rfl⟩
  rw [hW3]
  have hr3 : Blk W3 w2.heap.size 33 [.slice A2 nw c2, .int .i64 ee, .int .i64 St, .int .i64 Pc] := by rw [← hW3]; exact Blk.new _ _ _
  have hb3 : Below w2.heap.size w2 W3 := by rw [← hW3]; exact (Below.refl _ _).alloc (Nat.le_refl _) _
  have HRV := Lib.hid hr3
  have HB3 := Lib.hid (HB2.out.trans (hb3.mono HB2.out.size))
  have HR3 := Lib.hid ((HR2.out.below hb3).more hb3.size)
  have hm3 := HM2.out.keep hb3
  have HI3 := Lib.hid ((HI2.out.below hb3).more hb3.size)
  have hre : recE (tgM kz) = 0 := by
    have h := F3.out
    rcases hd : recL (tgM kz) with _ | d
    · rw [hd] at h
      cases h
    · exact recE_S F2.out (by have := F7.out; show (encAll (tgL kz ++ [haltI])).length ≤ 2000; omega) hd
  have hrec := rec_any (tgM kz) ⟨tA, tc, fA, fc, some ⟨X.heap.size + 1, 0, none⟩, 1, dA, dc, lA, lc⟩ W3 (HT.out.below HB3.out) HI3.out HOV.out
  rw [hre, HVV.out] at hrec
  have HREC := Lib.hid hrec
  have m0 := hm3.cell 0 rfl
  have m1 := hm3.cell 1 rfl
  have m2 := hm3.cell 2 rfl
  have m3 := hm3.cell 3 rfl
  have m4 := hm3.cell 4 rfl
  have m5 := hm3.cell 5 rfl
  have ml := hm3.lt
  clear hW3 hr3 hb3 hm3 hre hrec
  go_wp2_with fail
  refine HREC.out.mono ?_
  rintro e w4 ⟨-, hgood⟩
  obtain ⟨d, hd⟩ : ∃ d, recL (tgM kz) = some d := by
    have h := F3.out
    rcases hd : recL (tgM kz) with _ | d
    · rw [hd] at h
      cases h
    · exact ⟨d, rfl⟩
  have h3 := F3.out
  rw [hd] at h3
  simp only [Option.map_some, Option.some.injEq, Prod.mk.injEq] at h3
  obtain ⟨d1, d2⟩ := h3
  obtain ⟨bA4, bc4, tA4, tc4, fA4, fc4, rfl, hb4, hfl4⟩ := hgood d rfl hd
  obtain ⟨dbs, dts, dfs⟩ := d
  simp only at d1 d2 hfl4
  obtain ⟨t0, rfl, ht0⟩ := tg_one d2
  obtain ⟨-, -, -, -, ⟨tvs, e1, e2, e3⟩, -⟩ := hfl4
  obtain ⟨a0, cc0, e4, -⟩ := e3 0 t0 rfl
  simp only at e2
  obtain ⟨tb, tbo, e5, e6, e7⟩ := e2.1.at e4
  rw [ht0] at e7
  subst e5
  simp only [Nat.add_zero] at e7
  rw [d1]
  obtain ⟨nf4, hnf4⟩ : ∃ q, dfs.length = q := ⟨_, rfl⟩
  rw [hnf4]
  have HB4 := Lib.hid (HB3.out.trans (hb4.mono HB3.out.size))
  have HRV4 := Lib.hid (HRV.out.keep hb4)
  have HR4 := Lib.hid ((HR3.out.below hb4).more hb4.size)
  have HE7 := Lib.hid e7
  have HE6 := Lib.hid e6
  clear d1 d2 ht0 e1 e2 e3 e4 e6 e7 hd hgood hb4 hnf4 m0 m1 m2 m3 m4 m5 ml HREC
  go_upto_region 6 with fail
  obtain ⟨W5, hW5⟩ : ∃ z, w4.alloc (.cells #[.slice bA4 4 bc4, .slice (some ⟨tb, tbo, none⟩) 1 tc4, .slice fA4 nf4 fc4] 39) = z := ⟨_, rfl⟩
  rw [hW5]
  have hf5 : Blk W5 w4.heap.size 39 [.slice bA4 4 bc4, .slice (some ⟨tb, tbo, none⟩) 1 tc4, .slice fA4 nf4 fc4] := by rw [← hW5]; exact Blk.new _ _ _
  have hb5 : Below w4.heap.size w4 W5 := by rw [← hW5]; exact (Below.refl _ _).alloc (Nat.le_refl _) _
  obtain ⟨W6, hW6, hb6, hz6, hwant⟩ := tg_want W5
  obtain ⟨wA, wn, y_w, hrw, hwn⟩ := hwant j hj
  have hk1 : IntKind.i64.wrap (kz + 1) = (j : Int) := by
    have := HKZ.out
    rw [show kz + 1 = (j : Int) by omega]
    exact IntWalk.i64_in _ (by omega)
  have hk0 : (0 : Int) ≤ (j : Int) := by omega
  have hy_l : W5.heap.size + 1 + 1 + 1 < W6.heap.size := by omega
  have HRW := Lib.hid hrw
  have HWN := Lib.hid hwn
  have HF5 := Lib.hid hf5
  have HB45 := Lib.hid hb5
  have HB56 := Lib.hid hb6
  clear hW5 hf5 hb5 hb6 hz6 hwant hrw hwn
  go_upto_region 7 with fail
  clear hW6
  obtain ⟨W7, hW7, hb7, hz7, hends⟩ := tg_ends W6
  have y_e := hends j hj
  rw [HEE.out] at y_e
  have hy_l7 : W6.heap.size < W7.heap.size := by omega
  have HB67 := Lib.hid hb7
  clear hb7 hz7 hends y_w hy_l
  go_upto_region 8 with fail
  clear hW7 y_e hy_l7 hk1
  have hbb := (HB45.out.trans (HB56.out.mono HB45.out.size)).trans (HB67.out.mono (Nat.le_trans HB45.out.size HB56.out.size))
  have hr7 := HRV4.out.keep hbb
  have hf7 := HF5.out.keep (HB56.out.trans (HB67.out.mono HB56.out.size))
  have r0 := hr7.cell 0 rfl
  have r1 := hr7.cell 1 rfl
  have rl := hr7.lt
  have f0 := hf7.cell 0 rfl
  have f1 := hf7.cell 1 rfl
  have fl := hf7.lt
  have e7 := (hbb.cell HE6.out).trans HE7.out
  have e6 : tb < W7.heap.size := by have := hbb.size; have := HE6.out; omega
  have heq := eqi_any (tgW j) (tgW j) A2 wA nw c2 wn wn W7 ((HR4.out.below hbb).more hbb.size) ((HRW.out.below HB67.out).more HB67.out.size) HNW.out.symm HWN.out (by rw [← HNW.out]; have := tg_len j hj; omega)
  have HEQ := Lib.hid heq
  have HBF := Lib.hid (HB4.out.trans (hbb.mono HB4.out.size))
  clear heq hr7 hf7 hbb
  go_wp2_with fail
  refine HEQ.out.mono ?_
  rintro e w8 ⟨rfl, q8, rfl⟩
  have hdt : decide True = true := rfl
  rw [hdt]
  clear hdt
  go_wp2_with fail
  go_ret
  exact ⟨rfl, below_dN HBF.out q8⟩
set_option maxRecDepth 100000 in
theorem tablesGo_contract (H : Type) (enc : TypeId × Value → H) (W : World) (base : Nat) (args : Array Value) (ds gs : List (DataW H)) (before : List MemPlace)
    (hval : ∀ (j : Nat) t v, Tryd.f8.params[j]? = some t → args[j]? = some v → Value.okWide Tryd.prog W .any base t v)
    (hW : DataW.Whole enc Tryd.prog Tryd.f8.params.toList Rows.tablesGoSpec.vars false W args.toList ds gs before) (hL : laidMetH Tryd.prog Rows.tablesGoRow.laid W) :
    Calls Tryd.prog 8 args W fun e W' => ∃ v, e = .returned v ∧ Rows.tablesGoSpec.post enc Tryd.prog Tryd.f8 false true false false W args v W' := by
  have hT : Tabs W := tabs_of_laid (rest := []) hL
  have hW0 := hW
  obtain ⟨p, q, hA0, hV, rfl, hfz, hnd⟩ := hW
  have hA : DataW.TrodAll enc Tryd.prog W 0 (fun _ => true) true Tryd.f8.params.toList args.toList ds p := hA0
  rw [Tryd.params8] at hA hval
  obtain ⟨v0, vs0, d0, ds0, p0, q0, hargs, rfl, rfl, h0, r0⟩ := trodAll_cons hA
  obtain ⟨rfl, rfl, rfl⟩ := trodAll_nil r0
  obtain rfl : args = #[v0] := by cases args; simp_all
  obtain ⟨rfl, rfl⟩ := trodVars_none hV
  clear hA0
  obtain ⟨n, rfl, rfl, rfl, wn⟩ := open_int Tryd.underlying3 (hval 0 3 v0 rfl rfl) h0
  refine (tablesGo_walk n (i64_of_wf wn) W hT).mono fun e W' ⟨he, hb⟩ => ?_
  subst he
  exact ⟨_, rfl, law_post hW0 rfl rfl (by kernel_rfl) (by kernel_rfl) hb⟩
set_option maxRecDepth 100000 in
theorem tablesGo_met (os : Os) : laidMet Tryd.prog Rows.tablesGoRow.laid ((laidWorld os).forCall (fun _ _ => 0) ⟨#[], #[.int .i64 0], []⟩).memory :=
  laidMet_of_run' 8 (by kernel_rfl) (by kernel_rfl)
set_option maxRecDepth 100000 in
theorem tablesGo_reads (os : Os) {H : Type} (enc : TypeId × Value → H) : ∃ places, DataW.whole enc Tryd.prog ((laidWorld os).forCall (fun _ _ => 0) ⟨#[], #[.int .i64 0], []⟩).memory Tryd.f8.params.toList Rows.tablesGoSpec.vars false (#[.int .i64 0] : Array Value).toList 8 = some ([.lit (.int .i64 0)], [], places) :=
  ⟨[], by kernel_rfl⟩
set_option maxRecDepth 100000 in
theorem tablesGo_lifted (os : Os) (started : os.Started) (H : Type) (enc : TypeId × Value → H) (F : Stop.Interp) :
    ReturnsInHanded {} Tryd.checked os 8 .any ((OpenSpec.ofChange Rows.tablesGoSpec).preRow enc Tryd.prog Tryd.f8 Rows.tablesGoRow.domain false Rows.tablesGoRow.laid) (((OpenSpec.ofChange Rows.tablesGoSpec).at F).post enc Tryd.prog Tryd.f8 false true false false) := by
  obtain ⟨places, hx⟩ := tablesGo_reads os enc
  refine returnsInHanded_of_row (C := Tryd.checked) (s := OpenSpec.ofChange Rows.tablesGoSpec) ownP started (by kernel_rfl) Tryd.func8
    (witness_row_at (enc := enc) (C := Tryd.checked) false (laidWorld os) #[.int .i64 0] rfl (by kernel_rfl) (by kernel_rfl) (by kernel_rfl)
      (OpenSpec.preRow_of_cond 8 hx (by kernel_rfl) (fun k hk => by cases hk) (by kernel_rfl) (tablesGo_met os))) ?_
  intro W base args ds gs before hval hW _ _ _ hL _ _
  exact tablesGo_contract H enc W base args ds gs before hval hW hL
set_option maxRecDepth 100000 in
theorem tablesGo_said : Rows.TablesGoSaid :=
  OpenClaim.holds_of_cond 8 Tryd.f8 rfl rfl rfl rfl rfl rfl rfl ⟨rfl, rfl, rfl, rfl, rfl⟩ rfl rfl rfl rfl rfl (by kernel_rfl) Tryd.func8 (by kernel_rfl)
    (of_decide_eq_true (by kernel_rfl)) (by unfold Func.isWrapper; first | (rw [if_pos (by decide +kernel)]; kernel_rfl) | (rw [if_neg (by decide +kernel)]; exact ⟨rfl, rfl⟩))
    (fun os started H enc _ F => by rw [OpenClaim.pre_eq_preRow]; exact tablesGo_lifted os started H enc F)
set_option maxRecDepth 100000 in
theorem tablesGo_plain (f : FuncId) (fn : Func) (hf : Tryd.pinned.checked.prog.funcNamed "bolthole/boltholekeep.TablesGo" = some f) (hfn : Tryd.pinned.checked.prog.funcs[f]? = some fn) :
    ∀ (j : Nat) t, fn.params[j]? = some t → Tryd.pinned.checked.prog.wantsStandIn t = false := by
  obtain rfl : f = 8 := Option.some.inj ((show Tryd.prog.funcNamed "bolthole/boltholekeep.TablesGo" = some 8 by kernel_rfl).symm.trans hf) |>.symm
  obtain rfl : fn = Tryd.f8 := (Option.some.inj (Tryd.func8.symm.trans hfn)).symm
  intro j t ht
  have hall : ∀ t ∈ Tryd.f8.params, Tryd.prog.wantsStandIn t = false := by
    rw [Tryd.params8]
    intro t ht
    simp only [List.mem_toArray, List.mem_cons, List.not_mem_nil, or_false] at ht
    rcases ht with rfl
    all_goals kernel_rfl
  exact hall t (Array.mem_of_getElem? ht)
set_option maxRecDepth 100000 in
theorem tablesGo_card : Rows.TablesGoCardSaid :=
  Claim7.holds_tied_plain_at .later [] _ _ _ _ tablesGo_said (fun _ h => by cases h) (by kernel_rfl) (fun _ h => by cases h) tablesGo_row_tie rfl ⟨rfl, rfl⟩ (by kernel_rfl) rfl (fun f fn hf hfn => ⟨by kernel_rfl, tablesGo_plain f fn hf hfn⟩) (by kernel_rfl)
end Go.Proofs.YtlekjnnofhjgjaaDoor
