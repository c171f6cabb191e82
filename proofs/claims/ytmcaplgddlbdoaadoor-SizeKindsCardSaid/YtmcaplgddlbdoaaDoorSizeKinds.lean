/- The given statement on SizeKinds, proved: the instruction of raw numbers has the size of its kind; a long one has one byte more. No condition of its own. -/
import Derived.Test.YtmcaplgddlbdoaaDoorLawR
import Derived.Test.YtmcaplgddlbdoaaDoorPlainA
namespace Go.Proofs.YtmcaplgddlbdoaaDoor
open Go.ChangeShapes Go.WideShapes Go.ChangeAt Go.RowKit Go.Joins
set_option maxHeartbeats 4000000 in
set_option maxRecDepth 100000 in
theorem sizeKinds_walk (r : RawI) (hr : r.ok) (w : World) (hT : Tabs w) : Calls Tryd.prog 3 #[.agg #[.int .i64 r.k, .int .i64 r.a, .int .i64 r.b, .int .i64 r.c]] w fun e w' =>
    e = .returned (.bool true) ∧ Below w.heap.size w w' := by
  have ha := anyI_ok r false
  have hb := anyI_ok r true
  obtain ⟨hk, hs⟩ := any_kinds r
  have sa := sizeK_bd ha
  have any1 := fun l w1 => any_any r l hr w1
  have hI := Lib.hid ha
  have hJ := Lib.hid hb
  have HK := Lib.hid hk
  have HS := Lib.hid hs
  clear ha hb hk hs any1
  generalize hi : anyI r false = I at *
  generalize hj : anyI r true = J at *
  have EI := Lib.hid hi
  have EJ := Lib.hid hj
  clear hi hj
  have any0 : ∀ w1, Calls Tryd.prog 10 #[.agg #[.int .i64 r.k, .int .i64 r.a, .int .i64 r.b, .int .i64 r.c], .bool false] w1 fun e w' => e = .returned (.agg I.cells) ∧ Below w1.heap.size w1 w' := fun w1 => by rw [← EI.out]; exact any_any r false hr w1
  have any1 : ∀ w1, Calls Tryd.prog 10 #[.agg #[.int .i64 r.k, .int .i64 r.a, .int .i64 r.b, .int .i64 r.c], .bool true] w1 fun e w' => e = .returned (.agg J.cells) ∧ Below w1.heap.size w1 w' := fun w1 => by rw [← EJ.out]; exact any_any r true hr w1
  have A0 := Lib.hid any0
  have A1 := Lib.hid any1
  clear any0 any1
  go_enter Tryd.func3, Tryd.ntmps3
  go_wp2_with fail
  refine (A0.out _).mono ?_
  rintro e w1 ⟨rfl, hb1⟩
  unfold Ins.cells
  have hz1 : w.heap.size < w1.heap.size := by have := hb1.size; simp at this; omega
  have g0 : w1.cell? ⟨w.heap.size, 0, none⟩ = some (.int .i64 r.k) := (hb1.cell (p := ⟨w.heap.size, 0, none⟩) (by simp)).trans (by go_simp)
  have g1 : w1.cell? ⟨w.heap.size, 1, none⟩ = some (.int .i64 r.a) := (hb1.cell (p := ⟨w.heap.size, 1, none⟩) (by simp)).trans (by go_simp)
  have g2 : w1.cell? ⟨w.heap.size, 2, none⟩ = some (.int .i64 r.b) := (hb1.cell (p := ⟨w.heap.size, 2, none⟩) (by simp)).trans (by go_simp)
  have g3 : w1.cell? ⟨w.heap.size, 3, none⟩ = some (.int .i64 r.c) := (hb1.cell (p := ⟨w.heap.size, 3, none⟩) (by simp)).trans (by go_simp)
  have hB1 : Below w.heap.size w w1 := ((Below.refl _ _).alloc (Nat.le_refl _) _).trans (hb1.mono (by simp))
  clear hb1
  go_wp2_with fail
  refine (A1.out _).mono ?_
  rintro e w2 ⟨rfl, hb2⟩
  unfold Ins.cells
  have hz2 : w1.heap.size < w2.heap.size := by have := hb2.size; simp at this; omega
  have i0 : ∀ j v, I.cells[j]? = some v → w2.cell? ⟨w1.heap.size, j, none⟩ = some v := fun j v hv => (hb2.cell (p := ⟨w1.heap.size, j, none⟩) (by simp)).trans ((cell_of_row _ _ _ _ _ _ (heap_alloc_new w1 _)).trans hv)
  have k0 := i0 0 _ rfl
  have k1 := i0 1 _ rfl
  have k2 := i0 2 _ rfl
  have k3 := i0 3 _ rfl
  have k4 := i0 4 _ rfl
  have k5 := i0 5 _ rfl
  have hB2 : Below w.heap.size w w2 := (hB1.alloc (by omega) _).trans (hb2.mono (by simp; omega))
  clear hb2 i0 g0 g1 g2 g3
  have hT2 := hT.below hB2
  go_wp2_with fail
  refine (size_any _ _ _ _ _ _ _ (hT2.alloc _)).mono ?_
  rintro e w3 ⟨rfl, hb3⟩
  have eI : chk I.k I.d I.a I.b I.n I.l = 0 := hI.out
  have eJ : chk J.k J.d J.a J.b J.n J.l = 0 := hJ.out
  rw [eI, if_pos rfl]
  clear eI
  have hz3 : w2.heap.size < w3.heap.size := by have := hb3.size; simp at this; omega
  have hc3 : ∀ b o, b < w2.heap.size → w3.cell? ⟨b, o, none⟩ = w2.cell? ⟨b, o, none⟩ := fun b o h => (hb3.cell (p := ⟨b, o, none⟩) (by simp; omega)).trans (by go_simp)
  have m0 := (hc3 _ _ hz2).trans k0
  have m1 := (hc3 _ _ hz2).trans k1
  have m2 := (hc3 _ _ hz2).trans k2
  have m3 := (hc3 _ _ hz2).trans k3
  have m4 := (hc3 _ _ hz2).trans k4
  have m5 := (hc3 _ _ hz2).trans k5
  have j0 : ∀ j v, J.cells[j]? = some v → w3.cell? ⟨w2.heap.size, j, none⟩ = some v := fun j v hv => (hb3.cell (p := ⟨w2.heap.size, j, none⟩) (by simp)).trans ((cell_of_row _ _ _ _ _ _ (heap_alloc_new w2 _)).trans hv)
  have n0 := j0 0 _ rfl
  have n1 := j0 1 _ rfl
  have n2 := j0 2 _ rfl
  have n3 := j0 3 _ rfl
  have n4 := j0 4 _ rfl
  have n5 := j0 5 _ rfl
  have hB3 : Below w.heap.size w w3 := (hB2.alloc (by omega) _).trans (hb3.mono (by simp; omega))
  have hT3 := hT.below hB3
  clear hb3 hc3 j0 k0 k1 k2 k3 k4 k5 hT2 hT m1 m2 m3 m4 m5
  have hsJ := HS.out
  have hkk := HK.out
  have n0 : w3.cell? ⟨w2.heap.size, 0, none⟩ = some (.int .i64 I.k) := by rw [hkk]; exact n0
  rw [← hkk] at hsJ eJ
  generalize hA : sizeK I.k I.l = A at *
  clear hA
  go_wp2_with fail
  refine (size_any _ _ _ _ _ _ _ hT3).mono ?_
  rintro e w4 ⟨rfl, hb4⟩
  rw [← hkk, eJ, if_pos rfl, hsJ]
  have hz4 : w2.heap.size < w4.heap.size := by have := hb4.size; omega
  have q0 : w4.cell? ⟨w1.heap.size, 0, none⟩ = some (.int .i64 I.k) := (hb4.cell (p := ⟨w1.heap.size, 0, none⟩) (by show w1.heap.size < _; omega)).trans m0
  have r0 : w4.cell? ⟨w2.heap.size, 0, none⟩ = some (.int .i64 I.k) := (hb4.cell (p := ⟨w2.heap.size, 0, none⟩) hz3).trans n0
  have r5 : w4.cell? ⟨w2.heap.size, 5, none⟩ = some (.bool J.l) := (hb4.cell (p := ⟨w2.heap.size, 5, none⟩) hz3).trans n5
  have hB4 : Below w.heap.size w w4 := hB3.trans (hb4.mono (by omega))
  clear hsJ hkk eJ n0 n1 n2 n3 n4 n5 m0 hb4 hT3
  generalize J.l = l at *
  generalize I.k = k at *
  have h4 : ¬ 4 < A := by omega
  have hne : (A == A + 1) = false := by simp; omega
  cases l
  · go_wp2
    go_ret
    exact ⟨rfl, hB4⟩
  · go_wp2
    go_ret
    exact ⟨rfl, hB4⟩
theorem sizeKinds_contract (H : Type) (enc : TypeId × Value → H) (W : World) (base : Nat) (args : Array Value) (ds gs : List (DataW H)) (before : List MemPlace)
    (hval : ∀ (j : Nat) t v, Tryd.f3.params[j]? = some t → args[j]? = some v → Value.okWide Tryd.prog W .any base t v)
    (hW : DataW.Whole enc Tryd.prog Tryd.f3.params.toList Rows.sizeKindsSpec.vars false W args.toList ds gs before) (hL : laidMetH Tryd.prog Rows.sizeKindsRow.laid W) :
    Calls Tryd.prog 3 args W fun e W' => ∃ v, e = .returned v ∧ Rows.sizeKindsSpec.post enc Tryd.prog Tryd.f3 false true false false W args v W' := by
  have hT : Tabs W := tabs_of_laid (rest := []) hL
  have hW0 := hW
  obtain ⟨p, q, hA0, hV, rfl, hfz, hnd⟩ := hW
  have hA : DataW.TrodAll enc Tryd.prog W 0 (fun _ => true) true Tryd.f3.params.toList args.toList ds p := hA0
  rw [Tryd.params3] at hA hval
  obtain ⟨v0, vs0, d0, ds0, p0, q0, hargs, rfl, rfl, h0, r0⟩ := trodAll_cons hA
  obtain ⟨rfl, rfl, rfl⟩ := trodAll_nil r0
  obtain rfl : args = #[v0] := by cases args; simp_all
  obtain ⟨rfl, rfl⟩ := trodVars_none hV
  clear hA0
  obtain ⟨x, rfl, hx⟩ := open_raw (hval 0 23 v0 rfl rfl) h0
  refine (sizeKinds_walk x hx W hT).mono fun e W' ⟨he, hb⟩ => ?_
  subst he
  exact ⟨_, rfl, law_post hW0 rfl rfl (by kernel_rfl) (by kernel_rfl) hb⟩
theorem sizeKinds_met (os : Os) : laidMet Tryd.prog Rows.sizeKindsRow.laid ((laidWorld os).forCall (fun _ _ => 0) ⟨#[], #[.agg #[.int .i64 0, .int .i64 0, .int .i64 0, .int .i64 0]], []⟩).memory :=
  laidMet_of_run' 8 (by kernel_rfl) (by kernel_rfl)
theorem sizeKinds_reads (os : Os) {H : Type} (enc : TypeId × Value → H) : ∃ places, DataW.whole enc Tryd.prog ((laidWorld os).forCall (fun _ _ => 0) ⟨#[], #[.agg #[.int .i64 0, .int .i64 0, .int .i64 0, .int .i64 0]], []⟩).memory Tryd.f3.params.toList Rows.sizeKindsSpec.vars false (#[.agg #[.int .i64 0, .int .i64 0, .int .i64 0, .int .i64 0]] : Array Value).toList 8 = some ([.agg [.lit (.int .i64 0), .lit (.int .i64 0), .lit (.int .i64 0), .lit (.int .i64 0)]], [], places) :=
  ⟨[], by kernel_rfl⟩
set_option maxRecDepth 100000 in
theorem sizeKinds_lifted (os : Os) (started : os.Started) (H : Type) (enc : TypeId × Value → H) (F : Stop.Interp) :
    ReturnsInHanded {} Tryd.checked os 3 .any ((OpenSpec.ofChange Rows.sizeKindsSpec).preRow enc Tryd.prog Tryd.f3 Rows.sizeKindsRow.domain false Rows.sizeKindsRow.laid) (((OpenSpec.ofChange Rows.sizeKindsSpec).at F).post enc Tryd.prog Tryd.f3 false true false false) := by
  obtain ⟨places, hx⟩ := sizeKinds_reads os enc
  refine returnsInHanded_of_row (C := Tryd.checked) (s := OpenSpec.ofChange Rows.sizeKindsSpec) ownP started (by kernel_rfl) Tryd.func3
    (witness_row_at (enc := enc) (C := Tryd.checked) false (laidWorld os) #[.agg #[.int .i64 0, .int .i64 0, .int .i64 0, .int .i64 0]] rfl (by kernel_rfl) (by kernel_rfl) (by kernel_rfl)
      (OpenSpec.preRow_of_cond 8 hx (by kernel_rfl) (fun k hk => by cases hk) (by kernel_rfl) (sizeKinds_met os))) ?_
  intro W base args ds gs before hval hW _ _ _ hL _ _
  exact sizeKinds_contract H enc W base args ds gs before hval hW hL
theorem sizeKinds_said : Rows.SizeKindsSaid :=
  OpenClaim.holds_of_cond 3 Tryd.f3 rfl rfl rfl rfl rfl rfl rfl ⟨rfl, rfl, rfl, rfl, rfl⟩ rfl rfl rfl rfl rfl (by kernel_rfl) Tryd.func3 (by kernel_rfl)
    (of_decide_eq_true (by kernel_rfl)) (by unfold Func.isWrapper; first | (rw [if_pos (by decide +kernel)]; kernel_rfl) | (rw [if_neg (by decide +kernel)]; exact ⟨rfl, rfl⟩))
    (fun os started H enc _ F => by rw [OpenClaim.pre_eq_preRow]; exact sizeKinds_lifted os started H enc F)
theorem sizeKinds_plain (f : FuncId) (fn : Func) (hf : Tryd.pinned.checked.prog.funcNamed "bolthole/boltholekeep.SizeKinds" = some f) (hfn : Tryd.pinned.checked.prog.funcs[f]? = some fn) :
    false = Tryd.pinned.checked.prog.looks [] ∧ ∀ (j : Nat) t, fn.params[j]? = some t → Tryd.pinned.checked.prog.wantsStandIn t = false := by
  obtain rfl : f = 3 := Option.some.inj ((show Tryd.prog.funcNamed "bolthole/boltholekeep.SizeKinds" = some 3 by kernel_rfl).symm.trans hf) |>.symm
  obtain rfl : fn = Tryd.f3 := (Option.some.inj (Tryd.func3.symm.trans hfn)).symm
  refine ⟨by kernel_rfl, fun j t ht => ?_⟩
  have hall : ∀ t ∈ Tryd.f3.params, Tryd.prog.wantsStandIn t = false := by
    rw [Tryd.params3]
    intro t ht
    simp only [List.mem_toArray, List.mem_cons, List.not_mem_nil, or_false] at ht
    rcases ht with rfl
    all_goals kernel_rfl
  exact hall t (Array.mem_of_getElem? ht)
theorem sizeKinds_card : Rows.SizeKindsCardSaid :=
  Claim7.holds_tied_plain_at .later [] _ _ _ _ sizeKinds_said (fun _ h => by cases h) (by kernel_rfl) (fun _ h => by cases h) sizeKinds_row_tie rfl ⟨rfl, rfl⟩ (by kernel_rfl) rfl sizeKinds_plain (by kernel_rfl)
end Go.Proofs.YtmcaplgddlbdoaaDoor
