/- The given statement on Bits, proved: and, or and xor fit one another. No condition of its own. -/
import Derived.Test.YtgeljimckoodiaaDoorLawR
import Derived.Test.YtgeljimckoodiaaDoorKeepL
import Derived.Test.YtgeljimckoodiaaDoorKeepA
import Derived.Test.YtgeljimckoodiaaDoorEqI
import Derived.Deep.QuietTactic
import Derived.BigQuiet
import Derived.WalkLawsBesides
namespace Go.Proofs.YtgeljimckoodiaaDoor
open Go.ChangeShapes Go.WideShapes Go.ChangeAt Go.RowKit Go.Joins
open Go.ChangeMaps (open_string)
set_option maxHeartbeats 8000000 in
set_option maxRecDepth 100000 in
theorem bits_walk (a b : Int) (ha : N64 a) (hb : N64 b) (w : World) (hT : Tabs w) : Calls Tryd.prog 4 #[.int .i64 a, .int .i64 b] w fun e w' => e = .returned (.bool true) ∧ Below w.heap.size w w' := by
  obtain ⟨a1, a2⟩ := ha
  have PA := Lib.hid (fun (m : Int) (h : 0 < m) (h2 : m ≤ 9223372036854775807) W => picked_any a m W a1 a2 h h2)
  obtain ⟨b1, b2⟩ := hb
  have PB := Lib.hid (fun (m : Int) (h : 0 < m) (h2 : m ≤ 9223372036854775807) W => picked_any b m W b1 b2 h h2)
  have HT := Lib.hid hT
  clear hT
  have HB_w := Lib.hid (Below.refl w.heap.size w)
  have x1 := pickL_bd a 1073741824 (by decide)
  have y1 := pickL_bd b 1073741824 (by decide)
  obtain ⟨x, wx⟩ : ∃ x, pickL a 1073741824 = x := ⟨_, rfl⟩
  obtain ⟨y, wy⟩ : ∃ y, pickL b 1073741824 = y := ⟨_, rfl⟩
  rw [wx] at x1
  rw [wy] at y1
  obtain ⟨A, O, e1, e2, e3, hAO, A0, A2, O0, O2⟩ := bits_fit x y x1 y1
  have hR1 := bitsL_run x y
  rw [e1, e2, e3] at hR1
  have HK1 := Lib.hid (show ∀ i ∈ bitsL, i.chk = 0 by decide +kernel)
  have HI1 := Lib.hid (show N41 x ∧ N41 y by unfold N41; omega)
  clear e1 e2 e3
  by_cases hlt : x < y
  · have e4 : arithN 13 x y = 1 := if_pos hlt
    rw [e4] at hR1
    have HR1 := Lib.hid hR1
    clear e4 hR1
    go_enter Tryd.func4, Tryd.ntmps4
    go_wp2_with fail
    refine (PA.out _ (by decide) (by decide) _).mono ?_
    rintro e wp ⟨rfl, rfl⟩
    go_wp2_with fail
    refine (PB.out _ (by decide) (by decide) _).mono ?_
    rintro e wp ⟨rfl, rfl⟩
    go_wp2_with fail
    obtain ⟨v0, hv⟩ : ∃ v, w.alloc (.cells #[.int .i64 x, .int .i64 y] 3) = v := ⟨_, rfl⟩
    have hr : v0.heap[w.heap.size]? = some (.cells #[.int .i64 x, .int .i64 y] 3 (0, 0)) := by rw [← hv]; exact heap_alloc_new w _
    have hB : Below w.heap.size w v0 := by rw [← hv]; exact HB_w.out.alloc HB_w.out.size _
    have HBI0 : Hid (Below w.heap.size w v0) := Lib.hid (by rw [← hv]; exact (Below.refl _ _).alloc (Nat.le_refl _) _)
    rw [hv]
    have HRI0 := Lib.hid hr
    have HB_v0 := Lib.hid hB
    clear hv hr hB
    have HV_0_0 := Lib.hid (Below.refl v0.heap.size v0)
    refine (out_any _ _).mono ?_
    rintro e u0_1 ⟨rfl, hv⟩
    have HV_1_0 := Lib.hid (HV_0_0.out.trans (hv.mono HV_0_0.out.size))
    clear hv
    go_wp2_with fail
    refine (out_any _ _).mono ?_
    rintro e u0_2 ⟨rfl, hv⟩
    have HV_2_0 := Lib.hid (HV_1_0.out.trans (hv.mono HV_1_0.out.size))
    clear hv
    go_wp2_with fail
    refine (out_any _ _).mono ?_
    rintro e u0_3 ⟨rfl, hv⟩
    have HV_3_0 := Lib.hid (HV_2_0.out.trans (hv.mono HV_2_0.out.size))
    clear hv
    go_wp2_with fail
    refine (out_any _ _).mono ?_
    rintro e u0_4 ⟨rfl, hv⟩
    have HV_4_0 := Lib.hid (HV_3_0.out.trans (hv.mono HV_3_0.out.size))
    clear hv
    go_wp2_with fail
    obtain ⟨U, hu⟩ : ∃ U, u0_4.alloc (Obj.cells (insR bitsL).toArray 27) = U := ⟨_, rfl⟩
    have hr : U.heap[u0_4.heap.size]? = some (.cells (insR bitsL).toArray 27 (0, 0)) := by rw [← hu]; exact heap_alloc_new u0_4 _
    have hb5 : Below v0.heap.size v0 U := by rw [← hu]; exact HV_4_0.out.alloc HV_4_0.out.size _
    have hw5 : Below w.heap.size w U := HB_v0.out.trans (hb5.mono HB_v0.out.size)
    have hi5 := (hb5.block _ (Array.getElem?_eq_some_iff.1 HRI0.out).1).trans HRI0.out
    have htold := told_of bitsL [x, y] [A, O, O - A, 1] 1 u0_4.heap.size 10 (some ⟨w.heap.size, 0, none⟩) 2 U (HT.out.below hw5) (of_decide_eq_true rfl) (of_decide_eq_true rfl) (of_decide_eq_true rfl) HK1.out hr (fun _ => ⟨w.heap.size, 0, rfl, (Array.getElem?_eq_some_iff.1 hi5).1, fun j u hu => by rw [Nat.zero_add, cell_of_row _ _ j _ _ _ hi5]; simpa [intsV] using hu⟩) (by simp) (by simp) (by simpa using HI1.out) HR1.out.1 HR1.out.2
    rw [← hu] at htold
    refine htold.mono ?_
    clear htold
    rintro e w1 ⟨A1, c1, rfl, hb6, hc1, hrd⟩
    rw [hu] at hb6
    have HB_w1 : Hid (Below w.heap.size w w1) := Lib.hid (hw5.trans (hb6.mono hw5.size))
    have HW1 : Hid (Below v0.heap.size v0 w1) := Lib.hid (hb5.trans (hb6.mono hb5.size))
    have HWB1 : Hid (Below w.heap.size w w1) := Lib.hid (HBI0.out.trans (HW1.out.mono HBI0.out.size))
    have HRD1 := Lib.hid hrd
    clear hb6 hrd hb5 hw5 hr hi5
    obtain ⟨g1, o1, rfl, hg1, k1⟩ := HRD1.out (by simp [intsV])
    have l0 := k1 0 _ rfl
    have l00 := k1 0 _ rfl
    rw [Nat.add_zero] at l00
    have l1 := k1 1 _ rfl
    have l2 := k1 2 _ rfl
    have l3 := k1 3 _ rfl
    clear k1
    go_wp2
    go_quiet (fail)
    go_wp2
    go_ret
    exact ⟨rfl, below_dN HB_w1.out _⟩
  · have e4 : arithN 13 x y = 0 := if_neg hlt
    rw [e4] at hR1
    have HR1 := Lib.hid hR1
    clear e4 hR1
    go_enter Tryd.func4, Tryd.ntmps4
    go_wp2_with fail
    refine (PA.out _ (by decide) (by decide) _).mono ?_
    rintro e wp ⟨rfl, rfl⟩
    go_wp2_with fail
    refine (PB.out _ (by decide) (by decide) _).mono ?_
    rintro e wp ⟨rfl, rfl⟩
    go_wp2_with fail
    obtain ⟨v0, hv⟩ : ∃ v, w.alloc (.cells #[.int .i64 x, .int .i64 y] 3) = v := ⟨_, rfl⟩
    have hr : v0.heap[w.heap.size]? = some (.cells #[.int .i64 x, .int .i64 y] 3 (0, 0)) := by rw [← hv]; exact heap_alloc_new w _
    have hB : Below w.heap.size w v0 := by rw [← hv]; exact HB_w.out.alloc HB_w.out.size _
    have HBI0 : Hid (Below w.heap.size w v0) := Lib.hid (by rw [← hv]; exact (Below.refl _ _).alloc (Nat.le_refl _) _)
    rw [hv]
    have HRI0 := Lib.hid hr
    have HB_v0 := Lib.hid hB
    clear hv hr hB
    have HV_0_0 := Lib.hid (Below.refl v0.heap.size v0)
    refine (out_any _ _).mono ?_
    rintro e u0_1 ⟨rfl, hv⟩
    have HV_1_0 := Lib.hid (HV_0_0.out.trans (hv.mono HV_0_0.out.size))
    clear hv
    go_wp2_with fail
    refine (out_any _ _).mono ?_
    rintro e u0_2 ⟨rfl, hv⟩
    have HV_2_0 := Lib.hid (HV_1_0.out.trans (hv.mono HV_1_0.out.size))
    clear hv
    go_wp2_with fail
    refine (out_any _ _).mono ?_
    rintro e u0_3 ⟨rfl, hv⟩
    have HV_3_0 := Lib.hid (HV_2_0.out.trans (hv.mono HV_2_0.out.size))
    clear hv
    go_wp2_with fail
    refine (out_any _ _).mono ?_
    rintro e u0_4 ⟨rfl, hv⟩
    have HV_4_0 := Lib.hid (HV_3_0.out.trans (hv.mono HV_3_0.out.size))
    clear hv
    go_wp2_with fail
    obtain ⟨U, hu⟩ : ∃ U, u0_4.alloc (Obj.cells (insR bitsL).toArray 27) = U := ⟨_, rfl⟩
    have hr : U.heap[u0_4.heap.size]? = some (.cells (insR bitsL).toArray 27 (0, 0)) := by rw [← hu]; exact heap_alloc_new u0_4 _
    have hb5 : Below v0.heap.size v0 U := by rw [← hu]; exact HV_4_0.out.alloc HV_4_0.out.size _
    have hw5 : Below w.heap.size w U := HB_v0.out.trans (hb5.mono HB_v0.out.size)
    have hi5 := (hb5.block _ (Array.getElem?_eq_some_iff.1 HRI0.out).1).trans HRI0.out
    have htold := told_of bitsL [x, y] [A, O, O - A, 0] 1 u0_4.heap.size 10 (some ⟨w.heap.size, 0, none⟩) 2 U (HT.out.below hw5) (of_decide_eq_true rfl) (of_decide_eq_true rfl) (of_decide_eq_true rfl) HK1.out hr (fun _ => ⟨w.heap.size, 0, rfl, (Array.getElem?_eq_some_iff.1 hi5).1, fun j u hu => by rw [Nat.zero_add, cell_of_row _ _ j _ _ _ hi5]; simpa [intsV] using hu⟩) (by simp) (by simp) (by simpa using HI1.out) HR1.out.1 HR1.out.2
    rw [← hu] at htold
    refine htold.mono ?_
    clear htold
    rintro e w1 ⟨A1, c1, rfl, hb6, hc1, hrd⟩
    rw [hu] at hb6
    have HB_w1 : Hid (Below w.heap.size w w1) := Lib.hid (hw5.trans (hb6.mono hw5.size))
    have HW1 : Hid (Below v0.heap.size v0 w1) := Lib.hid (hb5.trans (hb6.mono hb5.size))
    have HWB1 : Hid (Below w.heap.size w w1) := Lib.hid (HBI0.out.trans (HW1.out.mono HBI0.out.size))
    have HRD1 := Lib.hid hrd
    clear hb6 hrd hb5 hw5 hr hi5
    obtain ⟨g1, o1, rfl, hg1, k1⟩ := HRD1.out (by simp [intsV])
    have l0 := k1 0 _ rfl
    have l00 := k1 0 _ rfl
    rw [Nat.add_zero] at l00
    have l1 := k1 1 _ rfl
    have l2 := k1 2 _ rfl
    have l3 := k1 3 _ rfl
    clear k1
    go_wp2
    go_quiet (fail)
    go_wp2
    go_ret
    exact ⟨rfl, below_dN HB_w1.out _⟩
set_option maxRecDepth 100000 in
theorem bits_contract (H : Type) (enc : TypeId × Value → H) (W : World) (base : Nat) (args : Array Value) (ds gs : List (DataW H)) (before : List MemPlace)
    (hval : ∀ (j : Nat) t v, Tryd.f4.params[j]? = some t → args[j]? = some v → Value.okWide Tryd.prog W .any base t v)
    (hW : DataW.Whole enc Tryd.prog Tryd.f4.params.toList Rows.bitsSpec.vars false W args.toList ds gs before) (hL : laidMetH Tryd.prog Rows.bitsRow.laid W) :
    Calls Tryd.prog 4 args W fun e W' => ∃ v, e = .returned v ∧ Rows.bitsSpec.post enc Tryd.prog Tryd.f4 false true false false W args v W' := by
  have hT : Tabs W := tabs_of_laid (rest := []) hL
  have hW0 := hW
  obtain ⟨p, q, hA0, hV, rfl, hfz, hnd⟩ := hW
  have hA : DataW.TrodAll enc Tryd.prog W 0 (fun _ => true) true Tryd.f4.params.toList args.toList ds p := hA0
  rw [Tryd.params4] at hA hval
  obtain ⟨v0, vs0, d0, ds0, p0, q0, hargs, rfl, rfl, h0, r0⟩ := trodAll_cons hA
  obtain ⟨v1, vs1, d1, ds1, p1, q1, rfl, rfl, rfl, h1, r1⟩ := trodAll_cons r0
  obtain ⟨rfl, rfl, rfl⟩ := trodAll_nil r1
  obtain rfl : args = #[v0, v1] := by cases args; simp_all
  obtain ⟨rfl, rfl⟩ := trodVars_none hV
  clear hA0
  obtain ⟨a, rfl, rfl, rfl, wa⟩ := open_int Tryd.underlying3 (hval 0 3 v0 rfl rfl) h0
  obtain ⟨b, rfl, rfl, rfl, wb⟩ := open_int Tryd.underlying3 (hval 1 3 v1 rfl rfl) h1
  refine (bits_walk a b (i64_of_wf wa) (i64_of_wf wb) W hT).mono fun e W' ⟨he, hb⟩ => ?_
  subst he
  exact ⟨_, rfl, law_post hW0 rfl rfl (by kernel_rfl) (by kernel_rfl) hb⟩
set_option maxRecDepth 100000 in
theorem bits_met (os : Os) : laidMet Tryd.prog Rows.bitsRow.laid ((laidWorld os).forCall (fun _ _ => 0) ⟨#[], #[.int .i64 0, .int .i64 0], []⟩).memory :=
  laidMet_of_run' 8 (by kernel_rfl) (by kernel_rfl)
set_option maxRecDepth 100000 in
theorem bits_reads (os : Os) {H : Type} (enc : TypeId × Value → H) : ∃ places, DataW.whole enc Tryd.prog ((laidWorld os).forCall (fun _ _ => 0) ⟨#[], #[.int .i64 0, .int .i64 0], []⟩).memory Tryd.f4.params.toList Rows.bitsSpec.vars false (#[.int .i64 0, .int .i64 0] : Array Value).toList 8 = some ([.lit (.int .i64 0), .lit (.int .i64 0)], [], places) :=
  ⟨[], by kernel_rfl⟩
set_option maxRecDepth 100000 in
theorem bits_lifted (os : Os) (started : os.Started) (H : Type) (enc : TypeId × Value → H) (F : Stop.Interp) :
    ReturnsInHanded {} Tryd.checked os 4 .any ((OpenSpec.ofChange Rows.bitsSpec).preRow enc Tryd.prog Tryd.f4 Rows.bitsRow.domain false Rows.bitsRow.laid) (((OpenSpec.ofChange Rows.bitsSpec).at F).post enc Tryd.prog Tryd.f4 false true false false) := by
  obtain ⟨places, hx⟩ := bits_reads os enc
  refine returnsInHanded_of_row (C := Tryd.checked) (s := OpenSpec.ofChange Rows.bitsSpec) ownP started (by kernel_rfl) Tryd.func4
    (witness_row_at (enc := enc) (C := Tryd.checked) false (laidWorld os) #[.int .i64 0, .int .i64 0] rfl (by kernel_rfl) (by kernel_rfl) (by kernel_rfl)
      (OpenSpec.preRow_of_cond 8 hx (by kernel_rfl) (fun k hk => by cases hk) (by kernel_rfl) (bits_met os))) ?_
  intro W base args ds gs before hval hW _ _ _ hL _ _
  exact bits_contract H enc W base args ds gs before hval hW hL
set_option maxRecDepth 100000 in
theorem bits_said : Rows.BitsSaid :=
  OpenClaim.holds_of_cond 4 Tryd.f4 rfl rfl rfl rfl rfl rfl rfl ⟨rfl, rfl, rfl, rfl, rfl⟩ rfl rfl rfl rfl rfl (by kernel_rfl) Tryd.func4 (by kernel_rfl)
    (of_decide_eq_true (by kernel_rfl)) (by unfold Func.isWrapper; first | (rw [if_pos (by decide +kernel)]; kernel_rfl) | (rw [if_neg (by decide +kernel)]; exact ⟨rfl, rfl⟩))
    (fun os started H enc _ F => by rw [OpenClaim.pre_eq_preRow]; exact bits_lifted os started H enc F)
set_option maxRecDepth 100000 in
theorem bits_plain (f : FuncId) (fn : Func) (hf : Tryd.pinned.checked.prog.funcNamed "bolthole/boltholekeep.Bits" = some f) (hfn : Tryd.pinned.checked.prog.funcs[f]? = some fn) :
    ∀ (j : Nat) t, fn.params[j]? = some t → Tryd.pinned.checked.prog.wantsStandIn t = false := by
  obtain rfl : f = 4 := Option.some.inj ((show Tryd.prog.funcNamed "bolthole/boltholekeep.Bits" = some 4 by kernel_rfl).symm.trans hf) |>.symm
  obtain rfl : fn = Tryd.f4 := (Option.some.inj (Tryd.func4.symm.trans hfn)).symm
  intro j t ht
  have hall : ∀ t ∈ Tryd.f4.params, Tryd.prog.wantsStandIn t = false := by
    rw [Tryd.params4]
    intro t ht
    simp only [List.mem_toArray, List.mem_cons, List.not_mem_nil, or_false] at ht
    rcases ht with rfl | rfl
    all_goals kernel_rfl
  exact hall t (Array.mem_of_getElem? ht)
set_option maxRecDepth 100000 in
theorem bits_card : Rows.BitsCardSaid :=
  Claim7.holds_tied_plain_at .later [] _ _ _ _ bits_said (fun _ h => by cases h) (by kernel_rfl) (fun _ h => by cases h) bits_row_tie rfl ⟨rfl, rfl⟩ (by kernel_rfl) rfl (fun f fn hf hfn => ⟨by kernel_rfl, bits_plain f fn hf hfn⟩) (by kernel_rfl)
end Go.Proofs.YtgeljimckoodiaaDoor
