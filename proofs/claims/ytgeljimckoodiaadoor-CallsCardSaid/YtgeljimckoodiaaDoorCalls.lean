/- The given statement on Calls, proved: a call comes back behind itself; who uses the way back as a number is stopped. No condition of its own. -/
import Derived.Test.YtgeljimckoodiaaDoorLawR
import Derived.Test.YtgeljimckoodiaaDoorKeepL
import Derived.Test.YtgeljimckoodiaaDoorKeepA
import Derived.Test.YtgeljimckoodiaaDoorEqI
import Derived.Deep.QuietTactic
import Derived.BigQuiet
import Derived.WalkLawsBesides
import Derived.Test.YtgeljimckoodiaaDoorKeepM
namespace Go.Proofs.YtgeljimckoodiaaDoor
open Go.ChangeShapes Go.WideShapes Go.ChangeAt Go.RowKit Go.Joins
open Go.ChangeMaps (open_string)
set_option maxHeartbeats 8000000 in
set_option maxRecDepth 100000 in
theorem calls_walk (n : Int) (hn : N64 n) (w : World) (hT : Tabs w) : Calls Tryd.prog 8 #[.int .i64 n] w fun e w' => e = .returned (.bool true) ∧ Below w.heap.size w w' := by
  obtain ⟨n1, n2⟩ := hn
  have PN := Lib.hid (fun (m : Int) (h : 0 < m) (h2 : m ≤ 9223372036854775807) W => picked_any n m W n1 n2 h h2)
  have HT := Lib.hid hT
  clear hT
  have HB_w := Lib.hid (Below.refl w.heap.size w)
  have v1 := pickL_bd n 100 (by decide)
  obtain ⟨v, wv⟩ : ∃ x, pickL n 100 = x := ⟨_, rfl⟩
  rw [wv] at v1
  have HR1 := Lib.hid (callA_run v v1)
  have HR2 := Lib.hid callB_run
  have HR3 := Lib.hid (callC_run v v1)
  have HR4 := Lib.hid callD_run
  have HK1 := Lib.hid (callA_chk v v1)
  have HK2 := Lib.hid callB_chk
  have HK3 := Lib.hid (callC_chk v v1)
  have HK4 := Lib.hid callD_chk
  have HI1 : Hid True := Lib.hid trivial
  go_enter Tryd.func8, Tryd.ntmps8
  go_wp2_with fail
  refine (PN.out _ (by decide) (by decide) _).mono ?_
  rintro e wp ⟨rfl, rfl⟩
  go_wp2_with fail
  have HV_0_0 := Lib.hid (Below.refl w.heap.size w)
  refine (out_any _ _).mono ?_
  rintro e u0_1 ⟨rfl, hv⟩
  have HV_1_0 := Lib.hid (HV_0_0.out.trans (hv.mono HV_0_0.out.size))
  clear hv
  go_wp2_with fail
  refine (li_any _ _ _).mono ?_
  rintro e u0_2 ⟨rfl, hv⟩
  have HV_2_0 := Lib.hid (HV_1_0.out.trans (hv.mono HV_1_0.out.size))
  clear hv
  go_wp2_with fail
  obtain ⟨U, hu⟩ : ∃ U, u0_2.alloc (Obj.cells (insR (callA v)).toArray 27) = U := ⟨_, rfl⟩
  have hr : U.heap[u0_2.heap.size]? = some (.cells (insR (callA v)).toArray 27 (0, 0)) := by rw [← hu]; exact heap_alloc_new u0_2 _
  have hb5 : Below w.heap.size w U := by rw [← hu]; exact HV_2_0.out.alloc HV_2_0.out.size _
  have hw5 : Below w.heap.size w U := HB_w.out.trans (hb5.mono HB_w.out.size)
  have htold := told_of (callA v) [] [v] 1 u0_2.heap.size 5 none 0 U (HT.out.below hw5) (of_decide_eq_true rfl) (of_decide_eq_true rfl) (of_decide_eq_true rfl) HK1.out hr (RdG.nil _ _ _) (by simp) (by simp) (by simp) HR1.out.1 HR1.out.2
  rw [← hu] at htold
  refine htold.mono ?_
  clear htold
  rintro e w1 ⟨A1, c1, rfl, hb6, hc1, hrd⟩
  rw [hu] at hb6
  have HB_w1 : Hid (Below w.heap.size w w1) := Lib.hid (hw5.trans (hb6.mono hw5.size))
  have HW1 : Hid (Below w.heap.size w w1) := Lib.hid (hb5.trans (hb6.mono hb5.size))
  have HWB1 : Hid (Below w.heap.size w w1) := HW1
  have HRD1 := Lib.hid hrd
  clear hb6 hrd hb5 hw5 hr
  go_wp2_with fail
  have HV_0_1 := Lib.hid (Below.refl w1.heap.size w1)
  refine (out_any _ _).mono ?_
  rintro e u1_1 ⟨rfl, hv⟩
  have HV_1_1 := Lib.hid (HV_0_1.out.trans (hv.mono HV_0_1.out.size))
  clear hv
  go_wp2_with fail
  obtain ⟨U, hu⟩ : ∃ U, u1_1.alloc (Obj.cells (insR callB).toArray 27) = U := ⟨_, rfl⟩
  have hr : U.heap[u1_1.heap.size]? = some (.cells (insR callB).toArray 27 (0, 0)) := by rw [← hu]; exact heap_alloc_new u1_1 _
  have hb5 : Below w1.heap.size w1 U := by rw [← hu]; exact HV_1_1.out.alloc HV_1_1.out.size _
  have hw5 : Below w.heap.size w U := HB_w1.out.trans (hb5.mono HB_w1.out.size)
  have htold := told_of callB [] [] 4 u1_1.heap.size 2 none 0 U (HT.out.below hw5) (of_decide_eq_true rfl) (of_decide_eq_true rfl) (of_decide_eq_true rfl) HK2.out hr (RdG.nil _ _ _) (by simp) (by simp) (by simp) HR2.out.1 HR2.out.2
  rw [← hu] at htold
  refine htold.mono ?_
  clear htold
  rintro e w2 ⟨A2, c2, rfl, hb6, hc2, hrd⟩
  rw [hu] at hb6
  have HB_w2 : Hid (Below w.heap.size w w2) := Lib.hid (hw5.trans (hb6.mono hw5.size))
  have HW2 : Hid (Below w1.heap.size w1 w2) := Lib.hid (hb5.trans (hb6.mono hb5.size))
  have HWB2 : Hid (Below w1.heap.size w1 w2) := HW2
  have HRD2 := Lib.hid hrd
  clear hb6 hrd hb5 hw5 hr
  go_wp2_with fail
  have HV_0_2 := Lib.hid (Below.refl w2.heap.size w2)
  refine (li_any _ _ _).mono ?_
  rintro e u2_1 ⟨rfl, hv⟩
  have HV_1_2 := Lib.hid (HV_0_2.out.trans (hv.mono HV_0_2.out.size))
  clear hv
  go_wp2_with fail
  obtain ⟨U, hu⟩ : ∃ U, u2_1.alloc (Obj.cells (insR (callC v)).toArray 27) = U := ⟨_, rfl⟩
  have hr : U.heap[u2_1.heap.size]? = some (.cells (insR (callC v)).toArray 27 (0, 0)) := by rw [← hu]; exact heap_alloc_new u2_1 _
  have hb5 : Below w2.heap.size w2 U := by rw [← hu]; exact HV_1_2.out.alloc HV_1_2.out.size _
  have hw5 : Below w.heap.size w U := HB_w2.out.trans (hb5.mono HB_w2.out.size)
  have htold := told_of (callC v) [] [] 4 u2_1.heap.size 2 none 0 U (HT.out.below hw5) (of_decide_eq_true rfl) (of_decide_eq_true rfl) (of_decide_eq_true rfl) HK3.out hr (RdG.nil _ _ _) (by simp) (by simp) (by simp) HR3.out.1 HR3.out.2
  rw [← hu] at htold
  refine htold.mono ?_
  clear htold
  rintro e w3 ⟨A3, c3, rfl, hb6, hc3, hrd⟩
  rw [hu] at hb6
  have HB_w3 : Hid (Below w.heap.size w w3) := Lib.hid (hw5.trans (hb6.mono hw5.size))
  have HW3 : Hid (Below w2.heap.size w2 w3) := Lib.hid (hb5.trans (hb6.mono hb5.size))
  have HWB3 : Hid (Below w2.heap.size w2 w3) := HW3
  have HRD3 := Lib.hid hrd
  clear hb6 hrd hb5 hw5 hr
  go_wp2_with fail
  have HV_0_3 := Lib.hid (Below.refl w3.heap.size w3)
  obtain ⟨U, hu⟩ : ∃ U, w3.alloc (Obj.cells (insR callD).toArray 27) = U := ⟨_, rfl⟩
  have hr : U.heap[w3.heap.size]? = some (.cells (insR callD).toArray 27 (0, 0)) := by rw [← hu]; exact heap_alloc_new w3 _
  have hb5 : Below w3.heap.size w3 U := by rw [← hu]; exact HV_0_3.out.alloc HV_0_3.out.size _
  have hw5 : Below w.heap.size w U := HB_w3.out.trans (hb5.mono HB_w3.out.size)
  have htold := told_of callD [] [] 4 w3.heap.size 4 none 0 U (HT.out.below hw5) (of_decide_eq_true rfl) (of_decide_eq_true rfl) (of_decide_eq_true rfl) HK4.out hr (RdG.nil _ _ _) (by simp) (by simp) (by simp) HR4.out.1 HR4.out.2
  rw [← hu] at htold
  refine htold.mono ?_
  clear htold
  rintro e w4 ⟨A4, c4, rfl, hb6, hc4, hrd⟩
  rw [hu] at hb6
  have HB_w4 : Hid (Below w.heap.size w w4) := Lib.hid (hw5.trans (hb6.mono hw5.size))
  have HW4 : Hid (Below w3.heap.size w3 w4) := Lib.hid (hb5.trans (hb6.mono hb5.size))
  have HWB4 : Hid (Below w3.heap.size w3 w4) := HW4
  have HRD4 := Lib.hid hrd
  clear hb6 hrd hb5 hw5 hr
  go_wp2_with fail
  obtain ⟨U, hu⟩ : ∃ U, w4.alloc (.cells #[.int .i64 v] 3) = U := ⟨_, rfl⟩
  have hr : U.heap[w4.heap.size]? = some (.cells #[.int .i64 v] 3 (0, 0)) := by rw [← hu]; exact heap_alloc_new w4 _
  have hbU : Below w4.heap.size w4 U := by rw [← hu]; exact (Below.refl _ _).alloc (Nat.le_refl _) _
  have heq := eqi_same [v] A1 (some ⟨w4.heap.size, 0, none⟩) 1 c1 1 1 U ((((HRD1.out.below ((HWB2.out.trans (HWB3.out.mono HWB2.out.size)).trans (HWB4.out.mono (HWB2.out.trans (HWB3.out.mono HWB2.out.size)).size))).more ((HWB2.out.trans (HWB3.out.mono HWB2.out.size)).trans (HWB4.out.mono (HWB2.out.trans (HWB3.out.mono HWB2.out.size)).size)).size).below hbU).more hbU.size) (fun _ => ⟨w4.heap.size, 0, rfl, (Array.getElem?_eq_some_iff.1 hr).1, fun j u hu => by rw [Nat.zero_add, cell_of_row _ _ j _ _ _ hr]; simpa [intsV] using hu⟩) rfl rfl (by decide)
  rw [← hu] at heq
  refine heq.mono ?_
  clear heq
  rintro e w5 ⟨rfl, q, hq⟩
  have hbF : Below w.heap.size w w5 := by rw [hq, hu]; exact below_dN (HB_w4.out.trans (hbU.mono HB_w4.out.size)) q
  have HBF := Lib.hid hbF
  clear hq hu hr hbU hbF
  go_wp2
  go_ret
  exact ⟨rfl, HBF.out⟩
set_option maxRecDepth 100000 in
theorem calls_contract (H : Type) (enc : TypeId × Value → H) (W : World) (base : Nat) (args : Array Value) (ds gs : List (DataW H)) (before : List MemPlace)
    (hval : ∀ (j : Nat) t v, Tryd.f8.params[j]? = some t → args[j]? = some v → Value.okWide Tryd.prog W .any base t v)
    (hW : DataW.Whole enc Tryd.prog Tryd.f8.params.toList Rows.callsSpec.vars false W args.toList ds gs before) (hL : laidMetH Tryd.prog Rows.callsRow.laid W) :
    Calls Tryd.prog 8 args W fun e W' => ∃ v, e = .returned v ∧ Rows.callsSpec.post enc Tryd.prog Tryd.f8 false true false false W args v W' := by
  have hT : Tabs W := tabs_of_laid (rest := []) hL
  have hW0 := hW
  obtain ⟨p, q, hA0, hV, rfl, hfz, hnd⟩ := hW
  have hA : DataW.TrodAll enc Tryd.prog W 0 (fun _ => true) true Tryd.f8.params.toList args.toList ds p := hA0
  rw [Tryd.params8] at hA hval
  obtain ⟨v0, vs0, d0, ds0, p0, q0, hargs, rfl, rfl, h0, r0⟩ := trodAll_cons hA
  obtain ⟨rfl, rfl, rfl⟩ := trodAll_nil r0
  obtain rfl : args = #[v0] := by cases args; simp_all
  obtain ⟨rfl, rfl⟩ := trodVars_none hV
  clear hA0
  obtain ⟨n, rfl, rfl, rfl, wn⟩ := open_int Tryd.underlying3 (hval 0 3 v0 rfl rfl) h0
  refine (calls_walk n (i64_of_wf wn) W hT).mono fun e W' ⟨he, hb⟩ => ?_
  subst he
  exact ⟨_, rfl, law_post hW0 rfl rfl (by kernel_rfl) (by kernel_rfl) hb⟩
set_option maxRecDepth 100000 in
theorem calls_met (os : Os) : laidMet Tryd.prog Rows.callsRow.laid ((laidWorld os).forCall (fun _ _ => 0) ⟨#[], #[.int .i64 0], []⟩).memory :=
  laidMet_of_run' 8 (by kernel_rfl) (by kernel_rfl)
set_option maxRecDepth 100000 in
theorem calls_reads (os : Os) {H : Type} (enc : TypeId × Value → H) : ∃ places, DataW.whole enc Tryd.prog ((laidWorld os).forCall (fun _ _ => 0) ⟨#[], #[.int .i64 0], []⟩).memory Tryd.f8.params.toList Rows.callsSpec.vars false (#[.int .i64 0] : Array Value).toList 8 = some ([.lit (.int .i64 0)], [], places) :=
  ⟨[], by kernel_rfl⟩
set_option maxRecDepth 100000 in
theorem calls_lifted (os : Os) (started : os.Started) (H : Type) (enc : TypeId × Value → H) (F : Stop.Interp) :
    ReturnsInHanded {} Tryd.checked os 8 .any ((OpenSpec.ofChange Rows.callsSpec).preRow enc Tryd.prog Tryd.f8 Rows.callsRow.domain false Rows.callsRow.laid) (((OpenSpec.ofChange Rows.callsSpec).at F).post enc Tryd.prog Tryd.f8 false true false false) := by
  obtain ⟨places, hx⟩ := calls_reads os enc
  refine returnsInHanded_of_row (C := Tryd.checked) (s := OpenSpec.ofChange Rows.callsSpec) ownP started (by kernel_rfl) Tryd.func8
    (witness_row_at (enc := enc) (C := Tryd.checked) false (laidWorld os) #[.int .i64 0] rfl (by kernel_rfl) (by kernel_rfl) (by kernel_rfl)
      (OpenSpec.preRow_of_cond 8 hx (by kernel_rfl) (fun k hk => by cases hk) (by kernel_rfl) (calls_met os))) ?_
  intro W base args ds gs before hval hW _ _ _ hL _ _
  exact calls_contract H enc W base args ds gs before hval hW hL
set_option maxRecDepth 100000 in
theorem calls_said : Rows.CallsSaid :=
  OpenClaim.holds_of_cond 8 Tryd.f8 rfl rfl rfl rfl rfl rfl rfl ⟨rfl, rfl, rfl, rfl, rfl⟩ rfl rfl rfl rfl rfl (by kernel_rfl) Tryd.func8 (by kernel_rfl)
    (of_decide_eq_true (by kernel_rfl)) (by unfold Func.isWrapper; first | (rw [if_pos (by decide +kernel)]; kernel_rfl) | (rw [if_neg (by decide +kernel)]; exact ⟨rfl, rfl⟩))
    (fun os started H enc _ F => by rw [OpenClaim.pre_eq_preRow]; exact calls_lifted os started H enc F)
set_option maxRecDepth 100000 in
theorem calls_plain (f : FuncId) (fn : Func) (hf : Tryd.pinned.checked.prog.funcNamed "bolthole/boltholekeep.Calls" = some f) (hfn : Tryd.pinned.checked.prog.funcs[f]? = some fn) :
    ∀ (j : Nat) t, fn.params[j]? = some t → Tryd.pinned.checked.prog.wantsStandIn t = false := by
  obtain rfl : f = 8 := Option.some.inj ((show Tryd.prog.funcNamed "bolthole/boltholekeep.Calls" = some 8 by kernel_rfl).symm.trans hf) |>.symm
  obtain rfl : fn = Tryd.f8 := (Option.some.inj (Tryd.func8.symm.trans hfn)).symm
  intro j t ht
  have hall : ∀ t ∈ Tryd.f8.params, Tryd.prog.wantsStandIn t = false := by
    rw [Tryd.params8]
    intro t ht
    simp only [List.mem_toArray, List.mem_cons, List.not_mem_nil, or_false] at ht
    rcases ht with rfl
    all_goals kernel_rfl
  exact hall t (Array.mem_of_getElem? ht)
set_option maxRecDepth 100000 in
theorem calls_card : Rows.CallsCardSaid :=
  Claim7.holds_tied_plain_at .later [] _ _ _ _ calls_said (fun _ h => by cases h) (by kernel_rfl) (fun _ h => by cases h) calls_row_tie rfl ⟨rfl, rfl⟩ (by kernel_rfl) rfl (fun f fn hf hfn => ⟨by kernel_rfl, calls_plain f fn hf hfn⟩) (by kernel_rfl)
end Go.Proofs.YtgeljimckoodiaaDoor
