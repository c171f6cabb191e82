/- The given statement on Memory, proved: what was stored is loaded, nothing else has changed; beside the memory there is nothing. No condition of its own. -/
import Derived.Test.YtgeljimckoodiaaDoorLawR
import Derived.Test.YtgeljimckoodiaaDoorKeepL
import Derived.Test.YtgeljimckoodiaaDoorKeepA
import Derived.Test.YtgeljimckoodiaaDoorEqI
import Derived.Deep.QuietTactic
import Derived.BigQuiet
import Derived.WalkLawsBesides
import Derived.Test.YtgeljimckoodiaaDoorKeepM
namespace Go.Proofs.YtgeljimckoodiaaDoor
open Go.ChangeShapes Go.WideShapes Go.ChangeAt Go.RowKit Go.Joins
open Go.ChangeMaps (open_string)
set_option maxHeartbeats 8000000 in
set_option maxRecDepth 100000 in
theorem memory_walk (at_ other n : Int) (hat_ : N64 at_) (hother : N64 other) (hn : N64 n) (w : World) (hT : Tabs w) : Calls Tryd.prog 6 #[.int .i64 at_, .int .i64 other, .int .i64 n] w fun e w' => e = .returned (.bool true) ∧ Below w.heap.size w w' := by
  obtain ⟨at_1, at_2⟩ := hat_
  have PAT_ := Lib.hid (fun (m : Int) (h : 0 < m) (h2 : m ≤ 9223372036854775807) W => picked_any at_ m W at_1 at_2 h h2)
  obtain ⟨other1, other2⟩ := hother
  have POTHER := Lib.hid (fun (m : Int) (h : 0 < m) (h2 : m ≤ 9223372036854775807) W => picked_any other m W other1 other2 h h2)
  obtain ⟨n1, n2⟩ := hn
  have PN := Lib.hid (fun (m : Int) (h : 0 < m) (h2 : m ≤ 9223372036854775807) W => picked_any n m W n1 n2 h h2)
  have HT := Lib.hid hT
  clear hT
  have HB_w := Lib.hid (Below.refl w.heap.size w)
  have a1 := pickL_bd at_ 6 (by decide)
  have b1 := pickL_bd other 6 (by decide)
  have v1 := pickL_bd n 1000 (by decide)
  obtain ⟨a, wa⟩ : ∃ x, pickL at_ 6 = x := ⟨_, rfl⟩
  obtain ⟨b', wb⟩ : ∃ x, pickL other 6 = x := ⟨_, rfl⟩
  obtain ⟨v, wv⟩ : ∃ x, pickL n 1000 = x := ⟨_, rfl⟩
  rw [wa] at a1
  rw [wb] at b1
  rw [wv] at v1
  obtain ⟨b, rfl⟩ := Int.eq_ofNat_of_zero_le b1.1
  have HR1 := memL_run v a b v1 a1 b1
  have HR2 := Lib.hid (memN_run a a1)
  have HR3 := Lib.hid (memO_run a a1)
  have HK1 := Lib.hid (memL_chk v a b v1 a1 b1)
  have HK2 := Lib.hid (memN_chk a a1)
  have HK3 := Lib.hid (memO_chk a a1)
  have HI1 : Hid True := Lib.hid trivial
  obtain ⟨z, hz⟩ : ∃ z, ([5, -3, 0, 7, 1, 2] : List Int).getD b 0 = z := ⟨_, rfl⟩
  have hcell : (w.alloc (.cells #[.int .i64 5, .int .i64 (-3), .int .i64 0, .int .i64 7, .int .i64 1, .int .i64 2] 3)).cell? ⟨w.heap.size, b, none⟩ = some (.int .i64 z) := by
    rw [cell_of_row _ _ b _ _ _ (heap_alloc_new w _), ← hz]
    have hb' : b = 0 ∨ b = 1 ∨ b = 2 ∨ b = 3 ∨ b = 4 ∨ b = 5 := by omega
    rcases hb' with rfl | rfl | rfl | rfl | rfl | rfl <;> rfl
  obtain ⟨s, hs⟩ : ∃ s, wasN v a b = s := ⟨_, rfl⟩
  rw [hs] at HR1
  by_cases hab : a = (b : Int)
  · have e : s = v := by rw [← hs]; unfold wasN; rw [if_pos hab]
    have hq : (a == (b : Int)) = true := by simpa using hab
    rw [e] at HR1
    have HR1 := Lib.hid HR1
    clear e hs hz hab
    go_enter Tryd.func6, Tryd.ntmps6
    go_wp2_with fail
    refine (PAT_.out _ (by decide) (by decide) _).mono ?_
    rintro e wp ⟨rfl, rfl⟩
    go_wp2_with fail
    refine (POTHER.out _ (by decide) (by decide) _).mono ?_
    rintro e wp ⟨rfl, rfl⟩
    go_wp2_with fail
    refine (PN.out _ (by decide) (by decide) _).mono ?_
    rintro e wp ⟨rfl, rfl⟩
    go_wp2_with fail
    obtain ⟨v0, hv⟩ : ∃ v, w.alloc (.cells #[.int .i64 5, .int .i64 (-3), .int .i64 0, .int .i64 7, .int .i64 1, .int .i64 2] 3) = v := ⟨_, rfl⟩
    have hB : Below w.heap.size w v0 := by rw [← hv]; exact (Below.refl _ _).alloc (Nat.le_refl _) _
    rw [hv]
    have HB_v0 := Lib.hid hB
    clear hcell hv hB
    have HV_0_0 := Lib.hid (Below.refl v0.heap.size v0)
    refine (li_any _ _ _).mono ?_
    rintro e u0_1 ⟨rfl, hv⟩
    have HV_1_0 := Lib.hid (HV_0_0.out.trans (hv.mono HV_0_0.out.size))
    clear hv
    go_wp2_with fail
    refine (out_any _ _).mono ?_
    rintro e u0_2 ⟨rfl, hv⟩
    have HV_2_0 := Lib.hid (HV_1_0.out.trans (hv.mono HV_1_0.out.size))
    clear hv
    go_wp2_with fail
    refine (out_any _ _).mono ?_
    rintro e u0_3 ⟨rfl, hv⟩
    have HV_3_0 := Lib.hid (HV_2_0.out.trans (hv.mono HV_2_0.out.size))
    clear hv
    go_wp2_with fail
    obtain ⟨U, hu⟩ : ∃ U, u0_3.alloc (Obj.cells (insR (memL v a b)).toArray 27) = U := ⟨_, rfl⟩
    have hr : U.heap[u0_3.heap.size]? = some (.cells (insR (memL v a b)).toArray 27 (0, 0)) := by rw [← hu]; exact heap_alloc_new u0_3 _
    have hb5 : Below v0.heap.size v0 U := by rw [← hu]; exact HV_3_0.out.alloc HV_3_0.out.size _
    have hw5 : Below w.heap.size w U := HB_v0.out.trans (hb5.mono HB_v0.out.size)
    have htold := told_of (memL v a b) [] [v, v] 1 u0_3.heap.size 6 none 0 U (HT.out.below hw5) (of_decide_eq_true rfl) (of_decide_eq_true rfl) (of_decide_eq_true rfl) HK1.out hr (RdG.nil _ _ _) (by simp) (by simp) (by simp) HR1.out.1 HR1.out.2
    rw [← hu] at htold
    refine htold.mono ?_
    clear htold
    rintro e w1 ⟨A1, c1, rfl, hb6, hc1, hrd⟩
    rw [hu] at hb6
    have HB_w1 : Hid (Below w.heap.size w w1) := Lib.hid (hw5.trans (hb6.mono hw5.size))
    have HW1 : Hid (Below v0.heap.size v0 w1) := Lib.hid (hb5.trans (hb6.mono hb5.size))
    have HRD1 := Lib.hid hrd
    clear hb6 hrd hb5 hw5 hr
    go_wp2_with fail
    have HV_0_1 := Lib.hid (Below.refl w1.heap.size w1)
    obtain ⟨U, hu⟩ : ∃ U, w1.alloc (Obj.cells (insR (memN a)).toArray 27) = U := ⟨_, rfl⟩
    have hr : U.heap[w1.heap.size]? = some (.cells (insR (memN a)).toArray 27 (0, 0)) := by rw [← hu]; exact heap_alloc_new w1 _
    have hb5 : Below w1.heap.size w1 U := by rw [← hu]; exact HV_0_1.out.alloc HV_0_1.out.size _
    have hw5 : Below w.heap.size w U := HB_w1.out.trans (hb5.mono HB_w1.out.size)
    have htold := told_of (memN a) [] [] 2 w1.heap.size 1 none 0 U (HT.out.below hw5) (of_decide_eq_true rfl) (of_decide_eq_true rfl) (of_decide_eq_true rfl) HK2.out hr (RdG.nil _ _ _) (by simp) (by simp) (by simp) HR2.out.1 HR2.out.2
    rw [← hu] at htold
    refine htold.mono ?_
    clear htold
    rintro e w2 ⟨A2, c2, rfl, hb6, hc2, hrd⟩
    rw [hu] at hb6
    have HB_w2 : Hid (Below w.heap.size w w2) := Lib.hid (hw5.trans (hb6.mono hw5.size))
    have HW2 : Hid (Below w1.heap.size w1 w2) := Lib.hid (hb5.trans (hb6.mono hb5.size))
    have HWB2 : Hid (Below w1.heap.size w1 w2) := HW2
    have HRD2 := Lib.hid hrd
    clear hb6 hrd hb5 hw5 hr
    go_wp2_with fail
    have HV_0_2 := Lib.hid (Below.refl w2.heap.size w2)
    obtain ⟨U, hu⟩ : ∃ U, w2.alloc (Obj.cells (insR (memO a)).toArray 27) = U := ⟨_, rfl⟩
    have hr : U.heap[w2.heap.size]? = some (.cells (insR (memO a)).toArray 27 (0, 0)) := by rw [← hu]; exact heap_alloc_new w2 _
    have hb5 : Below w2.heap.size w2 U := by rw [← hu]; exact HV_0_2.out.alloc HV_0_2.out.size _
    have hw5 : Below w.heap.size w U := HB_w2.out.trans (hb5.mono HB_w2.out.size)
    have htold := told_of (memO a) [] [] 2 w2.heap.size 1 none 0 U (HT.out.below hw5) (of_decide_eq_true rfl) (of_decide_eq_true rfl) (of_decide_eq_true rfl) HK3.out hr (RdG.nil _ _ _) (by simp) (by simp) (by simp) HR3.out.1 HR3.out.2
    rw [← hu] at htold
    refine htold.mono ?_
    clear htold
    rintro e w3 ⟨A3, c3, rfl, hb6, hc3, hrd⟩
    rw [hu] at hb6
    have HB_w3 : Hid (Below w.heap.size w w3) := Lib.hid (hw5.trans (hb6.mono hw5.size))
    have HW3 : Hid (Below w2.heap.size w2 w3) := Lib.hid (hb5.trans (hb6.mono hb5.size))
    have HWB3 : Hid (Below w2.heap.size w2 w3) := HW3
    have HRD3 := Lib.hid hrd
    clear hb6 hrd hb5 hw5 hr
    go_wp2_with fail
    obtain ⟨U, hu⟩ : ∃ U, w3.alloc (.cells #[.int .i64 v, .int .i64 v] 3) = U := ⟨_, rfl⟩
    have hr : U.heap[w3.heap.size]? = some (.cells #[.int .i64 v, .int .i64 v] 3 (0, 0)) := by rw [← hu]; exact heap_alloc_new w3 _
    have hbU : Below w3.heap.size w3 U := by rw [← hu]; exact (Below.refl _ _).alloc (Nat.le_refl _) _
    have heq := eqi_same [v, v] A1 (some ⟨w3.heap.size, 0, none⟩) 2 c1 2 2 U ((((HRD1.out.below (HWB2.out.trans (HWB3.out.mono HWB2.out.size))).more (HWB2.out.trans (HWB3.out.mono HWB2.out.size)).size).below hbU).more hbU.size) (fun _ => ⟨w3.heap.size, 0, rfl, (Array.getElem?_eq_some_iff.1 hr).1, fun j u hu => by rw [Nat.zero_add, cell_of_row _ _ j _ _ _ hr]; simpa [intsV] using hu⟩) rfl rfl (by decide)
    rw [← hu] at heq
    refine heq.mono ?_
    clear heq
    rintro e w4 ⟨rfl, q, hq⟩
    have hbF : Below w.heap.size w w4 := by rw [hq, hu]; exact below_dN (HB_w3.out.trans (hbU.mono HB_w3.out.size)) q
    have HBF := Lib.hid hbF
    clear hq hu hr hbU hbF
    go_wp2
    go_ret
    exact ⟨rfl, HBF.out⟩
  · have e : s = z := by rw [← hs, ← hz]; unfold wasN; rw [if_neg hab]; simp
    have hq : (a == (b : Int)) = false := by simpa using hab
    rw [e] at HR1
    have HR1 := Lib.hid HR1
    clear e hs hz hab
    go_enter Tryd.func6, Tryd.ntmps6
    go_wp2_with fail
    refine (PAT_.out _ (by decide) (by decide) _).mono ?_
    rintro e wp ⟨rfl, rfl⟩
    go_wp2_with fail
    refine (POTHER.out _ (by decide) (by decide) _).mono ?_
    rintro e wp ⟨rfl, rfl⟩
    go_wp2_with fail
    refine (PN.out _ (by decide) (by decide) _).mono ?_
    rintro e wp ⟨rfl, rfl⟩
    go_wp2_with fail
    obtain ⟨v0, hv⟩ : ∃ v, w.alloc (.cells #[.int .i64 5, .int .i64 (-3), .int .i64 0, .int .i64 7, .int .i64 1, .int .i64 2] 3) = v := ⟨_, rfl⟩
    have hB : Below w.heap.size w v0 := by rw [← hv]; exact (Below.refl _ _).alloc (Nat.le_refl _) _
    rw [hv]
    have HB_v0 := Lib.hid hB
    clear hcell hv hB
    have HV_0_0 := Lib.hid (Below.refl v0.heap.size v0)
    refine (li_any _ _ _).mono ?_
    rintro e u0_1 ⟨rfl, hv⟩
    have HV_1_0 := Lib.hid (HV_0_0.out.trans (hv.mono HV_0_0.out.size))
    clear hv
    go_wp2_with fail
    refine (out_any _ _).mono ?_
    rintro e u0_2 ⟨rfl, hv⟩
    have HV_2_0 := Lib.hid (HV_1_0.out.trans (hv.mono HV_1_0.out.size))
    clear hv
    go_wp2_with fail
    refine (out_any _ _).mono ?_
    rintro e u0_3 ⟨rfl, hv⟩
    have HV_3_0 := Lib.hid (HV_2_0.out.trans (hv.mono HV_2_0.out.size))
    clear hv
    go_wp2_with fail
    obtain ⟨U, hu⟩ : ∃ U, u0_3.alloc (Obj.cells (insR (memL v a b)).toArray 27) = U := ⟨_, rfl⟩
    have hr : U.heap[u0_3.heap.size]? = some (.cells (insR (memL v a b)).toArray 27 (0, 0)) := by rw [← hu]; exact heap_alloc_new u0_3 _
    have hb5 : Below v0.heap.size v0 U := by rw [← hu]; exact HV_3_0.out.alloc HV_3_0.out.size _
    have hw5 : Below w.heap.size w U := HB_v0.out.trans (hb5.mono HB_v0.out.size)
    have htold := told_of (memL v a b) [] [v, z] 1 u0_3.heap.size 6 none 0 U (HT.out.below hw5) (of_decide_eq_true rfl) (of_decide_eq_true rfl) (of_decide_eq_true rfl) HK1.out hr (RdG.nil _ _ _) (by simp) (by simp) (by simp) HR1.out.1 HR1.out.2
    rw [← hu] at htold
    refine htold.mono ?_
    clear htold
    rintro e w1 ⟨A1, c1, rfl, hb6, hc1, hrd⟩
    rw [hu] at hb6
    have HB_w1 : Hid (Below w.heap.size w w1) := Lib.hid (hw5.trans (hb6.mono hw5.size))
    have HW1 : Hid (Below v0.heap.size v0 w1) := Lib.hid (hb5.trans (hb6.mono hb5.size))
    have HRD1 := Lib.hid hrd
    clear hb6 hrd hb5 hw5 hr
    go_wp2_with fail
    have HV_0_1 := Lib.hid (Below.refl w1.heap.size w1)
    obtain ⟨U, hu⟩ : ∃ U, w1.alloc (Obj.cells (insR (memN a)).toArray 27) = U := ⟨_, rfl⟩
    have hr : U.heap[w1.heap.size]? = some (.cells (insR (memN a)).toArray 27 (0, 0)) := by rw [← hu]; exact heap_alloc_new w1 _
    have hb5 : Below w1.heap.size w1 U := by rw [← hu]; exact HV_0_1.out.alloc HV_0_1.out.size _
    have hw5 : Below w.heap.size w U := HB_w1.out.trans (hb5.mono HB_w1.out.size)
    have htold := told_of (memN a) [] [] 2 w1.heap.size 1 none 0 U (HT.out.below hw5) (of_decide_eq_true rfl) (of_decide_eq_true rfl) (of_decide_eq_true rfl) HK2.out hr (RdG.nil _ _ _) (by simp) (by simp) (by simp) HR2.out.1 HR2.out.2
    rw [← hu] at htold
    refine htold.mono ?_
    clear htold
    rintro e w2 ⟨A2, c2, rfl, hb6, hc2, hrd⟩
    rw [hu] at hb6
    have HB_w2 : Hid (Below w.heap.size w w2) := Lib.hid (hw5.trans (hb6.mono hw5.size))
    have HW2 : Hid (Below w1.heap.size w1 w2) := Lib.hid (hb5.trans (hb6.mono hb5.size))
    have HWB2 : Hid (Below w1.heap.size w1 w2) := HW2
    have HRD2 := Lib.hid hrd
    clear hb6 hrd hb5 hw5 hr
    go_wp2_with fail
    have HV_0_2 := Lib.hid (Below.refl w2.heap.size w2)
    obtain ⟨U, hu⟩ : ∃ U, w2.alloc (Obj.cells (insR (memO a)).toArray 27) = U := ⟨_, rfl⟩
    have hr : U.heap[w2.heap.size]? = some (.cells (insR (memO a)).toArray 27 (0, 0)) := by rw [← hu]; exact heap_alloc_new w2 _
    have hb5 : Below w2.heap.size w2 U := by rw [← hu]; exact HV_0_2.out.alloc HV_0_2.out.size _
    have hw5 : Below w.heap.size w U := HB_w2.out.trans (hb5.mono HB_w2.out.size)
    have htold := told_of (memO a) [] [] 2 w2.heap.size 1 none 0 U (HT.out.below hw5) (of_decide_eq_true rfl) (of_decide_eq_true rfl) (of_decide_eq_true rfl) HK3.out hr (RdG.nil _ _ _) (by simp) (by simp) (by simp) HR3.out.1 HR3.out.2
    rw [← hu] at htold
    refine htold.mono ?_
    clear htold
    rintro e w3 ⟨A3, c3, rfl, hb6, hc3, hrd⟩
    rw [hu] at hb6
    have HB_w3 : Hid (Below w.heap.size w w3) := Lib.hid (hw5.trans (hb6.mono hw5.size))
    have HW3 : Hid (Below w2.heap.size w2 w3) := Lib.hid (hb5.trans (hb6.mono hb5.size))
    have HWB3 : Hid (Below w2.heap.size w2 w3) := HW3
    have HRD3 := Lib.hid hrd
    clear hb6 hrd hb5 hw5 hr
    go_wp2_with fail
    obtain ⟨U, hu⟩ : ∃ U, w3.alloc (.cells #[.int .i64 v, .int .i64 z] 3) = U := ⟨_, rfl⟩
    have hr : U.heap[w3.heap.size]? = some (.cells #[.int .i64 v, .int .i64 z] 3 (0, 0)) := by rw [← hu]; exact heap_alloc_new w3 _
    have hbU : Below w3.heap.size w3 U := by rw [← hu]; exact (Below.refl _ _).alloc (Nat.le_refl _) _
    have heq := eqi_same [v, z] A1 (some ⟨w3.heap.size, 0, none⟩) 2 c1 2 2 U ((((HRD1.out.below (HWB2.out.trans (HWB3.out.mono HWB2.out.size))).more (HWB2.out.trans (HWB3.out.mono HWB2.out.size)).size).below hbU).more hbU.size) (fun _ => ⟨w3.heap.size, 0, rfl, (Array.getElem?_eq_some_iff.1 hr).1, fun j u hu => by rw [Nat.zero_add, cell_of_row _ _ j _ _ _ hr]; simpa [intsV] using hu⟩) rfl rfl (by decide)
    rw [← hu] at heq
    refine heq.mono ?_
    clear heq
    rintro e w4 ⟨rfl, q, hq⟩
    have hbF : Below w.heap.size w w4 := by rw [hq, hu]; exact below_dN (HB_w3.out.trans (hbU.mono HB_w3.out.size)) q
    have HBF := Lib.hid hbF
    clear hq hu hr hbU hbF
    go_wp2
    go_ret
    exact ⟨rfl, HBF.out⟩
set_option maxRecDepth 100000 in
theorem memory_contract (H : Type) (enc : TypeId × Value → H) (W : World) (base : Nat) (args : Array Value) (ds gs : List (DataW H)) (before : List MemPlace)
    (hval : ∀ (j : Nat) t v, Tryd.f6.params[j]? = some t → args[j]? = some v → Value.okWide Tryd.prog W .any base t v)
    (hW : DataW.Whole enc Tryd.prog Tryd.f6.params.toList Rows.memorySpec.vars false W args.toList ds gs before) (hL : laidMetH Tryd.prog Rows.memoryRow.laid W) :
    Calls Tryd.prog 6 args W fun e W' => ∃ v, e = .returned v ∧ Rows.memorySpec.post enc Tryd.prog Tryd.f6 false true false false W args v W' := by
  have hT : Tabs W := tabs_of_laid (rest := []) hL
  have hW0 := hW
  obtain ⟨p, q, hA0, hV, rfl, hfz, hnd⟩ := hW
  have hA : DataW.TrodAll enc Tryd.prog W 0 (fun _ => true) true Tryd.f6.params.toList args.toList ds p := hA0
  rw [Tryd.params6] at hA hval
  obtain ⟨v0, vs0, d0, ds0, p0, q0, hargs, rfl, rfl, h0, r0⟩ := trodAll_cons hA
  obtain ⟨v1, vs1, d1, ds1, p1, q1, rfl, rfl, rfl, h1, r1⟩ := trodAll_cons r0
  obtain ⟨v2, vs2, d2, ds2, p2, q2, rfl, rfl, rfl, h2, r2⟩ := trodAll_cons r1
  obtain ⟨rfl, rfl, rfl⟩ := trodAll_nil r2
  obtain rfl : args = #[v0, v1, v2] := by cases args; simp_all
  obtain ⟨rfl, rfl⟩ := trodVars_none hV
  clear hA0
  obtain ⟨at_, rfl, rfl, rfl, wat_⟩ := open_int Tryd.underlying3 (hval 0 3 v0 rfl rfl) h0
  obtain ⟨other, rfl, rfl, rfl, wother⟩ := open_int Tryd.underlying3 (hval 1 3 v1 rfl rfl) h1
  obtain ⟨n, rfl, rfl, rfl, wn⟩ := open_int Tryd.underlying3 (hval 2 3 v2 rfl rfl) h2
  refine (memory_walk at_ other n (i64_of_wf wat_) (i64_of_wf wother) (i64_of_wf wn) W hT).mono fun e W' ⟨he, hb⟩ => ?_
  subst he
  exact ⟨_, rfl, law_post hW0 rfl rfl (by kernel_rfl) (by kernel_rfl) hb⟩
set_option maxRecDepth 100000 in
theorem memory_met (os : Os) : laidMet Tryd.prog Rows.memoryRow.laid ((laidWorld os).forCall (fun _ _ => 0) ⟨#[], #[.int .i64 0, .int .i64 0, .int .i64 0], []⟩).memory :=
  laidMet_of_run' 8 (by kernel_rfl) (by kernel_rfl)
set_option maxRecDepth 100000 in
theorem memory_reads (os : Os) {H : Type} (enc : TypeId × Value → H) : ∃ places, DataW.whole enc Tryd.prog ((laidWorld os).forCall (fun _ _ => 0) ⟨#[], #[.int .i64 0, .int .i64 0, .int .i64 0], []⟩).memory Tryd.f6.params.toList Rows.memorySpec.vars false (#[.int .i64 0, .int .i64 0, .int .i64 0] : Array Value).toList 8 = some ([.lit (.int .i64 0), .lit (.int .i64 0), .lit (.int .i64 0)], [], places) :=
  ⟨[], by kernel_rfl⟩
set_option maxRecDepth 100000 in
theorem memory_lifted (os : Os) (started : os.Started) (H : Type) (enc : TypeId × Value → H) (F : Stop.Interp) :
    ReturnsInHanded {} Tryd.checked os 6 .any ((OpenSpec.ofChange Rows.memorySpec).preRow enc Tryd.prog Tryd.f6 Rows.memoryRow.domain false Rows.memoryRow.laid) (((OpenSpec.ofChange Rows.memorySpec).at F).post enc Tryd.prog Tryd.f6 false true false false) := by
  obtain ⟨places, hx⟩ := memory_reads os enc
  refine returnsInHanded_of_row (C := Tryd.checked) (s := OpenSpec.ofChange Rows.memorySpec) ownP started (by kernel_rfl) Tryd.func6
    (witness_row_at (enc := enc) (C := Tryd.checked) false (laidWorld os) #[.int .i64 0, .int .i64 0, .int .i64 0] rfl (by kernel_rfl) (by kernel_rfl) (by kernel_rfl)
      (OpenSpec.preRow_of_cond 8 hx (by kernel_rfl) (fun k hk => by cases hk) (by kernel_rfl) (memory_met os))) ?_
  intro W base args ds gs before hval hW _ _ _ hL _ _
  exact memory_contract H enc W base args ds gs before hval hW hL
set_option maxRecDepth 100000 in
theorem memory_said : Rows.MemorySaid :=
  OpenClaim.holds_of_cond 6 Tryd.f6 rfl rfl rfl rfl rfl rfl rfl ⟨rfl, rfl, rfl, rfl, rfl⟩ rfl rfl rfl rfl rfl (by kernel_rfl) Tryd.func6 (by kernel_rfl)
    (of_decide_eq_true (by kernel_rfl)) (by unfold Func.isWrapper; first | (rw [if_pos (by decide +kernel)]; kernel_rfl) | (rw [if_neg (by decide +kernel)]; exact ⟨rfl, rfl⟩))
    (fun os started H enc _ F => by rw [OpenClaim.pre_eq_preRow]; exact memory_lifted os started H enc F)
set_option maxRecDepth 100000 in
theorem memory_plain (f : FuncId) (fn : Func) (hf : Tryd.pinned.checked.prog.funcNamed "bolthole/boltholekeep.Memory" = some f) (hfn : Tryd.pinned.checked.prog.funcs[f]? = some fn) :
    ∀ (j : Nat) t, fn.params[j]? = some t → Tryd.pinned.checked.prog.wantsStandIn t = false := by
  obtain rfl : f = 6 := Option.some.inj ((show Tryd.prog.funcNamed "bolthole/boltholekeep.Memory" = some 6 by kernel_rfl).symm.trans hf) |>.symm
  obtain rfl : fn = Tryd.f6 := (Option.some.inj (Tryd.func6.symm.trans hfn)).symm
  intro j t ht
  have hall : ∀ t ∈ Tryd.f6.params, Tryd.prog.wantsStandIn t = false := by
    rw [Tryd.params6]
    intro t ht
    simp only [List.mem_toArray, List.mem_cons, List.not_mem_nil, or_false] at ht
    rcases ht with rfl | rfl | rfl
    all_goals kernel_rfl
  exact hall t (Array.mem_of_getElem? ht)
set_option maxRecDepth 100000 in
theorem memory_card : Rows.MemoryCardSaid :=
  Claim7.holds_tied_plain_at .later [] _ _ _ _ memory_said (fun _ h => by cases h) (by kernel_rfl) (fun _ h => by cases h) memory_row_tie rfl ⟨rfl, rfl⟩ (by kernel_rfl) rfl (fun f fn hf hfn => ⟨by kernel_rfl, memory_plain f fn hf hfn⟩) (by kernel_rfl)
end Go.Proofs.YtgeljimckoodiaaDoor
