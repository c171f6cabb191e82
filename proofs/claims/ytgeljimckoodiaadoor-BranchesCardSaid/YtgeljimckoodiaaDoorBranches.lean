/- The given statement on Branches, proved: a branch goes where it must, long or not; of two that are opposite just one does. No condition of its own. -/
import Derived.Test.YtgeljimckoodiaaDoorLawR
import Derived.Test.YtgeljimckoodiaaDoorKeepL
import Derived.Test.YtgeljimckoodiaaDoorKeepA
import Derived.Test.YtgeljimckoodiaaDoorEqI
import Derived.Deep.QuietTactic
import Derived.BigQuiet
import Derived.WalkLawsBesides
import Derived.Test.YtgeljimckoodiaaDoorKeepM
namespace Go.Proofs.YtgeljimckoodiaaDoor
open Go.ChangeShapes Go.WideShapes Go.ChangeAt Go.RowKit Go.Joins
open Go.ChangeMaps (open_string)
set_option maxHeartbeats 8000000 in
set_option maxRecDepth 100000 in
theorem branches_walk (a b kind : Int) (long : Bool) (ha : N64 a) (hb : N64 b) (hkind : N64 kind) (w : World) (hT : Tabs w) : Calls Tryd.prog 7 #[.int .i64 a, .int .i64 b, .int .i64 kind, .bool long] w fun e w' => e = .returned (.bool true) ∧ Below w.heap.size w w' := by
  obtain ⟨a1, a2⟩ := ha
  have PA := Lib.hid (fun (m : Int) (h : 0 < m) (h2 : m ≤ 9223372036854775807) W => picked_any a m W a1 a2 h h2)
  obtain ⟨b1, b2⟩ := hb
  have PB := Lib.hid (fun (m : Int) (h : 0 < m) (h2 : m ≤ 9223372036854775807) W => picked_any b m W b1 b2 h h2)
  obtain ⟨kind1, kind2⟩ := hkind
  have PKIND := Lib.hid (fun (m : Int) (h : 0 < m) (h2 : m ≤ 9223372036854775807) W => picked_any kind m W kind1 kind2 h h2)
  have HT := Lib.hid hT
  clear hT
  have HB_w := Lib.hid (Below.refl w.heap.size w)
  have x1 := pickL_bd a 5 (by decide)
  have y1 := pickL_bd b 5 (by decide)
  have k1 := pickL_bd kind 4 (by decide)
  obtain ⟨x, wx⟩ : ∃ x, pickL a 5 = x := ⟨_, rfl⟩
  obtain ⟨y, wy⟩ : ∃ x, pickL b 5 = x := ⟨_, rfl⟩
  obtain ⟨k', wk⟩ : ∃ x, pickL kind 4 = x := ⟨_, rfl⟩
  rw [wx] at x1
  rw [wy] at y1
  rw [wk] at k1
  obtain ⟨k, rfl⟩ := Int.eq_ofNat_of_zero_le k1.1
  have hkk : (18 : Int) + (k : Int) - 18 = (k : Int) := by omega
  have HI1 := Lib.hid (show N41 x ∧ N41 y by unfold N41; omega)
  obtain ⟨r, hr⟩ : ∃ r, takenB (18 + (k : Int)) x y = r := ⟨_, rfl⟩
  have hcell : (w.alloc (.cells #[.bool (x == y), .bool (x != y), .bool (decide (x < y)), .bool (decide (y ≤ x))] 4)).cell? ⟨w.heap.size, k, none⟩ = some (.bool r) := by
    rw [cell_of_row _ _ k _ _ _ (heap_alloc_new w _), ← hr]
    have hk' : k = 0 ∨ k = 1 ∨ k = 2 ∨ k = 3 := by omega
    rcases hk' with rfl | rfl | rfl | rfl <;> rfl
  have HK1 := Lib.hid (fun l => brL_chk (18 + (k : Int)) l (by omega))
  have HRN := Lib.hid (fun l n hn => brL_run (18 + (k : Int)) x y l (by omega) n hn)
  rw [hr] at HRN
  clear hr
  cases long
  · cases r
    · have hR1 := HRN.out false 5 rfl
      rw [if_neg (by decide)] at hR1
      have HR1 := Lib.hid hR1
      have HKK := Lib.hid (show ∀ i ∈ brL (18 + (k : Int)) 5 false, i.chk = 0 from HK1.out false)
      clear hR1
      go_enter Tryd.func7, Tryd.ntmps7
      go_wp2_with fail
      refine (PA.out _ (by decide) (by decide) _).mono ?_
      rintro e wp ⟨rfl, rfl⟩
      go_wp2_with fail
      refine (PB.out _ (by decide) (by decide) _).mono ?_
      rintro e wp ⟨rfl, rfl⟩
      go_wp2_with fail
      refine (PKIND.out _ (by decide) (by decide) _).mono ?_
      rintro e wp ⟨rfl, rfl⟩
      go_wp2_with fail
      obtain ⟨vb, hv⟩ : ∃ vb, w.alloc (.cells #[.bool (x == y), .bool (x != y), .bool (decide (x < y)), .bool (decide (y ≤ x))] 4) = vb := ⟨_, rfl⟩
      have hB : Below w.heap.size w vb := by rw [← hv]; exact (Below.refl _ _).alloc (Nat.le_refl _) _
      have HVS : Hid (vb.heap.size = w.heap.size + 1) := Lib.hid (by rw [← hv]; simp)
      rw [hv]
      have HB_vb := Lib.hid hB
      clear hcell hv hB
      obtain ⟨v0, hv⟩ : ∃ v, vb.alloc (.cells #[.int .i64 x, .int .i64 y] 3) = v := ⟨_, rfl⟩
      have hr : v0.heap[vb.heap.size]? = some (.cells #[.int .i64 x, .int .i64 y] 3 (0, 0)) := by rw [← hv]; exact heap_alloc_new vb _
      have hB : Below w.heap.size w v0 := by rw [← hv]; exact HB_vb.out.alloc HB_vb.out.size _
      have HBI0 : Hid (Below vb.heap.size vb v0) := Lib.hid (by rw [← hv]; exact (Below.refl _ _).alloc (Nat.le_refl _) _)
      rw [hv]
      have HRI0 := Lib.hid hr
      have HB_v0 := Lib.hid hB
      clear hv hr hB
      have HV_0_0 := Lib.hid (Below.refl v0.heap.size v0)
      refine (out_any _ _).mono ?_
      rintro e u0_1 ⟨rfl, hv⟩
      have HV_1_0 := Lib.hid (HV_0_0.out.trans (hv.mono HV_0_0.out.size))
      clear hv
      go_wp2_with fail
      refine (out_any _ _).mono ?_
      rintro e u0_2 ⟨rfl, hv⟩
      have HV_2_0 := Lib.hid (HV_1_0.out.trans (hv.mono HV_1_0.out.size))
      clear hv
      go_wp2_with fail
      obtain ⟨U, hu⟩ : ∃ U, u0_2.alloc (Obj.cells (insR (brL (18 + (k : Int)) 5 false)).toArray 27) = U := ⟨_, rfl⟩
      have hr : U.heap[u0_2.heap.size]? = some (.cells (insR (brL (18 + (k : Int)) 5 false)).toArray 27 (0, 0)) := by rw [← hu]; exact heap_alloc_new u0_2 _
      have hb5 : Below v0.heap.size v0 U := by rw [← hu]; exact HV_2_0.out.alloc HV_2_0.out.size _
      have hw5 : Below w.heap.size w U := HB_v0.out.trans (hb5.mono HB_v0.out.size)
      have hi5 := (hb5.block _ (Array.getElem?_eq_some_iff.1 HRI0.out).1).trans HRI0.out
      have htold := told_of (brL (18 + (k : Int)) 5 false) [x, y] [x, y] 1 u0_2.heap.size 5 (some ⟨vb.heap.size, 0, none⟩) 2 U (HT.out.below hw5) (of_decide_eq_true rfl) (of_decide_eq_true rfl) (of_decide_eq_true rfl) HKK.out hr (fun _ => ⟨vb.heap.size, 0, rfl, (Array.getElem?_eq_some_iff.1 hi5).1, fun j u hu => by rw [Nat.zero_add, cell_of_row _ _ j _ _ _ hi5]; simpa [intsV] using hu⟩) (by simp) (by simp) (by simpa using HI1.out) HR1.out.1 HR1.out.2
      rw [← hu] at htold
      rw [HVS.out] at htold
      refine htold.mono ?_
      clear htold
      rintro e w1 ⟨A1, c1, rfl, hb6, hc1, hrd⟩
      rw [hu] at hb6
      have HB_w1 : Hid (Below w.heap.size w w1) := Lib.hid (hw5.trans (hb6.mono hw5.size))
      have HW1 : Hid (Below v0.heap.size v0 w1) := Lib.hid (hb5.trans (hb6.mono hb5.size))
      have HWB1 : Hid (Below vb.heap.size vb w1) := Lib.hid (HBI0.out.trans (HW1.out.mono HBI0.out.size))
      have HRD1 := Lib.hid hrd
      clear hb6 hrd hb5 hw5 hr hi5
      go_wp2_with fail
      obtain ⟨U, hu⟩ : ∃ U, w1.alloc (.cells #[.int .i64 x, .int .i64 y] 3) = U := ⟨_, rfl⟩
      have hr : U.heap[w1.heap.size]? = some (.cells #[.int .i64 x, .int .i64 y] 3 (0, 0)) := by rw [← hu]; exact heap_alloc_new w1 _
      have hbU : Below w1.heap.size w1 U := by rw [← hu]; exact (Below.refl _ _).alloc (Nat.le_refl _) _
      have heq := eqi_same [x, y] A1 (some ⟨w1.heap.size, 0, none⟩) 2 c1 2 2 U (((HRD1.out).below hbU).more hbU.size) (fun _ => ⟨w1.heap.size, 0, rfl, (Array.getElem?_eq_some_iff.1 hr).1, fun j u hu => by rw [Nat.zero_add, cell_of_row _ _ j _ _ _ hr]; simpa [intsV] using hu⟩) rfl rfl (by decide)
      rw [← hu] at heq
      refine heq.mono ?_
      clear heq
      rintro e w4 ⟨rfl, q, hq⟩
      have hbF : Below w.heap.size w w4 := by rw [hq, hu]; exact below_dN (HB_w1.out.trans (hbU.mono HB_w1.out.size)) q
      have HBF := Lib.hid hbF
      clear hq hu hr hbU hbF
      go_wp2
      go_ret
      exact ⟨rfl, HBF.out⟩
    · have hR1 := HRN.out false 5 rfl
      rw [if_pos rfl] at hR1
      have HR1 := Lib.hid hR1
      have HKK := Lib.hid (show ∀ i ∈ brL (18 + (k : Int)) 5 false, i.chk = 0 from HK1.out false)
      clear hR1
      go_enter Tryd.func7, Tryd.ntmps7
      go_wp2_with fail
      refine (PA.out _ (by decide) (by decide) _).mono ?_
      rintro e wp ⟨rfl, rfl⟩
      go_wp2_with fail
      refine (PB.out _ (by decide) (by decide) _).mono ?_
      rintro e wp ⟨rfl, rfl⟩
      go_wp2_with fail
      refine (PKIND.out _ (by decide) (by decide) _).mono ?_
      rintro e wp ⟨rfl, rfl⟩
      go_wp2_with fail
      obtain ⟨vb, hv⟩ : ∃ vb, w.alloc (.cells #[.bool (x == y), .bool (x != y), .bool (decide (x < y)), .bool (decide (y ≤ x))] 4) = vb := ⟨_, rfl⟩
      have hB : Below w.heap.size w vb := by rw [← hv]; exact (Below.refl _ _).alloc (Nat.le_refl _) _
      have HVS : Hid (vb.heap.size = w.heap.size + 1) := Lib.hid (by rw [← hv]; simp)
      rw [hv]
      have HB_vb := Lib.hid hB
      clear hcell hv hB
      obtain ⟨v0, hv⟩ : ∃ v, vb.alloc (.cells #[.int .i64 x, .int .i64 y] 3) = v := ⟨_, rfl⟩
      have hr : v0.heap[vb.heap.size]? = some (.cells #[.int .i64 x, .int .i64 y] 3 (0, 0)) := by rw [← hv]; exact heap_alloc_new vb _
      have hB : Below w.heap.size w v0 := by rw [← hv]; exact HB_vb.out.alloc HB_vb.out.size _
      have HBI0 : Hid (Below vb.heap.size vb v0) := Lib.hid (by rw [← hv]; exact (Below.refl _ _).alloc (Nat.le_refl _) _)
      rw [hv]
      have HRI0 := Lib.hid hr
      have HB_v0 := Lib.hid hB
      clear hv hr hB
      have HV_0_0 := Lib.hid (Below.refl v0.heap.size v0)
      refine (out_any _ _).mono ?_
      rintro e u0_1 ⟨rfl, hv⟩
      have HV_1_0 := Lib.hid (HV_0_0.out.trans (hv.mono HV_0_0.out.size))
      clear hv
      go_wp2_with fail
      refine (out_any _ _).mono ?_
      rintro e u0_2 ⟨rfl, hv⟩
      have HV_2_0 := Lib.hid (HV_1_0.out.trans (hv.mono HV_1_0.out.size))
      clear hv
      go_wp2_with fail
      obtain ⟨U, hu⟩ : ∃ U, u0_2.alloc (Obj.cells (insR (brL (18 + (k : Int)) 5 false)).toArray 27) = U := ⟨_, rfl⟩
      have hr : U.heap[u0_2.heap.size]? = some (.cells (insR (brL (18 + (k : Int)) 5 false)).toArray 27 (0, 0)) := by rw [← hu]; exact heap_alloc_new u0_2 _
      have hb5 : Below v0.heap.size v0 U := by rw [← hu]; exact HV_2_0.out.alloc HV_2_0.out.size _
      have hw5 : Below w.heap.size w U := HB_v0.out.trans (hb5.mono HB_v0.out.size)
      have hi5 := (hb5.block _ (Array.getElem?_eq_some_iff.1 HRI0.out).1).trans HRI0.out
      have htold := told_of (brL (18 + (k : Int)) 5 false) [x, y] [y] 1 u0_2.heap.size 5 (some ⟨vb.heap.size, 0, none⟩) 2 U (HT.out.below hw5) (of_decide_eq_true rfl) (of_decide_eq_true rfl) (of_decide_eq_true rfl) HKK.out hr (fun _ => ⟨vb.heap.size, 0, rfl, (Array.getElem?_eq_some_iff.1 hi5).1, fun j u hu => by rw [Nat.zero_add, cell_of_row _ _ j _ _ _ hi5]; simpa [intsV] using hu⟩) (by simp) (by simp) (by simpa using HI1.out) HR1.out.1 HR1.out.2
      rw [← hu] at htold
      rw [HVS.out] at htold
      refine htold.mono ?_
      clear htold
      rintro e w1 ⟨A1, c1, rfl, hb6, hc1, hrd⟩
      rw [hu] at hb6
      have HB_w1 : Hid (Below w.heap.size w w1) := Lib.hid (hw5.trans (hb6.mono hw5.size))
      have HW1 : Hid (Below v0.heap.size v0 w1) := Lib.hid (hb5.trans (hb6.mono hb5.size))
      have HWB1 : Hid (Below vb.heap.size vb w1) := Lib.hid (HBI0.out.trans (HW1.out.mono HBI0.out.size))
      have HRD1 := Lib.hid hrd
      clear hb6 hrd hb5 hw5 hr hi5
      go_wp2_with fail
      obtain ⟨U, hu⟩ : ∃ U, (w1.alloc (.cells #[.int .i64 x, .int .i64 y] 3)).alloc (.cells #[.int .i64 y] 3) = U := ⟨_, rfl⟩
      have hr : U.heap[w1.heap.size + 1]? = some (.cells #[.int .i64 y] 3 (0, 0)) := by rw [← hu]; exact heap_alloc2_new w1 _ _
      have hbU : Below w1.heap.size w1 U := by rw [← hu]; exact ((Below.refl _ _).alloc (Nat.le_refl _) _).alloc (by simp) _
      have heq := eqi_same [y] A1 (some ⟨w1.heap.size + 1, 0, none⟩) 1 c1 1 1 U (((HRD1.out).below hbU).more hbU.size) (fun _ => ⟨w1.heap.size + 1, 0, rfl, (Array.getElem?_eq_some_iff.1 hr).1, fun j u hu => by rw [Nat.zero_add, cell_of_row _ _ j _ _ _ hr]; simpa [intsV] using hu⟩) rfl rfl (by decide)
      rw [← hu] at heq
      refine heq.mono ?_
      clear heq
      rintro e w4 ⟨rfl, q, hq⟩
      have hbF : Below w.heap.size w w4 := by rw [hq, hu]; exact below_dN (HB_w1.out.trans (hbU.mono HB_w1.out.size)) q
      have HBF := Lib.hid hbF
      clear hq hu hr hbU hbF
      go_wp2
      go_ret
      exact ⟨rfl, HBF.out⟩
  · cases r
    · have hR1 := HRN.out true 6 rfl
      rw [if_neg (by decide)] at hR1
      have HR1 := Lib.hid hR1
      have HKK := Lib.hid (show ∀ i ∈ brL (18 + (k : Int)) 6 true, i.chk = 0 from HK1.out true)
      clear hR1
      go_enter Tryd.func7, Tryd.ntmps7
      go_wp2_with fail
      refine (PA.out _ (by decide) (by decide) _).mono ?_
      rintro e wp ⟨rfl, rfl⟩
      go_wp2_with fail
      refine (PB.out _ (by decide) (by decide) _).mono ?_
      rintro e wp ⟨rfl, rfl⟩
      go_wp2_with fail
      refine (PKIND.out _ (by decide) (by decide) _).mono ?_
      rintro e wp ⟨rfl, rfl⟩
      go_wp2_with fail
      obtain ⟨vb, hv⟩ : ∃ vb, w.alloc (.cells #[.bool (x == y), .bool (x != y), .bool (decide (x < y)), .bool (decide (y ≤ x))] 4) = vb := ⟨_, rfl⟩
      have hB : Below w.heap.size w vb := by rw [← hv]; exact (Below.refl _ _).alloc (Nat.le_refl _) _
      have HVS : Hid (vb.heap.size = w.heap.size + 1) := Lib.hid (by rw [← hv]; simp)
      rw [hv]
      have HB_vb := Lib.hid hB
      clear hcell hv hB
      obtain ⟨v0, hv⟩ : ∃ v, vb.alloc (.cells #[.int .i64 x, .int .i64 y] 3) = v := ⟨_, rfl⟩
      have hr : v0.heap[vb.heap.size]? = some (.cells #[.int .i64 x, .int .i64 y] 3 (0, 0)) := by rw [← hv]; exact heap_alloc_new vb _
      have hB : Below w.heap.size w v0 := by rw [← hv]; exact HB_vb.out.alloc HB_vb.out.size _
      have HBI0 : Hid (Below vb.heap.size vb v0) := Lib.hid (by rw [← hv]; exact (Below.refl _ _).alloc (Nat.le_refl _) _)
      rw [hv]
      have HRI0 := Lib.hid hr
      have HB_v0 := Lib.hid hB
      clear hv hr hB
      have HV_0_0 := Lib.hid (Below.refl v0.heap.size v0)
      refine (out_any _ _).mono ?_
      rintro e u0_1 ⟨rfl, hv⟩
      have HV_1_0 := Lib.hid (HV_0_0.out.trans (hv.mono HV_0_0.out.size))
      clear hv
      go_wp2_with fail
      refine (out_any _ _).mono ?_
      rintro e u0_2 ⟨rfl, hv⟩
      have HV_2_0 := Lib.hid (HV_1_0.out.trans (hv.mono HV_1_0.out.size))
      clear hv
      go_wp2_with fail
      obtain ⟨U, hu⟩ : ∃ U, u0_2.alloc (Obj.cells (insR (brL (18 + (k : Int)) 6 true)).toArray 27) = U := ⟨_, rfl⟩
      have hr : U.heap[u0_2.heap.size]? = some (.cells (insR (brL (18 + (k : Int)) 6 true)).toArray 27 (0, 0)) := by rw [← hu]; exact heap_alloc_new u0_2 _
      have hb5 : Below v0.heap.size v0 U := by rw [← hu]; exact HV_2_0.out.alloc HV_2_0.out.size _
      have hw5 : Below w.heap.size w U := HB_v0.out.trans (hb5.mono HB_v0.out.size)
      have hi5 := (hb5.block _ (Array.getElem?_eq_some_iff.1 HRI0.out).1).trans HRI0.out
      have htold := told_of (brL (18 + (k : Int)) 6 true) [x, y] [x, y] 1 u0_2.heap.size 5 (some ⟨vb.heap.size, 0, none⟩) 2 U (HT.out.below hw5) (of_decide_eq_true rfl) (of_decide_eq_true rfl) (of_decide_eq_true rfl) HKK.out hr (fun _ => ⟨vb.heap.size, 0, rfl, (Array.getElem?_eq_some_iff.1 hi5).1, fun j u hu => by rw [Nat.zero_add, cell_of_row _ _ j _ _ _ hi5]; simpa [intsV] using hu⟩) (by simp) (by simp) (by simpa using HI1.out) HR1.out.1 HR1.out.2
      rw [← hu] at htold
      rw [HVS.out] at htold
      refine htold.mono ?_
      clear htold
      rintro e w1 ⟨A1, c1, rfl, hb6, hc1, hrd⟩
      rw [hu] at hb6
      have HB_w1 : Hid (Below w.heap.size w w1) := Lib.hid (hw5.trans (hb6.mono hw5.size))
      have HW1 : Hid (Below v0.heap.size v0 w1) := Lib.hid (hb5.trans (hb6.mono hb5.size))
      have HWB1 : Hid (Below vb.heap.size vb w1) := Lib.hid (HBI0.out.trans (HW1.out.mono HBI0.out.size))
      have HRD1 := Lib.hid hrd
      clear hb6 hrd hb5 hw5 hr hi5
      go_wp2_with fail
      obtain ⟨U, hu⟩ : ∃ U, w1.alloc (.cells #[.int .i64 x, .int .i64 y] 3) = U := ⟨_, rfl⟩
      have hr : U.heap[w1.heap.size]? = some (.cells #[.int .i64 x, .int .i64 y] 3 (0, 0)) := by rw [← hu]; exact heap_alloc_new w1 _
      have hbU : Below w1.heap.size w1 U := by rw [← hu]; exact (Below.refl _ _).alloc (Nat.le_refl _) _
      have heq := eqi_same [x, y] A1 (some ⟨w1.heap.size, 0, none⟩) 2 c1 2 2 U (((HRD1.out).below hbU).more hbU.size) (fun _ => ⟨w1.heap.size, 0, rfl, (Array.getElem?_eq_some_iff.1 hr).1, fun j u hu => by rw [Nat.zero_add, cell_of_row _ _ j _ _ _ hr]; simpa [intsV] using hu⟩) rfl rfl (by decide)
      rw [← hu] at heq
      refine heq.mono ?_
      clear heq
      rintro e w4 ⟨rfl, q, hq⟩
      have hbF : Below w.heap.size w w4 := by rw [hq, hu]; exact below_dN (HB_w1.out.trans (hbU.mono HB_w1.out.size)) q
      have HBF := Lib.hid hbF
      clear hq hu hr hbU hbF
      go_wp2
      go_ret
      exact ⟨rfl, HBF.out⟩
    · have hR1 := HRN.out true 6 rfl
      rw [if_pos rfl] at hR1
      have HR1 := Lib.hid hR1
      have HKK := Lib.hid (show ∀ i ∈ brL (18 + (k : Int)) 6 true, i.chk = 0 from HK1.out true)
      clear hR1
      go_enter Tryd.func7, Tryd.ntmps7
      go_wp2_with fail
      refine (PA.out _ (by decide) (by decide) _).mono ?_
      rintro e wp ⟨rfl, rfl⟩
      go_wp2_with fail
      refine (PB.out _ (by decide) (by decide) _).mono ?_
      rintro e wp ⟨rfl, rfl⟩
      go_wp2_with fail
      refine (PKIND.out _ (by decide) (by decide) _).mono ?_
      rintro e wp ⟨rfl, rfl⟩
      go_wp2_with fail
      obtain ⟨vb, hv⟩ : ∃ vb, w.alloc (.cells #[.bool (x == y), .bool (x != y), .bool (decide (x < y)), .bool (decide (y ≤ x))] 4) = vb := ⟨_, rfl⟩
      have hB : Below w.heap.size w vb := by rw [← hv]; exact (Below.refl _ _).alloc (Nat.le_refl _) _
      have HVS : Hid (vb.heap.size = w.heap.size + 1) := Lib.hid (by rw [← hv]; simp)
      rw [hv]
      have HB_vb := Lib.hid hB
      clear hcell hv hB
      obtain ⟨v0, hv⟩ : ∃ v, vb.alloc (.cells #[.int .i64 x, .int .i64 y] 3) = v := ⟨_, rfl⟩
      have hr : v0.heap[vb.heap.size]? = some (.cells #[.int .i64 x, .int .i64 y] 3 (0, 0)) := by rw [← hv]; exact heap_alloc_new vb _
      have hB : Below w.heap.size w v0 := by rw [← hv]; exact HB_vb.out.alloc HB_vb.out.size _
      have HBI0 : Hid (Below vb.heap.size vb v0) := Lib.hid (by rw [← hv]; exact (Below.refl _ _).alloc (Nat.le_refl _) _)
      rw [hv]
      have HRI0 := Lib.hid hr
      have HB_v0 := Lib.hid hB
      clear hv hr hB
      have HV_0_0 := Lib.hid (Below.refl v0.heap.size v0)
      refine (out_any _ _).mono ?_
      rintro e u0_1 ⟨rfl, hv⟩
      have HV_1_0 := Lib.hid (HV_0_0.out.trans (hv.mono HV_0_0.out.size))
      clear hv
      go_wp2_with fail
      refine (out_any _ _).mono ?_
      rintro e u0_2 ⟨rfl, hv⟩
      have HV_2_0 := Lib.hid (HV_1_0.out.trans (hv.mono HV_1_0.out.size))
      clear hv
      go_wp2_with fail
      obtain ⟨U, hu⟩ : ∃ U, u0_2.alloc (Obj.cells (insR (brL (18 + (k : Int)) 6 true)).toArray 27) = U := ⟨_, rfl⟩
      have hr : U.heap[u0_2.heap.size]? = some (.cells (insR (brL (18 + (k : Int)) 6 true)).toArray 27 (0, 0)) := by rw [← hu]; exact heap_alloc_new u0_2 _
      have hb5 : Below v0.heap.size v0 U := by rw [← hu]; exact HV_2_0.out.alloc HV_2_0.out.size _
      have hw5 : Below w.heap.size w U := HB_v0.out.trans (hb5.mono HB_v0.out.size)
      have hi5 := (hb5.block _ (Array.getElem?_eq_some_iff.1 HRI0.out).1).trans HRI0.out
      have htold := told_of (brL (18 + (k : Int)) 6 true) [x, y] [y] 1 u0_2.heap.size 5 (some ⟨vb.heap.size, 0, none⟩) 2 U (HT.out.below hw5) (of_decide_eq_true rfl) (of_decide_eq_true rfl) (of_decide_eq_true rfl) HKK.out hr (fun _ => ⟨vb.heap.size, 0, rfl, (Array.getElem?_eq_some_iff.1 hi5).1, fun j u hu => by rw [Nat.zero_add, cell_of_row _ _ j _ _ _ hi5]; simpa [intsV] using hu⟩) (by simp) (by simp) (by simpa using HI1.out) HR1.out.1 HR1.out.2
      rw [← hu] at htold
      rw [HVS.out] at htold
      refine htold.mono ?_
      clear htold
      rintro e w1 ⟨A1, c1, rfl, hb6, hc1, hrd⟩
      rw [hu] at hb6
      have HB_w1 : Hid (Below w.heap.size w w1) := Lib.hid (hw5.trans (hb6.mono hw5.size))
      have HW1 : Hid (Below v0.heap.size v0 w1) := Lib.hid (hb5.trans (hb6.mono hb5.size))
      have HWB1 : Hid (Below vb.heap.size vb w1) := Lib.hid (HBI0.out.trans (HW1.out.mono HBI0.out.size))
      have HRD1 := Lib.hid hrd
      clear hb6 hrd hb5 hw5 hr hi5
      go_wp2_with fail
      obtain ⟨U, hu⟩ : ∃ U, (w1.alloc (.cells #[.int .i64 x, .int .i64 y] 3)).alloc (.cells #[.int .i64 y] 3) = U := ⟨_, rfl⟩
      have hr : U.heap[w1.heap.size + 1]? = some (.cells #[.int .i64 y] 3 (0, 0)) := by rw [← hu]; exact heap_alloc2_new w1 _ _
      have hbU : Below w1.heap.size w1 U := by rw [← hu]; exact ((Below.refl _ _).alloc (Nat.le_refl _) _).alloc (by simp) _
      have heq := eqi_same [y] A1 (some ⟨w1.heap.size + 1, 0, none⟩) 1 c1 1 1 U (((HRD1.out).below hbU).more hbU.size) (fun _ => ⟨w1.heap.size + 1, 0, rfl, (Array.getElem?_eq_some_iff.1 hr).1, fun j u hu => by rw [Nat.zero_add, cell_of_row _ _ j _ _ _ hr]; simpa [intsV] using hu⟩) rfl rfl (by decide)
      rw [← hu] at heq
      refine heq.mono ?_
      clear heq
      rintro e w4 ⟨rfl, q, hq⟩
      have hbF : Below w.heap.size w w4 := by rw [hq, hu]; exact below_dN (HB_w1.out.trans (hbU.mono HB_w1.out.size)) q
      have HBF := Lib.hid hbF
      clear hq hu hr hbU hbF
      go_wp2
      go_ret
      exact ⟨rfl, HBF.out⟩
set_option maxRecDepth 100000 in
theorem branches_contract (H : Type) (enc : TypeId × Value → H) (W : World) (base : Nat) (args : Array Value) (ds gs : List (DataW H)) (before : List MemPlace)
    (hval : ∀ (j : Nat) t v, Tryd.f7.params[j]? = some t → args[j]? = some v → Value.okWide Tryd.prog W .any base t v)
    (hW : DataW.Whole enc Tryd.prog Tryd.f7.params.toList Rows.branchesSpec.vars false W args.toList ds gs before) (hL : laidMetH Tryd.prog Rows.branchesRow.laid W) :
    Calls Tryd.prog 7 args W fun e W' => ∃ v, e = .returned v ∧ Rows.branchesSpec.post enc Tryd.prog Tryd.f7 false true false false W args v W' := by
  have hT : Tabs W := tabs_of_laid (rest := []) hL
  have hW0 := hW
  obtain ⟨p, q, hA0, hV, rfl, hfz, hnd⟩ := hW
  have hA : DataW.TrodAll enc Tryd.prog W 0 (fun _ => true) true Tryd.f7.params.toList args.toList ds p := hA0
  rw [Tryd.params7] at hA hval
  obtain ⟨v0, vs0, d0, ds0, p0, q0, hargs, rfl, rfl, h0, r0⟩ := trodAll_cons hA
  obtain ⟨v1, vs1, d1, ds1, p1, q1, rfl, rfl, rfl, h1, r1⟩ := trodAll_cons r0
  obtain ⟨v2, vs2, d2, ds2, p2, q2, rfl, rfl, rfl, h2, r2⟩ := trodAll_cons r1
  obtain ⟨v3, vs3, d3, ds3, p3, q3, rfl, rfl, rfl, h3, r3⟩ := trodAll_cons r2
  obtain ⟨rfl, rfl, rfl⟩ := trodAll_nil r3
  obtain rfl : args = #[v0, v1, v2, v3] := by cases args; simp_all
  obtain ⟨rfl, rfl⟩ := trodVars_none hV
  clear hA0
  obtain ⟨a, rfl, rfl, rfl, wa⟩ := open_int Tryd.underlying3 (hval 0 3 v0 rfl rfl) h0
  obtain ⟨b, rfl, rfl, rfl, wb⟩ := open_int Tryd.underlying3 (hval 1 3 v1 rfl rfl) h1
  obtain ⟨kind, rfl, rfl, rfl, wkind⟩ := open_int Tryd.underlying3 (hval 2 3 v2 rfl rfl) h2
  obtain ⟨long, rfl, rfl, rfl⟩ := open_bool Tryd.underlying4 (hval 3 4 v3 rfl rfl) h3
  refine (branches_walk a b kind long (i64_of_wf wa) (i64_of_wf wb) (i64_of_wf wkind) W hT).mono fun e W' ⟨he, hb⟩ => ?_
  subst he
  exact ⟨_, rfl, law_post hW0 rfl rfl (by kernel_rfl) (by kernel_rfl) hb⟩
set_option maxRecDepth 100000 in
theorem branches_met (os : Os) : laidMet Tryd.prog Rows.branchesRow.laid ((laidWorld os).forCall (fun _ _ => 0) ⟨#[], #[.int .i64 0, .int .i64 0, .int .i64 0, .bool false], []⟩).memory :=
  laidMet_of_run' 8 (by kernel_rfl) (by kernel_rfl)
set_option maxRecDepth 100000 in
theorem branches_reads (os : Os) {H : Type} (enc : TypeId × Value → H) : ∃ places, DataW.whole enc Tryd.prog ((laidWorld os).forCall (fun _ _ => 0) ⟨#[], #[.int .i64 0, .int .i64 0, .int .i64 0, .bool false], []⟩).memory Tryd.f7.params.toList Rows.branchesSpec.vars false (#[.int .i64 0, .int .i64 0, .int .i64 0, .bool false] : Array Value).toList 8 = some ([.lit (.int .i64 0), .lit (.int .i64 0), .lit (.int .i64 0), .lit (.bool false)], [], places) :=
  ⟨[], by kernel_rfl⟩
set_option maxRecDepth 100000 in
theorem branches_lifted (os : Os) (started : os.Started) (H : Type) (enc : TypeId × Value → H) (F : Stop.Interp) :
    ReturnsInHanded {} Tryd.checked os 7 .any ((OpenSpec.ofChange Rows.branchesSpec).preRow enc Tryd.prog Tryd.f7 Rows.branchesRow.domain false Rows.branchesRow.laid) (((OpenSpec.ofChange Rows.branchesSpec).at F).post enc Tryd.prog Tryd.f7 false true false false) := by
  obtain ⟨places, hx⟩ := branches_reads os enc
  refine returnsInHanded_of_row (C := Tryd.checked) (s := OpenSpec.ofChange Rows.branchesSpec) ownP started (by kernel_rfl) Tryd.func7
    (witness_row_at (enc := enc) (C := Tryd.checked) false (laidWorld os) #[.int .i64 0, .int .i64 0, .int .i64 0, .bool false] rfl (by kernel_rfl) (by kernel_rfl) (by kernel_rfl)
      (OpenSpec.preRow_of_cond 8 hx (by kernel_rfl) (fun k hk => by cases hk) (by kernel_rfl) (branches_met os))) ?_
  intro W base args ds gs before hval hW _ _ _ hL _ _
  exact branches_contract H enc W base args ds gs before hval hW hL
set_option maxRecDepth 100000 in
theorem branches_said : Rows.BranchesSaid :=
  OpenClaim.holds_of_cond 7 Tryd.f7 rfl rfl rfl rfl rfl rfl rfl ⟨rfl, rfl, rfl, rfl, rfl⟩ rfl rfl rfl rfl rfl (by kernel_rfl) Tryd.func7 (by kernel_rfl)
    (of_decide_eq_true (by kernel_rfl)) (by unfold Func.isWrapper; first | (rw [if_pos (by decide +kernel)]; kernel_rfl) | (rw [if_neg (by decide +kernel)]; exact ⟨rfl, rfl⟩))
    (fun os started H enc _ F => by rw [OpenClaim.pre_eq_preRow]; exact branches_lifted os started H enc F)
set_option maxRecDepth 100000 in
theorem branches_plain (f : FuncId) (fn : Func) (hf : Tryd.pinned.checked.prog.funcNamed "bolthole/boltholekeep.Branches" = some f) (hfn : Tryd.pinned.checked.prog.funcs[f]? = some fn) :
    ∀ (j : Nat) t, fn.params[j]? = some t → Tryd.pinned.checked.prog.wantsStandIn t = false := by
  obtain rfl : f = 7 := Option.some.inj ((show Tryd.prog.funcNamed "bolthole/boltholekeep.Branches" = some 7 by kernel_rfl).symm.trans hf) |>.symm
  obtain rfl : fn = Tryd.f7 := (Option.some.inj (Tryd.func7.symm.trans hfn)).symm
  intro j t ht
  have hall : ∀ t ∈ Tryd.f7.params, Tryd.prog.wantsStandIn t = false := by
    rw [Tryd.params7]
    intro t ht
    simp only [List.mem_toArray, List.mem_cons, List.not_mem_nil, or_false] at ht
    rcases ht with rfl | rfl | rfl | rfl
    all_goals kernel_rfl
  exact hall t (Array.mem_of_getElem? ht)
set_option maxRecDepth 100000 in
theorem branches_card : Rows.BranchesCardSaid :=
  Claim7.holds_tied_plain_at .later [] _ _ _ _ branches_said (fun _ h => by cases h) (by kernel_rfl) (fun _ h => by cases h) branches_row_tie rfl ⟨rfl, rfl⟩ (by kernel_rfl) rfl (fun f fn hf hfn => ⟨by kernel_rfl, branches_plain f fn hf hfn⟩) (by kernel_rfl)
end Go.Proofs.YtgeljimckoodiaaDoor
