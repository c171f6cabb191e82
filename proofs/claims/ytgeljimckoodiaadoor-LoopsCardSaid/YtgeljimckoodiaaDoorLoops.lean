/- The given statement on Loops, proved: a loop is done as often as it says, and costs its steps. No condition of its own. -/
import Derived.Test.YtgeljimckoodiaaDoorLawR
import Derived.Test.YtgeljimckoodiaaDoorKeepL
import Derived.Test.YtgeljimckoodiaaDoorKeepA
import Derived.Test.YtgeljimckoodiaaDoorEqI
import Derived.Deep.QuietTactic
import Derived.BigQuiet
import Derived.WalkLawsBesides
import Derived.Test.YtgeljimckoodiaaDoorKeepN
namespace Go.Proofs.YtgeljimckoodiaaDoor
open Go.ChangeShapes Go.WideShapes Go.ChangeAt Go.RowKit Go.Joins
open Go.ChangeMaps (open_string)
set_option maxHeartbeats 8000000 in
set_option maxRecDepth 100000 in
theorem loops_walk (n : Int) (hn : N64 n) (w : World) (hT : Tabs w) : Calls Tryd.prog 5 #[.int .i64 n] w fun e w' => e = .returned (.bool true) ∧ Below w.heap.size w w' := by
  obtain ⟨n1, n2⟩ := hn
  have PN := Lib.hid (fun (m : Int) (h : 0 < m) (h2 : m ≤ 9223372036854775807) W => picked_any n m W n1 n2 h h2)
  have HT := Lib.hid hT
  clear hT
  have HB_w := Lib.hid (Below.refl w.heap.size w)
  have v1 := pickL_bd n 60 (by decide)
  obtain ⟨j', wj⟩ : ∃ x, pickL n 60 = x := ⟨_, rfl⟩
  rw [wj] at v1
  obtain ⟨j, rfl⟩ := Int.eq_ofNat_of_zero_le v1.1
  have hj1 : (1 : Int) + (j : Int) = (j : Int) + 1 := by omega
  obtain ⟨S1, S2, r1, r2, r3, r4, r5, r6, r7⟩ := loop_run (j + 1) (by omega)
  have hcast : ((j + 1 : Nat) : Int) = (j : Int) + 1 := by omega
  rw [hcast] at r1 r2 r3 r5 r7
  obtain ⟨T, hT⟩ : ∃ T, downT ((j : Int) + 1) (j + 1) = T := ⟨_, rfl⟩
  have tl : T.length = j + 1 := by rw [← hT, downT_len]
  have t0 : T[0]? = some ((j : Int) + 1) := by rw [← hT, downT_at _ _ _ (by omega)]; simp
  have tj : T[j]? = some 1 := by rw [← hT, downT_at _ _ _ (by omega)]; congr 1; omega
  rw [hT] at r3
  have HK := Lib.hid (loopL_chk ((j : Int) + 1) (by omega))
  have HS1 := Lib.hid (show runS (aloneM (loopL ((j : Int) + 1))) [] 1000 = S1 ∧ S1.told = T ∧ T.length = j + 1 ∧ S1.en = 1 ∧ S1.steps = 1 + 3 * ((j : Int) + 1) from ⟨r1, r3, tl, r4, r5⟩)
  have HS2 := Lib.hid (show runS (aloneM (loopL ((j : Int) + 1))) [] (3 * ((j : Int) + 1)) = S2 ∧ S2.en = 3 ∧ S2.steps = 3 * ((j : Int) + 1) from ⟨r2, r6, r7⟩)
  have HT0 := Lib.hid t0
  have HTJ := Lib.hid tj
  clear r1 r2 r3 r4 r5 r6 r7 hcast hT tl t0 tj
  go_enter Tryd.func5, Tryd.ntmps5
  go_wp2_with fail
  refine (PN.out _ (by decide) (by decide) _).mono ?_
  rintro e wp ⟨rfl, rfl⟩
  go_wp2_with fail
  refine (li_any _ _ _).mono ?_
  rintro e u1 ⟨rfl, hv1⟩
  have HU1 := Lib.hid hv1
  clear hv1
  go_wp2_with fail
  refine (out_any _ _).mono ?_
  rintro e u2 ⟨rfl, hv2⟩
  have HU2 := Lib.hid (HU1.out.trans (hv2.mono HU1.out.size))
  clear hv2
  go_wp2_with fail
  obtain ⟨U, hu⟩ : ∃ U, u2.alloc (Obj.cells (insR (loopL ((j : Int) + 1))).toArray 27) = U := ⟨_, rfl⟩
  have hr : U.heap[u2.heap.size]? = some (.cells (insR (loopL ((j : Int) + 1))).toArray 27 (0, 0)) := by rw [← hu]; exact heap_alloc_new u2 _
  have hwU : Below w.heap.size w U := by rw [← hu]; exact HU2.out.alloc HU2.out.size _
  have hal := alone_any (loopL ((j : Int) + 1)) u2.heap.size 0 4 U (HT.out.below hwU) (by simp [loopL]) (by simp [loopL]) (by simp [loopL]) (Array.getElem?_eq_some_iff.1 hr).1 HK.out (fun j u hu => by rw [Nat.zero_add, cell_of_row _ _ j _ _ _ hr]; simpa using hu)
  rw [← hu] at hal
  refine hal.mono ?_
  clear hal
  rintro e w1 ⟨hb1, v, rfl, hrd, hok⟩
  rw [hu] at hb1
  have HW1 := Lib.hid (hwU.trans (hb1.mono hwU.size))
  have HRD := Lib.hid hrd
  have HOK := Lib.hid hok
  clear hrd hok hb1 hwU hr hu
  obtain ⟨M, hM⟩ : ∃ M, aloneM (loopL ((j : Int) + 1)) = M := ⟨_, rfl⟩
  have hM0 : checkE M = 0 := by rw [← hM]; exact alone_check _ HK.out (by simp [loopL])
  have HM0 := Lib.hid hM0
  rw [hM] at HRD HOK HS1 HS2 ⊢
  clear hM hM0
  unfold Img.val
  go_wp2_with fail
  obtain ⟨X, hX⟩ : ∃ X, w1.alloc (.cells (M.val v) 35) = X := ⟨_, rfl⟩
  have hbX : Below w1.heap.size w1 X := by rw [← hX]; exact (Below.refl _ _).alloc (Nat.le_refl _) _
  have hwX : Below w.heap.size w X := HW1.out.trans (hbX.mono HW1.out.size)
  have hm1 : X.heap[w1.heap.size]? = some (.cells (M.val v) 35 (0, 0)) := by rw [← hX]; exact heap_alloc_new w1 _
  have hrun := run_rq M v none 0 [] 1000 X S1 T (j + 1) 1 (1 + 3 * ((j : Int) + 1)) (HT.out.below hwX) ((HRD.out.below hbX).more hbX.size) HOK.out (RdG.nil _ _ _) (Nat.le_refl _) (by simp) (by unfold N64; omega) (by simp) (runE_fuel HM0.out (by decide) (by simp) (by simp)) HS1.out.1 HS1.out.2.1 HS1.out.2.2.1 HS1.out.2.2.2.1 HS1.out.2.2.2.2
  rw [← hX] at hrun
  refine hrun.mono ?_
  clear hrun
  rintro e w2 ⟨hb2, A2, c2, p2, rfl, hc2, hrd2⟩
  rw [hX] at hb2
  unfold runV
  have hm2 : w2.heap[w1.heap.size]? = some (.cells (M.val v) 35 (0, 0)) := (hb2.block _ (Array.getElem?_eq_some_iff.1 hm1).1).trans hm1
  have hlt2 := (Array.getElem?_eq_some_iff.1 hm2).1
  have m0 : w2.cell? ⟨w1.heap.size, 0, none⟩ = some (.slice v.tA M.text.length v.tc) := cell_of_row _ _ 0 _ _ _ hm2
  have m1 : w2.cell? ⟨w1.heap.size, 1, none⟩ = some (.slice v.fA M.funcs.length v.fc) := cell_of_row _ _ 1 _ _ _ hm2
  have m2 : w2.cell? ⟨w1.heap.size, 2, none⟩ = some (.slice v.bA M.tables.length v.bc) := cell_of_row _ _ 2 _ _ _ hm2
  have m3 : w2.cell? ⟨w1.heap.size, 3, none⟩ = some (.slice v.dA M.data.length v.dc) := cell_of_row _ _ 3 _ _ _ hm2
  have m4 : w2.cell? ⟨w1.heap.size, 4, none⟩ = some (.slice v.lA M.lines.length v.lc) := cell_of_row _ _ 4 _ _ _ hm2
  have m5 : w2.cell? ⟨w1.heap.size, 5, none⟩ = some (.int .i64 M.entry) := cell_of_row _ _ 5 _ _ _ hm2
  have HB1 := Lib.hid (hbX.trans (hb2.mono hbX.size))
  have HW2 := Lib.hid (hwX.trans (hb2.mono hwX.size))
  have HR2 := Lib.hid hrd2
  clear hb2 hrd2 hm2 hm1 hwX hbX hX
  go_wp2_with fail
  obtain ⟨X, hX⟩ : ∃ X, w2.alloc (.cells #[.slice A2 (j + 1) c2, .int .i64 1, .int .i64 (1 + 3 * ((j : Int) + 1)), .int .i64 p2] 40) = X := ⟨_, rfl⟩
  have hbX : Below w2.heap.size w2 X := by rw [← hX]; exact (Below.refl _ _).alloc (Nat.le_refl _) _
  have hwX : Below w.heap.size w X := HW2.out.trans (hbX.mono HW2.out.size)
  have hm1 : X.heap[w2.heap.size]? = some (.cells #[.slice A2 (j + 1) c2, .int .i64 1, .int .i64 (1 + 3 * ((j : Int) + 1)), .int .i64 p2] 40 (0, 0)) := by rw [← hX]; exact heap_alloc_new w2 _
  have hb1X : Below w1.heap.size w1 X := HB1.out.trans (hbX.mono HB1.out.size)
  have hrun := run_rq M v none 0 [] (3 * ((j : Int) + 1)) X S2 S2.told S2.told.length 3 (3 * ((j : Int) + 1)) (HT.out.below hwX) ((HRD.out.below hb1X).more hb1X.size) HOK.out (RdG.nil _ _ _) (Nat.le_refl _) (by simp) (by unfold N64; omega) (by simp) (runE_fuel HM0.out (by omega) (by simp) (by simp)) HS2.out.1 rfl rfl HS2.out.2.1 HS2.out.2.2
  rw [← hX] at hrun
  refine hrun.mono ?_
  clear hrun
  rintro e w3 ⟨hb3, A3, c3, p3, rfl, hc3, -⟩
  rw [hX] at hb3
  unfold runV
  have hm3 := (hb3.block _ (Array.getElem?_eq_some_iff.1 hm1).1).trans hm1
  have hlt3 := (Array.getElem?_eq_some_iff.1 hm3).1
  have r0 : w3.cell? ⟨w2.heap.size, 0, none⟩ = some (.slice A2 (j + 1) c2) := cell_of_row _ _ 0 _ _ _ hm3
  have r1 : w3.cell? ⟨w2.heap.size, 1, none⟩ = some (.int .i64 1) := cell_of_row _ _ 1 _ _ _ hm3
  have r2 : w3.cell? ⟨w2.heap.size, 2, none⟩ = some (.int .i64 (1 + 3 * ((j : Int) + 1))) := cell_of_row _ _ 2 _ _ _ hm3
  have hrd3 := HR2.out.below (hbX.trans (hb3.mono hbX.size))
  obtain ⟨g1, o1, rfl, hg1, k1⟩ := hrd3 (by intro e; have := HT0.out; rw [intsV, List.map_eq_nil_iff] at e; rw [e] at this; cases this)
  have l0 := k1 0 _ (intsV_at .i64 HT0.out)
  have lj := k1 j _ (intsV_at .i64 HTJ.out)
  have l00 := l0
  rw [Nat.add_zero] at l00
  have hg3 : g1 < w3.heap.size := by have := hb3.size; have := hbX.size; omega
  have HW3 := Lib.hid (hwX.trans (hb3.mono hwX.size))
  have HSZ := Lib.hid HW3.out.size
  clear hb3 hm3 hm1 hb1X hwX hbX hX hrd3 k1 m0 m1 m2 m3 m4 m5
  obtain ⟨q, hq⟩ : ∃ q, S2.told.length = q := ⟨_, rfl⟩
  rw [hq]
  clear hq hc3
  go_wp2
  go_ret
  exact ⟨rfl, HW3.out.alloc HSZ.out _⟩
set_option maxRecDepth 100000 in
theorem loops_contract (H : Type) (enc : TypeId × Value → H) (W : World) (base : Nat) (args : Array Value) (ds gs : List (DataW H)) (before : List MemPlace)
    (hval : ∀ (j : Nat) t v, Tryd.f5.params[j]? = some t → args[j]? = some v → Value.okWide Tryd.prog W .any base t v)
    (hW : DataW.Whole enc Tryd.prog Tryd.f5.params.toList Rows.loopsSpec.vars false W args.toList ds gs before) (hL : laidMetH Tryd.prog Rows.loopsRow.laid W) :
    Calls Tryd.prog 5 args W fun e W' => ∃ v, e = .returned v ∧ Rows.loopsSpec.post enc Tryd.prog Tryd.f5 false true false false W args v W' := by
  have hT : Tabs W := tabs_of_laid (rest := []) hL
  have hW0 := hW
  obtain ⟨p, q, hA0, hV, rfl, hfz, hnd⟩ := hW
  have hA : DataW.TrodAll enc Tryd.prog W 0 (fun _ => true) true Tryd.f5.params.toList args.toList ds p := hA0
  rw [Tryd.params5] at hA hval
  obtain ⟨v0, vs0, d0, ds0, p0, q0, hargs, rfl, rfl, h0, r0⟩ := trodAll_cons hA
  obtain ⟨rfl, rfl, rfl⟩ := trodAll_nil r0
  obtain rfl : args = #[v0] := by cases args; simp_all
  obtain ⟨rfl, rfl⟩ := trodVars_none hV
  clear hA0
  obtain ⟨n, rfl, rfl, rfl, wn⟩ := open_int Tryd.underlying3 (hval 0 3 v0 rfl rfl) h0
  refine (loops_walk n (i64_of_wf wn) W hT).mono fun e W' ⟨he, hb⟩ => ?_
  subst he
  exact ⟨_, rfl, law_post hW0 rfl rfl (by kernel_rfl) (by kernel_rfl) hb⟩
set_option maxRecDepth 100000 in
theorem loops_met (os : Os) : laidMet Tryd.prog Rows.loopsRow.laid ((laidWorld os).forCall (fun _ _ => 0) ⟨#[], #[.int .i64 0], []⟩).memory :=
  laidMet_of_run' 8 (by kernel_rfl) (by kernel_rfl)
set_option maxRecDepth 100000 in
theorem loops_reads (os : Os) {H : Type} (enc : TypeId × Value → H) : ∃ places, DataW.whole enc Tryd.prog ((laidWorld os).forCall (fun _ _ => 0) ⟨#[], #[.int .i64 0], []⟩).memory Tryd.f5.params.toList Rows.loopsSpec.vars false (#[.int .i64 0] : Array Value).toList 8 = some ([.lit (.int .i64 0)], [], places) :=
  ⟨[], by kernel_rfl⟩
set_option maxRecDepth 100000 in
theorem loops_lifted (os : Os) (started : os.Started) (H : Type) (enc : TypeId × Value → H) (F : Stop.Interp) :
    ReturnsInHanded {} Tryd.checked os 5 .any ((OpenSpec.ofChange Rows.loopsSpec).preRow enc Tryd.prog Tryd.f5 Rows.loopsRow.domain false Rows.loopsRow.laid) (((OpenSpec.ofChange Rows.loopsSpec).at F).post enc Tryd.prog Tryd.f5 false true false false) := by
  obtain ⟨places, hx⟩ := loops_reads os enc
  refine returnsInHanded_of_row (C := Tryd.checked) (s := OpenSpec.ofChange Rows.loopsSpec) ownP started (by kernel_rfl) Tryd.func5
    (witness_row_at (enc := enc) (C := Tryd.checked) false (laidWorld os) #[.int .i64 0] rfl (by kernel_rfl) (by kernel_rfl) (by kernel_rfl)
      (OpenSpec.preRow_of_cond 8 hx (by kernel_rfl) (fun k hk => by cases hk) (by kernel_rfl) (loops_met os))) ?_
  intro W base args ds gs before hval hW _ _ _ hL _ _
  exact loops_contract H enc W base args ds gs before hval hW hL
set_option maxRecDepth 100000 in
theorem loops_said : Rows.LoopsSaid :=
  OpenClaim.holds_of_cond 5 Tryd.f5 rfl rfl rfl rfl rfl rfl rfl ⟨rfl, rfl, rfl, rfl, rfl⟩ rfl rfl rfl rfl rfl (by kernel_rfl) Tryd.func5 (by kernel_rfl)
    (of_decide_eq_true (by kernel_rfl)) (by unfold Func.isWrapper; first | (rw [if_pos (by decide +kernel)]; kernel_rfl) | (rw [if_neg (by decide +kernel)]; exact ⟨rfl, rfl⟩))
    (fun os started H enc _ F => by rw [OpenClaim.pre_eq_preRow]; exact loops_lifted os started H enc F)
set_option maxRecDepth 100000 in
theorem loops_plain (f : FuncId) (fn : Func) (hf : Tryd.pinned.checked.prog.funcNamed "bolthole/boltholekeep.Loops" = some f) (hfn : Tryd.pinned.checked.prog.funcs[f]? = some fn) :
    ∀ (j : Nat) t, fn.params[j]? = some t → Tryd.pinned.checked.prog.wantsStandIn t = false := by
  obtain rfl : f = 5 := Option.some.inj ((show Tryd.prog.funcNamed "bolthole/boltholekeep.Loops" = some 5 by kernel_rfl).symm.trans hf) |>.symm
  obtain rfl : fn = Tryd.f5 := (Option.some.inj (Tryd.func5.symm.trans hfn)).symm
  intro j t ht
  have hall : ∀ t ∈ Tryd.f5.params, Tryd.prog.wantsStandIn t = false := by
    rw [Tryd.params5]
    intro t ht
    simp only [List.mem_toArray, List.mem_cons, List.not_mem_nil, or_false] at ht
    rcases ht with rfl
    all_goals kernel_rfl
  exact hall t (Array.mem_of_getElem? ht)
set_option maxRecDepth 100000 in
theorem loops_card : Rows.LoopsCardSaid :=
  Claim7.holds_tied_plain_at .later [] _ _ _ _ loops_said (fun _ h => by cases h) (by kernel_rfl) (fun _ h => by cases h) loops_row_tie rfl ⟨rfl, rfl⟩ (by kernel_rfl) rfl (fun f fn hf hfn => ⟨by kernel_rfl, loops_plain f fn hf hfn⟩) (by kernel_rfl)
end Go.Proofs.YtgeljimckoodiaaDoor
