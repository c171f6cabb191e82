/- The given statement on FirstBytes, proved: no two kinds begin with one byte, long ones neither. No condition of its own. -/
import Derived.Test.YtmcaplgddlbdoaaDoorLawR
import Derived.Test.YtmcaplgddlbdoaaDoorIsaJ
import Derived.Test.YtmcaplgddlbdoaaDoorPlainC
import Derived.WalkLawsBesides
namespace Go.Proofs.YtmcaplgddlbdoaaDoor
open Go.ChangeShapes Go.WideShapes Go.ChangeAt Go.RowKit Go.Joins
open Go.ChangeMaps (open_string)
/-- the instruction that FirstBytes makes of a number -/
def firstI (n : Int) : Ins := if 24 ≤ pickL n 29 then ⟨18 + pickL n 29 - 24, 0, 0, 0, 0, true⟩ else ⟨1 + pickL n 24, 0, 0, 0, 0, false⟩
def zeros5 (k : Int) (l : Bool) : Prop := chk k 0 0 0 0 l = 0 ∧ [opL k l, 0, 0, 0, 0] = encB k 0 0 0 0 l ++ [opL k l, 0, 0, 0, 0].drop (encB k 0 0 0 0 l).length
theorem short_ok (k : Int) (h1 : 1 ≤ k) (h2 : k ≤ 24) : zeros5 k false := fin25 (p := fun k => zeros5 k false) (by unfold zeros5; decide +kernel) k h1 h2
theorem long_ok (k : Int) (h1 : 18 ≤ k) (h2 : k ≤ 22) : zeros5 k true := by
  have : ∀ n : Fin 25, 18 ≤ n.val ∧ n.val ≤ 22 → zeros5 (n.val : Int) true := by unfold zeros5; decide +kernel
  obtain ⟨n, rfl⟩ := Int.eq_ofNat_of_zero_le (show 0 ≤ k by omega)
  exact this ⟨n, by omega⟩ (by simp; omega)
theorem firstI_ok (n : Int) : ∃ k l, firstI n = ⟨k, 0, 0, 0, 0, l⟩ ∧ zeros5 k l := by
  have h1 := pickL_bd n 29 (by decide)
  have h2 := pickL_bd n 24 (by decide)
  unfold firstI
  split
  · exact ⟨_, _, rfl, long_ok _ (by omega) (by omega)⟩
  · exact ⟨_, _, rfl, short_ok _ (by omega) (by omega)⟩
theorem first_dec (k : Int) (l : Bool) (h : zeros5 k l) : decB [opL k l, 0, 0, 0, 0] 0 = (⟨k, 0, 0, 0, 0, l⟩, ((encB k 0 0 0 0 l).length : Int), 0) := by
  have := dec_enc [] ([opL k l, 0, 0, 0, 0].drop (encB k 0 0 0 0 l).length) (i := ⟨k, 0, 0, 0, 0, l⟩) h.1
  have e : ([] : List Int) ++ (Ins.enc ⟨k, 0, 0, 0, 0, l⟩) ++ [opL k l, 0, 0, 0, 0].drop (encB k 0 0 0 0 l).length = [opL k l, 0, 0, 0, 0] := by rw [List.nil_append]; exact h.2.symm
  rw [e] at this
  exact this
set_option maxHeartbeats 1000000 in
set_option maxRecDepth 100000 in
theorem first_any (n : Int) (hn : I64 n) (w : World) (hT : Tabs w) : Calls Tryd.prog 16 #[.int .i64 n] w fun e w' => e = .returned (.int .u8 (opL (firstI n).k (firstI n).l)) ∧ Below w.heap.size w w' := by
  obtain ⟨n1, n2⟩ := hn
  have h1 := pickL_bd n 29 (by decide)
  have h2 := pickL_bd n 24 (by decide)
  by_cases h : 24 ≤ pickL n 29
  · have hF : firstI n = ⟨18 + pickL n 29 - 24, 0, 0, 0, 0, true⟩ := by unfold firstI; rw [if_pos h]
    rw [hF]
    have hz := long_ok (18 + pickL n 29 - 24) (by omega) (by omega)
    have HZ := Lib.hid hz
    clear hz hF
    go_enter Tryd.func16, Tryd.ntmps16
    go_wp2_with (go_at_call 15; refine (picked_any _ _ _ n1 n2 (by decide) (by decide)).mono ?_; rintro e w3 ⟨rfl, rfl⟩)
    refine (encode_any ⟨18 + pickL n 29 - 24, 0, 0, 0, 0, true⟩ _ (hT.alloc _) HZ.out.1).mono ?_
    rintro e w2 ⟨g, cap, rfl, hcap, hg, hgz, hb2, hcell, -⟩
    have c0 := hcell 0 _ rfl
    have hB2 : Below w.heap.size w w2 := ((Below.refl _ _).alloc (Nat.le_refl _) _).trans (hb2.mono (by simp))
    have hlen : ((Ins.enc ⟨18 + pickL n 29 - 24, 0, 0, 0, 0, true⟩).length : Int) ≥ 1 := by have := (enc_pos (i := ⟨18 + pickL n 29 - 24, 0, 0, 0, 0, true⟩) HZ.out.1).1; omega
    clear hcell hb2 hT hcap
    generalize (Ins.enc ⟨18 + pickL n 29 - 24, 0, 0, 0, 0, true⟩).length = m at *
    have hm0 : ((m : Int) == 0) = false := by simp; omega
    go_wp2
    go_ret
    exact ⟨rfl, hB2⟩
  · have hF : firstI n = ⟨1 + pickL n 24, 0, 0, 0, 0, false⟩ := by unfold firstI; rw [if_neg h]
    rw [hF]
    have hz := short_ok (1 + pickL n 24) (by omega) (by omega)
    have HZ := Lib.hid hz
    clear hz hF
    go_enter Tryd.func16, Tryd.ntmps16
    go_wp2_with (go_at_call 15; refine (picked_any _ _ _ n1 n2 (by decide) (by decide)).mono ?_; rintro e w3 ⟨rfl, rfl⟩)
    refine (encode_any ⟨1 + pickL n 24, 0, 0, 0, 0, false⟩ _ (hT.alloc _) HZ.out.1).mono ?_
    rintro e w2 ⟨g, cap, rfl, hcap, hg, hgz, hb2, hcell, -⟩
    have c0 := hcell 0 _ rfl
    have hB2 : Below w.heap.size w w2 := ((Below.refl _ _).alloc (Nat.le_refl _) _).trans (hb2.mono (by simp))
    have hlen : ((Ins.enc ⟨1 + pickL n 24, 0, 0, 0, 0, false⟩).length : Int) ≥ 1 := by have := (enc_pos (i := ⟨1 + pickL n 24, 0, 0, 0, 0, false⟩) HZ.out.1).1; omega
    clear hcell hb2 hT hcap
    generalize (Ins.enc ⟨1 + pickL n 24, 0, 0, 0, 0, false⟩).length = m at *
    have hm0 : ((m : Int) == 0) = false := by simp; omega
    go_wp2
    go_ret
    exact ⟨rfl, hB2⟩
set_option maxHeartbeats 1000000 in
set_option maxRecDepth 100000 in
theorem firstBytes_walk (a b : Int) (ha : I64 a) (hb : I64 b) (w : World) (hT : Tabs w) : Calls Tryd.prog 6 #[.int .i64 a, .int .i64 b] w fun e w' => e = .returned (.bool true) ∧ Below w.heap.size w w' := by
  obtain ⟨k, l, hF, hz⟩ := firstI_ok a
  obtain ⟨k', l', hF', hz'⟩ := firstI_ok b
  have A1 : ∀ w, Tabs w → Calls Tryd.prog 16 #[.int .i64 a] w fun e w' => e = .returned (.int .u8 (opL k l)) ∧ Below w.heap.size w w' := fun w hT => by have := first_any a ha w hT; rw [hF] at this; exact this
  have A2 : ∀ w, Tabs w → Calls Tryd.prog 16 #[.int .i64 b] w fun e w' => e = .returned (.int .u8 (opL k' l')) ∧ Below w.heap.size w w' := fun w hT => by have := first_any b hb w hT; rw [hF'] at this; exact this
  have hk := (chk_zero.1 hz.1).1
  have hk' := (chk_zero.1 hz'.1).1
  have ho := op_bd k hk.1 hk.2 l
  have ho' := op_bd k' hk'.1 hk'.2 l'
  have H1 := Lib.hid A1
  have H2 := Lib.hid A2
  have HD := Lib.hid (first_dec k l hz)
  have HF := Lib.hid hF
  clear A1 A2 hF hF' hz hz' hk hk'
  generalize opL k l = op at *
  generalize opL k' l' = op' at *
  obtain ⟨n1, n2⟩ := ha
  have h1 := pickL_bd a 29 (by decide)
  have h2 := pickL_bd a 24 (by decide)
  go_enter Tryd.func6, Tryd.ntmps6
  go_wp2_with fail
  refine (H1.out _ hT).mono ?_
  rintro e w1 ⟨rfl, hb1⟩
  have hT1 := hT.below hb1
  go_wp2_with fail
  refine (H2.out _ hT1).mono ?_
  rintro e w2 ⟨rfl, hb2⟩
  have hB2 : Below w.heap.size w w2 := hb1.trans (hb2.mono hb1.size)
  have hT2 := hT.below hB2
  clear hb1 hb2 hT1 hT
  by_cases h : 24 ≤ pickL a 29
  · have hF := HF.out
    unfold firstI at hF
    rw [if_pos h] at hF
    simp only [Ins.mk.injEq, true_and] at hF
    obtain ⟨rfl, rfl⟩ := hF
    go_wp2_with (go_at_call 15; refine (picked_any _ _ _ n1 n2 (by decide) (by decide)).mono ?_; rintro e w3 ⟨rfl, rfl⟩)
    have hq : 18 + pickL a 29 - 24 < 23 := by omega
    generalize 18 + pickL a 29 - 24 = k at *
    refine (decode_any [op, 0, 0, 0, 0] _ _ _ _ _ ((hT2.alloc _).alloc _) rfl ⟨by simp; omega, fun _ => ⟨w2.heap.size + 1, 0, rfl, by simp, fun j x hx => ?hc1⟩⟩ (by simp) (by simp)).mono ?_
    case hc1 =>
      match j, hx with
      | 0, hx => cases hx; go_simp
      | 1, hx => cases hx; go_simp
      | 2, hx => cases hx; go_simp
      | 3, hx => cases hx; go_simp
      | 4, hx => cases hx; go_simp
      | j + 5, hx => simp at hx
    rintro e w4 ⟨rfl, hb4⟩
    rw [HD.out]
    unfold decV Ins.cells
    have hz4 : w2.heap.size + 1 < w4.heap.size := by have := hb4.size; simp at this; omega
    have hc4 : ∀ b o, b < w2.heap.size + 1 → w4.cell? ⟨b, o, none⟩ = ((w2.alloc (.cells #[.int .i64 k, .int .i64 0, .int .i64 0, .int .i64 0, .int .i64 0, .bool true] 25)).cell? ⟨b, o, none⟩) := fun b o h => (hb4.cell (p := ⟨b, o, none⟩) (by simp; omega)).trans (by go_simp)
    have t0 : w4.cell? ⟨w2.heap.size, 0, none⟩ = some (.int .i64 k) := (hc4 _ _ (by omega)).trans (by go_simp)
    have t1 : w4.cell? ⟨w2.heap.size, 1, none⟩ = some (.int .i64 0) := (hc4 _ _ (by omega)).trans (by go_simp)
    have t2 : w4.cell? ⟨w2.heap.size, 2, none⟩ = some (.int .i64 0) := (hc4 _ _ (by omega)).trans (by go_simp)
    have t3 : w4.cell? ⟨w2.heap.size, 3, none⟩ = some (.int .i64 0) := (hc4 _ _ (by omega)).trans (by go_simp)
    have t4 : w4.cell? ⟨w2.heap.size, 4, none⟩ = some (.int .i64 0) := (hc4 _ _ (by omega)).trans (by go_simp)
    have t5 : w4.cell? ⟨w2.heap.size, 5, none⟩ = some (.bool true) := (hc4 _ _ (by omega)).trans (by go_simp)
    have hB4 : Below w.heap.size w w4 := ((hB2.alloc hB2.size _).alloc (by have := hB2.size; simp; omega) _).trans (hb4.mono (by have := hB2.size; simp; omega))
    have hB5 : ∀ X, Below w.heap.size w (w4.alloc X) := fun X => hB4.alloc hB4.size X
    have hlt : w2.heap.size < w4.heap.size := by omega
    clear hb4 hc4 hT2 HD HF H1 H2
    go_wp2
    go_ret
    exact ⟨by simp, hB5 _⟩
  · have hF := HF.out
    unfold firstI at hF
    rw [if_neg h] at hF
    simp only [Ins.mk.injEq, true_and] at hF
    obtain ⟨rfl, rfl⟩ := hF
    go_wp2_with (go_at_call 15; refine (picked_any _ _ _ n1 n2 (by decide) (by decide)).mono ?_; rintro e w3 ⟨rfl, rfl⟩)
    have hq : 1 + pickL a 24 < 25 := by omega
    generalize 1 + pickL a 24 = k at *
    refine (decode_any [op, 0, 0, 0, 0] _ _ _ _ _ ((hT2.alloc _).alloc _) rfl ⟨by simp; omega, fun _ => ⟨w2.heap.size + 1, 0, rfl, by simp, fun j x hx => ?hc2⟩⟩ (by simp) (by simp)).mono ?_
    case hc2 =>
      match j, hx with
      | 0, hx => cases hx; go_simp
      | 1, hx => cases hx; go_simp
      | 2, hx => cases hx; go_simp
      | 3, hx => cases hx; go_simp
      | 4, hx => cases hx; go_simp
      | j + 5, hx => simp at hx
    rintro e w4 ⟨rfl, hb4⟩
    rw [HD.out]
    unfold decV Ins.cells
    have hz4 : w2.heap.size + 1 < w4.heap.size := by have := hb4.size; simp at this; omega
    have hc4 : ∀ b o, b < w2.heap.size + 1 → w4.cell? ⟨b, o, none⟩ = ((w2.alloc (.cells #[.int .i64 k, .int .i64 0, .int .i64 0, .int .i64 0, .int .i64 0, .bool false] 25)).cell? ⟨b, o, none⟩) := fun b o h => (hb4.cell (p := ⟨b, o, none⟩) (by simp; omega)).trans (by go_simp)
    have t0 : w4.cell? ⟨w2.heap.size, 0, none⟩ = some (.int .i64 k) := (hc4 _ _ (by omega)).trans (by go_simp)
    have t1 : w4.cell? ⟨w2.heap.size, 1, none⟩ = some (.int .i64 0) := (hc4 _ _ (by omega)).trans (by go_simp)
    have t2 : w4.cell? ⟨w2.heap.size, 2, none⟩ = some (.int .i64 0) := (hc4 _ _ (by omega)).trans (by go_simp)
    have t3 : w4.cell? ⟨w2.heap.size, 3, none⟩ = some (.int .i64 0) := (hc4 _ _ (by omega)).trans (by go_simp)
    have t4 : w4.cell? ⟨w2.heap.size, 4, none⟩ = some (.int .i64 0) := (hc4 _ _ (by omega)).trans (by go_simp)
    have t5 : w4.cell? ⟨w2.heap.size, 5, none⟩ = some (.bool false) := (hc4 _ _ (by omega)).trans (by go_simp)
    have hB4 : Below w.heap.size w w4 := ((hB2.alloc hB2.size _).alloc (by have := hB2.size; simp; omega) _).trans (hb4.mono (by have := hB2.size; simp; omega))
    have hB5 : ∀ X, Below w.heap.size w (w4.alloc X) := fun X => hB4.alloc hB4.size X
    have hlt : w2.heap.size < w4.heap.size := by omega
    clear hb4 hc4 hT2 HD HF H1 H2
    go_wp2
    go_ret
    exact ⟨by simp, hB5 _⟩
theorem firstBytes_contract (H : Type) (enc : TypeId × Value → H) (W : World) (base : Nat) (args : Array Value) (ds gs : List (DataW H)) (before : List MemPlace)
    (hval : ∀ (j : Nat) t v, Tryd.f6.params[j]? = some t → args[j]? = some v → Value.okWide Tryd.prog W .any base t v)
    (hW : DataW.Whole enc Tryd.prog Tryd.f6.params.toList Rows.firstBytesSpec.vars false W args.toList ds gs before) (hL : laidMetH Tryd.prog Rows.firstBytesRow.laid W) :
    Calls Tryd.prog 6 args W fun e W' => ∃ v, e = .returned v ∧ Rows.firstBytesSpec.post enc Tryd.prog Tryd.f6 false true false false W args v W' := by
  have hT : Tabs W := tabs_of_laid (rest := []) hL
  have hW0 := hW
  obtain ⟨p, q, hA0, hV, rfl, hfz, hnd⟩ := hW
  have hA : DataW.TrodAll enc Tryd.prog W 0 (fun _ => true) true Tryd.f6.params.toList args.toList ds p := hA0
  rw [Tryd.params6] at hA hval
  obtain ⟨v0, vs0, d0, ds0, p0, q0, hargs, rfl, rfl, h0, r0⟩ := trodAll_cons hA
  obtain ⟨v1, vs1, d1, ds1, p1, q1, rfl, rfl, rfl, h1, r1⟩ := trodAll_cons r0
  obtain ⟨rfl, rfl, rfl⟩ := trodAll_nil r1
  obtain rfl : args = #[v0, v1] := by cases args; simp_all
  obtain ⟨rfl, rfl⟩ := trodVars_none hV
  clear hA0
  obtain ⟨a, rfl, rfl, rfl, wa⟩ := open_int Tryd.underlying3 (hval 0 3 v0 rfl rfl) h0
  obtain ⟨b, rfl, rfl, rfl, wb⟩ := open_int Tryd.underlying3 (hval 1 3 v1 rfl rfl) h1
  refine (firstBytes_walk a b (i64_of_wf wa) (i64_of_wf wb) W hT).mono fun e W' ⟨he, hb⟩ => ?_
  subst he
  exact ⟨_, rfl, law_post hW0 rfl rfl (by kernel_rfl) (by kernel_rfl) hb⟩
theorem firstBytes_met (os : Os) : laidMet Tryd.prog Rows.firstBytesRow.laid ((laidWorld os).forCall (fun _ _ => 0) ⟨#[], #[.int .i64 0, .int .i64 0], []⟩).memory :=
  laidMet_of_run' 8 (by kernel_rfl) (by kernel_rfl)
theorem firstBytes_reads (os : Os) {H : Type} (enc : TypeId × Value → H) : ∃ places, DataW.whole enc Tryd.prog ((laidWorld os).forCall (fun _ _ => 0) ⟨#[], #[.int .i64 0, .int .i64 0], []⟩).memory Tryd.f6.params.toList Rows.firstBytesSpec.vars false (#[.int .i64 0, .int .i64 0] : Array Value).toList 8 = some ([.lit (.int .i64 0), .lit (.int .i64 0)], [], places) :=
  ⟨[], by kernel_rfl⟩
set_option maxRecDepth 100000 in
theorem firstBytes_lifted (os : Os) (started : os.Started) (H : Type) (enc : TypeId × Value → H) (F : Stop.Interp) :
    ReturnsInHanded {} Tryd.checked os 6 .any ((OpenSpec.ofChange Rows.firstBytesSpec).preRow enc Tryd.prog Tryd.f6 Rows.firstBytesRow.domain false Rows.firstBytesRow.laid) (((OpenSpec.ofChange Rows.firstBytesSpec).at F).post enc Tryd.prog Tryd.f6 false true false false) := by
  obtain ⟨places, hx⟩ := firstBytes_reads os enc
  refine returnsInHanded_of_row (C := Tryd.checked) (s := OpenSpec.ofChange Rows.firstBytesSpec) ownP started (by kernel_rfl) Tryd.func6
    (witness_row_at (enc := enc) (C := Tryd.checked) false (laidWorld os) #[.int .i64 0, .int .i64 0] rfl (by kernel_rfl) (by kernel_rfl) (by kernel_rfl)
      (OpenSpec.preRow_of_cond 8 hx (by kernel_rfl) (fun k hk => by cases hk) (by kernel_rfl) (firstBytes_met os))) ?_
  intro W base args ds gs before hval hW _ _ _ hL _ _
  exact firstBytes_contract H enc W base args ds gs before hval hW hL
theorem firstBytes_said : Rows.FirstBytesSaid :=
  OpenClaim.holds_of_cond 6 Tryd.f6 rfl rfl rfl rfl rfl rfl rfl ⟨rfl, rfl, rfl, rfl, rfl⟩ rfl rfl rfl rfl rfl (by kernel_rfl) Tryd.func6 (by kernel_rfl)
    (of_decide_eq_true (by kernel_rfl)) (by unfold Func.isWrapper; first | (rw [if_pos (by decide +kernel)]; kernel_rfl) | (rw [if_neg (by decide +kernel)]; exact ⟨rfl, rfl⟩))
    (fun os started H enc _ F => by rw [OpenClaim.pre_eq_preRow]; exact firstBytes_lifted os started H enc F)
theorem firstBytes_plain (f : FuncId) (fn : Func) (hf : Tryd.pinned.checked.prog.funcNamed "bolthole/boltholekeep.FirstBytes" = some f) (hfn : Tryd.pinned.checked.prog.funcs[f]? = some fn) :
    false = Tryd.pinned.checked.prog.looks [] ∧ ∀ (j : Nat) t, fn.params[j]? = some t → Tryd.pinned.checked.prog.wantsStandIn t = false := by
  obtain rfl : f = 6 := Option.some.inj ((show Tryd.prog.funcNamed "bolthole/boltholekeep.FirstBytes" = some 6 by kernel_rfl).symm.trans hf) |>.symm
  obtain rfl : fn = Tryd.f6 := (Option.some.inj (Tryd.func6.symm.trans hfn)).symm
  refine ⟨by kernel_rfl, fun j t ht => ?_⟩
  have hall : ∀ t ∈ Tryd.f6.params, Tryd.prog.wantsStandIn t = false := by
    rw [Tryd.params6]
    intro t ht
    simp only [List.mem_toArray, List.mem_cons, List.not_mem_nil, or_false] at ht
    rcases ht with rfl | rfl
    all_goals kernel_rfl
  exact hall t (Array.mem_of_getElem? ht)
theorem firstBytes_card : Rows.FirstBytesCardSaid :=
  Claim7.holds_tied_plain_at .later [] _ _ _ _ firstBytes_said (fun _ h => by cases h) (by kernel_rfl) (fun _ h => by cases h) firstBytes_row_tie rfl ⟨rfl, rfl⟩ (by kernel_rfl) rfl firstBytes_plain (by kernel_rfl)
end Go.Proofs.YtmcaplgddlbdoaaDoor
