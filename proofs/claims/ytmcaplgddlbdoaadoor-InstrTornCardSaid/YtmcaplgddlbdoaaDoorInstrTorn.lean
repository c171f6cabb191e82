/- The given statement on InstrTorn, proved: the bytes of an instruction, cut, are no instruction: too short, or none at all. No condition of its own. -/
import Derived.Test.YtmcaplgddlbdoaaDoorLawR
import Derived.Test.YtmcaplgddlbdoaaDoorIsaJ
import Derived.Test.YtmcaplgddlbdoaaDoorPlainC
import Derived.WalkLawsBesides
namespace Go.Proofs.YtmcaplgddlbdoaaDoor
open Go.ChangeShapes Go.WideShapes Go.ChangeAt Go.RowKit Go.Joins
theorem rd_take {w : World} {g : Nat} {L : List Int} {B : Nat} (hb : ∀ x ∈ L, 0 ≤ x ∧ x < 256) (hc : ∀ j x, L[j]? = some x → w.cell? ⟨g, 0 + j, none⟩ = some (.int .u8 x)) (hg : g < B) (k : Nat) : RdB w B (some ⟨g, 0, none⟩) (L.take k) :=
  ⟨fun x hx => hb x (List.mem_of_mem_take hx), fun _ => ⟨g, 0, rfl, hg, fun j x hx => by
    rw [List.getElem?_take] at hx
    split at hx
    · exact hc j x hx
    · cases hx⟩⟩
set_option maxHeartbeats 4000000 in
set_option maxRecDepth 100000 in
theorem instrTorn_walk (r : RawI) (hr : r.ok) (l : Bool) (c : Int) (hcI : I64 c) (w : World) (hT : Tabs w) : Calls Tryd.prog 5 #[.agg #[.int .i64 r.k, .int .i64 r.a, .int .i64 r.b, .int .i64 r.c], .bool l, .int .i64 c] w fun e w' =>
    e = .returned (.bool true) ∧ Below w.heap.size w w' := by
  have ha := anyI_ok r l
  obtain ⟨I, hI⟩ : ∃ I, anyI r l = I := ⟨_, rfl⟩
  have any0 : ∀ w1, Calls Tryd.prog 10 #[.agg #[.int .i64 r.k, .int .i64 r.a, .int .i64 r.b, .int .i64 r.c], .bool l] w1 fun e w' => e = .returned (.agg I.cells) ∧ Below w1.heap.size w1 w' := fun w1 => by rw [← hI]; exact any_any r l hr w1
  rw [hI] at ha
  have A0 := Lib.hid any0
  have hC := Lib.hid ha
  obtain ⟨hp0, hp1⟩ := enc_pos ha
  have hby := Lib.hid (enc_bytes ha)
  clear any0 hI ha
  obtain ⟨n, hn⟩ : ∃ n, I.enc.length = n := ⟨_, rfl⟩
  rw [hn] at hp0 hp1
  have HN := Lib.hid hn
  clear hn
  have hpk := pickL_bd c n (by omega)
  obtain ⟨k, hk⟩ := Int.eq_ofNat_of_zero_le hpk.1
  have HK := Lib.hid hk
  have hkn : k < n := by omega
  clear hpk hk
  obtain ⟨c1, c2⟩ := hcI
  go_enter Tryd.func5, Tryd.ntmps5
  go_wp2_with fail
  refine (A0.out _).mono ?_
  rintro e w1 ⟨rfl, hb1⟩
  unfold Ins.cells
  have hB1 : Below w.heap.size w w1 := ((Below.refl _ _).alloc (Nat.le_refl _) _).trans (hb1.mono (by simp))
  have hT1 := hT.below hB1
  clear hb1
  go_wp2_with fail
  refine (encode_any I _ hT1 hC.out).mono ?_
  rintro e w2 ⟨g, cap, rfl, hcap, hg, hgz, hb2, hcell, -⟩
  rw [HN.out] at hcap ⊢
  have HC := Lib.hid hcell
  have hB2 : Below w.heap.size w w2 := hB1.trans (hb2.mono hB1.size)
  have hT2 := hT.below hB2
  clear hcell hb2 hT1
  have hmax : ¬ ((n : Int) < 1) := by omega
  go_wp2_with fail
  refine (picked_any _ _ _ c1 c2 (by omega) (by omega)).mono ?_
  rintro e w3 ⟨rfl, rfl⟩
  rw [HK.out]
  go_wp2_with fail
  refine (decode_any (I.enc.take k) _ k cap _ _ hT2 (by rw [List.length_take]; have := HN.out; omega) (rd_take hby.out HC.out hgz k) (by omega) (by omega)).mono ?_
  rintro e w4 ⟨rfl, hb4⟩
  have hB4 : Below w.heap.size w w4 := hB2.trans (hb4.mono hB2.size)
  have hz4 := hB4.size
  clear hb4 hT2 hT
  by_cases hk0 : k = 0
  · have hd : decB (I.enc.take k) 0 = (Ins.zero, 0, 2) := by rw [hk0]; rfl
    rw [hd]
    clear hd
    have hk00 : ((k : Int) == 0) = true := by simp [hk0]
    have hb5 : ∀ X, Below w.heap.size w (w4.alloc X) := fun X => hB4.alloc hz4 X
    unfold decV Ins.cells Ins.zero
    go_wp2
    go_ret
    exact ⟨rfl, hb5 _⟩
  · have hd : decB (I.enc.take k) 0 = (Ins.zero, 0, 5) := dec_cut hC.out k (by omega) (by rw [HN.out]; exact hkn)
    rw [hd]
    clear hd
    have hk00 : ((k : Int) == 0) = false := by simp; omega
    have hb5 : ∀ X, Below w.heap.size w (w4.alloc X) := fun X => hB4.alloc hz4 X
    unfold decV Ins.cells Ins.zero
    go_wp2
    go_ret
    exact ⟨rfl, hb5 _⟩
theorem instrTorn_contract (H : Type) (enc : TypeId × Value → H) (W : World) (base : Nat) (args : Array Value) (ds gs : List (DataW H)) (before : List MemPlace)
    (hval : ∀ (j : Nat) t v, Tryd.f5.params[j]? = some t → args[j]? = some v → Value.okWide Tryd.prog W .any base t v)
    (hW : DataW.Whole enc Tryd.prog Tryd.f5.params.toList Rows.instrTornSpec.vars false W args.toList ds gs before) (hL : laidMetH Tryd.prog Rows.instrTornRow.laid W) :
    Calls Tryd.prog 5 args W fun e W' => ∃ v, e = .returned v ∧ Rows.instrTornSpec.post enc Tryd.prog Tryd.f5 false true false false W args v W' := by
  have hT : Tabs W := tabs_of_laid (rest := []) hL
  have hW0 := hW
  obtain ⟨p, q, hA0, hV, rfl, hfz, hnd⟩ := hW
  have hA : DataW.TrodAll enc Tryd.prog W 0 (fun _ => true) true Tryd.f5.params.toList args.toList ds p := hA0
  rw [Tryd.params5] at hA hval
  obtain ⟨v0, vs0, d0, ds0, p0, q0, hargs, rfl, rfl, h0, r0⟩ := trodAll_cons hA
  obtain ⟨v1, vs1, d1, ds1, p1, q1, rfl, rfl, rfl, h1, r1⟩ := trodAll_cons r0
  obtain ⟨v2, vs2, d2, ds2, p2, q2, rfl, rfl, rfl, h2, r2⟩ := trodAll_cons r1
  obtain ⟨rfl, rfl, rfl⟩ := trodAll_nil r2
  obtain rfl : args = #[v0, v1, v2] := by cases args; simp_all
  obtain ⟨rfl, rfl⟩ := trodVars_none hV
  clear hA0
  obtain ⟨x, rfl, hx⟩ := open_raw (hval 0 23 v0 rfl rfl) h0
  obtain ⟨l, rfl, rfl, rfl⟩ := open_bool Tryd.underlying4 (hval 1 4 v1 rfl rfl) h1
  obtain ⟨c, rfl, rfl, rfl, wc⟩ := open_int Tryd.underlying3 (hval 2 3 v2 rfl rfl) h2
  refine (instrTorn_walk x hx l c (i64_of_wf wc) W hT).mono fun e W' ⟨he, hb⟩ => ?_
  subst he
  exact ⟨_, rfl, law_post hW0 rfl rfl (by kernel_rfl) (by kernel_rfl) hb⟩
theorem instrTorn_met (os : Os) : laidMet Tryd.prog Rows.instrTornRow.laid ((laidWorld os).forCall (fun _ _ => 0) ⟨#[], #[.agg #[.int .i64 0, .int .i64 0, .int .i64 0, .int .i64 0], .bool false, .int .i64 0], []⟩).memory :=
  laidMet_of_run' 8 (by kernel_rfl) (by kernel_rfl)
theorem instrTorn_reads (os : Os) {H : Type} (enc : TypeId × Value → H) : ∃ places, DataW.whole enc Tryd.prog ((laidWorld os).forCall (fun _ _ => 0) ⟨#[], #[.agg #[.int .i64 0, .int .i64 0, .int .i64 0, .int .i64 0], .bool false, .int .i64 0], []⟩).memory Tryd.f5.params.toList Rows.instrTornSpec.vars false (#[.agg #[.int .i64 0, .int .i64 0, .int .i64 0, .int .i64 0], .bool false, .int .i64 0] : Array Value).toList 8 = some ([.agg [.lit (.int .i64 0), .lit (.int .i64 0), .lit (.int .i64 0), .lit (.int .i64 0)], .lit (.bool false), .lit (.int .i64 0)], [], places) :=
  ⟨[], by kernel_rfl⟩
set_option maxRecDepth 100000 in
theorem instrTorn_lifted (os : Os) (started : os.Started) (H : Type) (enc : TypeId × Value → H) (F : Stop.Interp) :
    ReturnsInHanded {} Tryd.checked os 5 .any ((OpenSpec.ofChange Rows.instrTornSpec).preRow enc Tryd.prog Tryd.f5 Rows.instrTornRow.domain false Rows.instrTornRow.laid) (((OpenSpec.ofChange Rows.instrTornSpec).at F).post enc Tryd.prog Tryd.f5 false true false false) := by
  obtain ⟨places, hx⟩ := instrTorn_reads os enc
  refine returnsInHanded_of_row (C := Tryd.checked) (s := OpenSpec.ofChange Rows.instrTornSpec) ownP started (by kernel_rfl) Tryd.func5
    (witness_row_at (enc := enc) (C := Tryd.checked) false (laidWorld os) #[.agg #[.int .i64 0, .int .i64 0, .int .i64 0, .int .i64 0], .bool false, .int .i64 0] rfl (by kernel_rfl) (by kernel_rfl) (by kernel_rfl)
      (OpenSpec.preRow_of_cond 8 hx (by kernel_rfl) (fun k hk => by cases hk) (by kernel_rfl) (instrTorn_met os))) ?_
  intro W base args ds gs before hval hW _ _ _ hL _ _
  exact instrTorn_contract H enc W base args ds gs before hval hW hL
theorem instrTorn_said : Rows.InstrTornSaid :=
  OpenClaim.holds_of_cond 5 Tryd.f5 rfl rfl rfl rfl rfl rfl rfl ⟨rfl, rfl, rfl, rfl, rfl⟩ rfl rfl rfl rfl rfl (by kernel_rfl) Tryd.func5 (by kernel_rfl)
    (of_decide_eq_true (by kernel_rfl)) (by unfold Func.isWrapper; first | (rw [if_pos (by decide +kernel)]; kernel_rfl) | (rw [if_neg (by decide +kernel)]; exact ⟨rfl, rfl⟩))
    (fun os started H enc _ F => by rw [OpenClaim.pre_eq_preRow]; exact instrTorn_lifted os started H enc F)
theorem instrTorn_plain (f : FuncId) (fn : Func) (hf : Tryd.pinned.checked.prog.funcNamed "bolthole/boltholekeep.InstrTorn" = some f) (hfn : Tryd.pinned.checked.prog.funcs[f]? = some fn) :
    false = Tryd.pinned.checked.prog.looks [] ∧ ∀ (j : Nat) t, fn.params[j]? = some t → Tryd.pinned.checked.prog.wantsStandIn t = false := by
  obtain rfl : f = 5 := Option.some.inj ((show Tryd.prog.funcNamed "bolthole/boltholekeep.InstrTorn" = some 5 by kernel_rfl).symm.trans hf) |>.symm
  obtain rfl : fn = Tryd.f5 := (Option.some.inj (Tryd.func5.symm.trans hfn)).symm
  refine ⟨by kernel_rfl, fun j t ht => ?_⟩
  have hall : ∀ t ∈ Tryd.f5.params, Tryd.prog.wantsStandIn t = false := by
    rw [Tryd.params5]
    intro t ht
    simp only [List.mem_toArray, List.mem_cons, List.not_mem_nil, or_false] at ht
    rcases ht with rfl | rfl | rfl
    all_goals kernel_rfl
  exact hall t (Array.mem_of_getElem? ht)
theorem instrTorn_card : Rows.InstrTornCardSaid :=
  Claim7.holds_tied_plain_at .later [] _ _ _ _ instrTorn_said (fun _ h => by cases h) (by kernel_rfl) (fun _ h => by cases h) instrTorn_row_tie rfl ⟨rfl, rfl⟩ (by kernel_rfl) rfl instrTorn_plain (by kernel_rfl)
end Go.Proofs.YtmcaplgddlbdoaaDoor
