/- The given statement on InstrFixed, proved: what is decoded at a text's beginning has the bytes that stand there; what is refused leaves nothing. No condition of its own. -/
import Derived.Test.YtmcaplgddlbdoaaDoorLawB
import Derived.Test.YtmcaplgddlbdoaaDoorIsaK
import Derived.WalkLawsBesides
namespace Go.Proofs.YtmcaplgddlbdoaaDoor
open Go.ChangeShapes Go.WideShapes Go.ChangeAt Go.RowKit Go.Joins
theorem instrFixed_off (L : List Int) (A : Option Addr) (cap : Nat) (x : Int) (w : World) (hT : Tabs w) (hR : RdB w w.heap.size A L) (hL : L.length ≤ 140737488355328) (hcap : L.length ≤ cap) (hx : x ≠ 0) (hd : decB L 0 = (Ins.zero, 0, x)) :
    Calls Tryd.prog 4 #[.slice A L.length cap] w fun e w' => e = .returned (.bool true) ∧ Below w.heap.size w w' := by
  have HR := Lib.hid hR
  have hxb : (x != 0) = true := by simpa using hx
  have HX := Lib.hid hxb
  have HD := Lib.hid hd
  have HL := Lib.hid hL
  have HC := Lib.hid hcap
  clear hR hx hxb hd hL hcap
  go_enter Tryd.func4, Tryd.ntmps4
  go_wp2_with fail
  refine (isaReads_any _ hT).mono ?_
  rintro e w1 ⟨rfl, hb1⟩
  have hT1 := hT.below hb1
  go_wp2_with fail
  refine (decode_any L A L.length cap 0 _ hT1 rfl ((HR.out.below hb1).more hb1.size) HL.out HC.out).mono ?_
  rintro e w2 ⟨rfl, hb2⟩
  have hB2 : Below w.heap.size w w2 := hb1.trans (hb2.mono hb1.size)
  have hfin : ∀ X, Below w.heap.size w (w2.alloc X) := fun X => hB2.alloc hB2.size X
  rw [HD.out]
  unfold decV Ins.cells Ins.zero
  clear hb1 hb2 hT hT1
  have hxb := HX.out
  go_wp2
  go_ret
  exact ⟨rfl, hfin _⟩
set_option maxHeartbeats 1000000 in
set_option maxRecDepth 100000 in
theorem instrFixed_on (L : List Int) (A : Option Addr) (cap : Nat) (I : Ins) (w : World) (hT : Tabs w) (hR : RdB w w.heap.size A L) (hL : L.length ≤ 140737488355328) (hcap : L.length ≤ cap)
    (hI : I.chk = 0) (hle : I.enc.length ≤ L.length) (het : I.enc = L.take I.enc.length) (hd : decB L 0 = (I, (I.enc.length : Int), 0)) :
    Calls Tryd.prog 4 #[.slice A L.length cap] w fun e w' => e = .returned (.bool true) ∧ Below w.heap.size w w' := by
  have HR := Lib.hid hR
  have HD := Lib.hid hd
  have HL := Lib.hid hL
  have HC := Lib.hid hcap
  have HI := Lib.hid hI
  have hpos := enc_pos hI
  obtain ⟨n, hn⟩ : ∃ n, n = I.enc.length := ⟨_, rfl⟩
  rw [← hn] at hle hpos
  have HE := Lib.hid het
  have HN := Lib.hid hn
  have hln : ¬ (cap : Int) < n := by omega
  clear hR hd hL hcap hI het hn
  go_enter Tryd.func4, Tryd.ntmps4
  go_wp2_with fail
  refine (isaReads_any _ hT).mono ?_
  rintro e w1 ⟨rfl, hb1⟩
  have hT1 := hT.below hb1
  go_wp2_with fail
  refine (decode_any L A L.length cap 0 _ hT1 rfl ((HR.out.below hb1).more hb1.size) HL.out HC.out).mono ?_
  rintro e w2 ⟨rfl, hb2⟩
  have hB2 : Below w.heap.size w w2 := hb1.trans (hb2.mono hb1.size)
  have hT2 := hT.below hB2
  rw [HD.out, ← HN.out]
  unfold decV Ins.cells
  clear hb1 hb2 hT hT1
  go_wp2_with fail
  refine (encode_any I _ (hT2.alloc _) HI.out).mono ?_
  rintro e w3 ⟨g, cp, rfl, hcp, hg, hgz, hb3, hcell, -⟩
  have hB3 : Below w.heap.size w w3 := (hB2.alloc hB2.size _).trans (hb3.mono (by have := hB2.size; simp; omega))
  rw [← HN.out] at hcp ⊢
  have hR3 := (HR.out.below hB3)
  have hby := enc_bytes HI.out
  have hcv1 : ∀ q, (convert 31 9 (.slice (some ⟨g, 0, none⟩) n cp)).run Tryd.prog (w3.drewN q) = .ok (.string (strOfNums I.enc)) (w3.drewN q) := fun q =>
    run_convert_bytes_arg _ _ _ Tryd.underlying31 Tryd.underlying5 _ _ _ _ _ HN.out.symm (fun i hi => by
      have hi' : i < I.enc.length := by have := HN.out; omega
      have := hcell i _ (List.getElem?_eq_getElem hi')
      simpa [List.getD, List.getElem?_eq_getElem hi'] using this) _ Tryd.underlying9
  obtain ⟨tb, tof, rfl, htb, hc⟩ := hR3.2 (by intro e; have := hpos; simp [e] at hle; omega)
  have hcv2 : ∀ q, (convert 31 9 (.slice (some ⟨tb, tof, none⟩) n cap)).run Tryd.prog (w3.drewN q) = .ok (.string (strOfNums I.enc)) (w3.drewN q) := fun q =>
    run_convert_bytes_arg _ _ _ Tryd.underlying31 Tryd.underlying5 _ _ _ _ _ HN.out.symm (fun i hi => by
      have hi' : i < I.enc.length := by have := HN.out; omega
      have hx : L[i]? = some I.enc[i] := by
        have := congrArg (·[i]?) HE.out
        simp only [List.getElem?_take, hi', if_true, List.getElem?_eq_getElem hi'] at this
        exact this.symm
      have := hc i _ hx
      simpa [List.getD, List.getElem?_eq_getElem hi'] using this) _ Tryd.underlying9
  have H1 := Lib.hid hcv1
  have H2 := Lib.hid hcv2
  clear hcv1 hcv2 hc hR3 hcell hby hb3 hT2 hB2
  go_wp2
  have hcv1 := H1.out
  have hcv2 := H2.out
  go_quiet (fail)
  go_wp2
  go_ret
  exact ⟨by simp, below_drewN hB3 _⟩
theorem instrFixed_contract (H : Type) (enc : TypeId × Value → H) (W : World) (base : Nat) (args : Array Value) (ds gs : List (DataW H)) (before : List MemPlace)
    (hval : ∀ (j : Nat) t v, Tryd.f4.params[j]? = some t → args[j]? = some v → Value.okWide Tryd.prog W .any base t v)
    (hW : DataW.Whole enc Tryd.prog Tryd.f4.params.toList Rows.instrFixedSpec.vars false W args.toList ds gs before) (hL : laidMetH Tryd.prog Rows.instrFixedRow.laid W)
    (hz : (DataW.weightsEach Tryd.prog (Tryd.f4.params.toList ++ (OpenSpec.ofChange Rows.instrFixedSpec).bare.plain.varTypes Tryd.prog) (ds ++ gs)).all (· ≤ reachBytes) = true) :
    Calls Tryd.prog 4 args W fun e W' => ∃ v, e = .returned v ∧ Rows.instrFixedSpec.post enc Tryd.prog Tryd.f4 false true false false W args v W' := by
  have hT : Tabs W := tabs_of_laid (rest := []) hL
  have hW0 := hW
  obtain ⟨p, q, hA0, hV, rfl, hfz, hnd⟩ := hW
  have hA : DataW.TrodAll enc Tryd.prog W 0 (fun _ => true) true Tryd.f4.params.toList args.toList ds p := hA0
  rw [Tryd.params4] at hA hval
  obtain ⟨v0, vs0, d0, ds0, p0, q0, hargs, rfl, rfl, h0, r0⟩ := trodAll_cons hA
  obtain ⟨rfl, rfl, rfl⟩ := trodAll_nil r0
  obtain rfl : args = #[v0] := by cases args; simp_all
  obtain ⟨rfl, rfl⟩ := trodVars_none hV
  clear hA0
  obtain ⟨A, cap, L, rfl, hcap, hR, hd⟩ := open_bytes (hval 0 31 v0 rfl rfl) h0
  have hL : L.length ≤ 140737488355328 := by
    rcases hd with ⟨-, rfl, -⟩ | ⟨elems, spare, rfl, hl⟩
    · exact Nat.zero_le _
    · have h1 := sized_slice hz (j := 0) (t := 31) (by rw [Tryd.params4]; rfl) rfl Tryd.underlying31
      have h2 : Tryd.prog.bytesOf 5 = 1 := by kernel_rfl
      have h3 := reachBytes_lt
      rw [h2, hl] at h1
      omega
  have walk : Calls Tryd.prog 4 #[.slice A L.length cap] W fun e w' => e = .returned (.bool true) ∧ Below W.heap.size W w' := by
    rcases dec_fixed L hR.1 with ⟨x, hx, hdx⟩ | ⟨I, hI, hle, het, hdx⟩
    · exact instrFixed_off L A cap x W hT hR hL hcap hx hdx
    · exact instrFixed_on L A cap I W hT hR hL hcap hI hle het hdx
  refine (walk).mono fun e W' ⟨he, hb⟩ => ?_
  subst he
  exact ⟨_, rfl, law_post hW0 rfl rfl (by kernel_rfl) (by kernel_rfl) hb⟩
theorem instrFixed_met (os : Os) : laidMet Tryd.prog Rows.instrFixedRow.laid ((laidWorld os).forCall (fun _ _ => 0) ⟨#[], #[.slice none 0 0], []⟩).memory :=
  laidMet_of_run' 8 (by kernel_rfl) (by kernel_rfl)
theorem instrFixed_reads (os : Os) {H : Type} (enc : TypeId × Value → H) : ∃ places, DataW.whole enc Tryd.prog ((laidWorld os).forCall (fun _ _ => 0) ⟨#[], #[.slice none 0 0], []⟩).memory Tryd.f4.params.toList Rows.instrFixedSpec.vars false (#[.slice none 0 0] : Array Value).toList 8 = some ([.nil], [], places) :=
  ⟨[], by kernel_rfl⟩
set_option maxRecDepth 100000 in
theorem instrFixed_lifted (os : Os) (started : os.Started) (H : Type) (enc : TypeId × Value → H) (F : Stop.Interp) :
    ReturnsInHanded {} Tryd.checked os 4 .any ((OpenSpec.ofChange Rows.instrFixedSpec).preRow enc Tryd.prog Tryd.f4 Rows.instrFixedRow.domain false Rows.instrFixedRow.laid) (((OpenSpec.ofChange Rows.instrFixedSpec).at F).post enc Tryd.prog Tryd.f4 false true false false) := by
  obtain ⟨places, hx⟩ := instrFixed_reads os enc
  refine returnsInHanded_of_row (C := Tryd.checked) (s := OpenSpec.ofChange Rows.instrFixedSpec) ownP started (by kernel_rfl) Tryd.func4
    (witness_row_at (enc := enc) (C := Tryd.checked) false (laidWorld os) #[.slice none 0 0] rfl (by kernel_rfl) (by kernel_rfl) (by kernel_rfl)
      (OpenSpec.preRow_of_cond 8 hx (by kernel_rfl) (fun k hk => by cases hk) (by kernel_rfl) (instrFixed_met os))) ?_
  intro W base args ds gs before hval hW _ _ hreach hL _ _
  exact instrFixed_contract H enc W base args ds gs before hval hW hL hreach
theorem instrFixed_said : Rows.InstrFixedSaid :=
  OpenClaim.holds_of_cond 4 Tryd.f4 rfl rfl rfl rfl rfl rfl rfl ⟨rfl, rfl, rfl, rfl, rfl⟩ rfl rfl rfl rfl rfl (by kernel_rfl) Tryd.func4 (by kernel_rfl)
    (of_decide_eq_true (by kernel_rfl)) (by unfold Func.isWrapper; first | (rw [if_pos (by decide +kernel)]; kernel_rfl) | (rw [if_neg (by decide +kernel)]; exact ⟨rfl, rfl⟩))
    (fun os started H enc _ F => by rw [OpenClaim.pre_eq_preRow]; exact instrFixed_lifted os started H enc F)
theorem instrFixed_plain (f : FuncId) (fn : Func) (hf : Tryd.pinned.checked.prog.funcNamed "bolthole/boltholekeep.InstrFixed" = some f) (hfn : Tryd.pinned.checked.prog.funcs[f]? = some fn) :
    false = Tryd.pinned.checked.prog.looks [] ∧ ∀ (j : Nat) t, fn.params[j]? = some t → Tryd.pinned.checked.prog.wantsStandIn t = false := by
  obtain rfl : f = 4 := Option.some.inj ((show Tryd.prog.funcNamed "bolthole/boltholekeep.InstrFixed" = some 4 by kernel_rfl).symm.trans hf) |>.symm
  obtain rfl : fn = Tryd.f4 := (Option.some.inj (Tryd.func4.symm.trans hfn)).symm
  refine ⟨by kernel_rfl, fun j t ht => ?_⟩
  have hall : ∀ t ∈ Tryd.f4.params, Tryd.prog.wantsStandIn t = false := by
    rw [Tryd.params4]
    intro t ht
    simp only [List.mem_toArray, List.mem_cons, List.not_mem_nil, or_false] at ht
    rcases ht with rfl
    all_goals kernel_rfl
  exact hall t (Array.mem_of_getElem? ht)
theorem instrFixed_card : Rows.InstrFixedCardSaid :=
  Claim7.holds_tied_plain_at .later [] _ _ _ _ instrFixed_said (fun _ h => by cases h) (by kernel_rfl) (fun _ h => by cases h) instrFixed_row_tie rfl ⟨rfl, rfl⟩ (by kernel_rfl) rfl instrFixed_plain (by kernel_rfl)
end Go.Proofs.YtmcaplgddlbdoaaDoor
