/- The given statement on ImageFixed, proved: whatever bytes are decoded to an image are the very bytes that the image is encoded to; what is refused leaves nothing. No condition of its own. -/
import Derived.Test.YtdliienkbpdnbaaLawI
import Derived.Test.YtdliienkbpdnbaaEncX
import Derived.Test.YtdliienkbpdnbaaDecX
import Derived.WalkLawsBesides
namespace Go.Proofs.Ytdliienkbpdnbaa
open Go.ChangeShapes Go.WideShapes Go.ChangeAt Go.RowKit Go.Joins
set_option maxHeartbeats 1000000 in
set_option maxRecDepth 100000 in
theorem imageFixed_walk (L : List Int) (A : Option Addr) (n cap : Nat) (w : World) (hn : L.length = n) (hb : ByteL L) (hA : A = none → L = []) (hc : n ≤ cap) (hR : RdG w w.heap.size A (intsV .u8 L)) (hl : n ≤ 140737488355328) :
    Calls Try.prog 3 #[.slice A n cap] w fun e w' => e = .returned (.bool true) ∧ Below w.heap.size w w' := by
  have HD := Lib.hid (decode_any L A n cap w hn hb hA hc hR hl)
  obtain ⟨⟨m, er⟩, hmr⟩ : ∃ z, decF L = z := ⟨_, rfl⟩
  have HMR := Lib.hid hmr
  have HB := Lib.hid hb
  have HA := Lib.hid hA
  have HR := Lib.hid hR
  have HN := Lib.hid hn
  clear hb hA hR hn hmr
  go_enter Try.func3, Try.ntmps3
  go_wp2_with fail
  refine HD.out.mono ?_
  rintro e w1 ⟨hb1, v, rfl, hI, hO⟩
  rw [HMR.out] at hI hO ⊢
  simp only at hI hO ⊢
  by_cases he : er = 0
  · subst he
    obtain ⟨hck, hen⟩ := dec_enc HB.out HMR.out
    have HE : Hid (∀ W, Below w1.heap.size w1 W → Calls Try.prog 5 #[.agg (m.val v)] W (EncPost W m)) := Lib.hid fun W h => encode_any m v W ((hI.below h).more h.size) hO
    have HCK := Lib.hid hck
    have HEN := Lib.hid hen
    have HB1 := Lib.hid hb1
    clear hI hO hck hen hb1
    unfold Img.val at HE ⊢
    obtain ⟨tA, tc, fA, fc, bA, bc, dA, dc, lA, lc⟩ := v
    simp only at HE ⊢
    go_wp2_with fail
    refine (HE.out _ ((Below.refl _ _).alloc (Nat.le_refl _) _)).mono ?_
    rintro e w3 ⟨hb3, -, h3⟩
    obtain ⟨A3, c3, rfl, ho3⟩ := h3 HCK.out
    rw [HEN.out, HN.out] at ho3 ⊢
    have hB3 : Below w.heap.size w w3 := (HB1.out.alloc HB1.out.size _).trans (hb3.mono (by have := HB1.out.size; simp; omega))
    have hr3 := (own_rdgD ho3).1
    have hcv1 : (convert 22 9 (.slice A3 n c3)).run Try.prog w3 = .ok (.string (strOf L)) w3 := conv_str hr3 HB.out (fun e => own_nil ho3 e HN.out) HN.out
    have hcv2 : (convert 22 9 (.slice A n cap)).run Try.prog w3 = .ok (.string (strOf L)) w3 := conv_str (HR.out.below hB3) HB.out HA.out HN.out
    have HB3 := Lib.hid hB3
    clear hb3 ho3 hr3 hB3 h3
    go_wp2
    go_ret
    exact ⟨by simp, HB3.out⟩
  · have hz := dec_zero (b := L) (by rw [HMR.out]; exact he)
    rw [HMR.out] at hz
    simp only at hz
    subst hz
    have q1 : (er != 0) = true := by simpa using he
    have HB1 := Lib.hid hb1
    clear hI hO hb1 he
    unfold Img.val Img.zero
    obtain ⟨tA, tc, fA, fc, bA, bc, dA, dc, lA, lc⟩ := v
    simp only [List.length_nil]
    go_wp2
    go_ret
    exact ⟨rfl, HB1.out.alloc HB1.out.size _⟩
set_option maxRecDepth 100000 in
theorem imageFixed_contract (H : Type) (enc : TypeId × Value → H) (W : World) (base : Nat) (args : Array Value) (ds gs : List (DataW H)) (before : List MemPlace)
    (hval : ∀ (j : Nat) t v, Try.f3.params[j]? = some t → args[j]? = some v → Value.okWide Try.prog W .any base t v)
    (hW : DataW.Whole enc Try.prog Try.f3.params.toList Rows.imageFixedSpec.vars false W args.toList ds gs before)
    (hz : (DataW.weightsEach Try.prog (Try.f3.params.toList ++ (OpenSpec.ofChange Rows.imageFixedSpec).bare.plain.varTypes Try.prog) (ds ++ gs)).all (· ≤ reachBytes) = true) :
    Calls Try.prog 3 args W fun e W' => ∃ v, e = .returned v ∧ Rows.imageFixedSpec.post enc Try.prog Try.f3 false true false false W args v W' := by
  have hW0 := hW
  obtain ⟨p, q, hA0, hV, rfl, hfz, hnd⟩ := hW
  have hA : DataW.TrodAll enc Try.prog W 0 (fun _ => true) true Try.f3.params.toList args.toList ds p := hA0
  rw [Try.params3] at hA hval
  obtain ⟨v0, vs0, d0, ds0, p0, q0, hargs, rfl, rfl, h0, r0⟩ := trodAll_cons hA
  obtain ⟨rfl, rfl, rfl⟩ := trodAll_nil r0
  obtain rfl : args = #[v0] := by cases args; simp_all
  obtain ⟨rfl, rfl⟩ := trodVars_none hV
  clear hA0
  obtain ⟨A, cap, L, rfl, hcap, hB, hR, hnil, hd⟩ := open_bytesG (hval 0 22 v0 rfl rfl) h0
  have hL : L.length ≤ 140737488355328 := by
    rcases hd with ⟨-, rfl, -⟩ | ⟨elems, spare, rfl, hl⟩
    · exact Nat.zero_le _
    · have h1 := sized_slice hz (j := 0) (t := 22) (by rw [Try.params3]; rfl) rfl Try.underlying22
      have h2 : Try.prog.bytesOf 5 = 1 := by kernel_rfl
      have h3 := reachBytes_lt
      rw [h2, hl] at h1
      omega
  refine (imageFixed_walk L A L.length cap W rfl hB hnil hcap hR hL).mono fun e W' ⟨he, hb⟩ => ?_
  subst he
  exact ⟨_, rfl, law_post hW0 rfl rfl (by kernel_rfl) (by kernel_rfl) hb⟩
set_option maxRecDepth 100000 in
theorem imageFixed_met (os : Os) : laidMet Try.prog Rows.imageFixedRow.laid ((plainWorld os).forCall (fun _ _ => 0) ⟨#[], #[.slice none 0 0], []⟩).memory :=
  laidMet_of_run' 8 (by kernel_rfl) (by kernel_rfl)
set_option maxRecDepth 100000 in
theorem imageFixed_reads (os : Os) {H : Type} (enc : TypeId × Value → H) : ∃ places, DataW.whole enc Try.prog ((plainWorld os).forCall (fun _ _ => 0) ⟨#[], #[.slice none 0 0], []⟩).memory Try.f3.params.toList Rows.imageFixedSpec.vars false (#[.slice none 0 0] : Array Value).toList 8 = some ([.nil], [], places) :=
  ⟨[], by kernel_rfl⟩
set_option maxRecDepth 100000 in
theorem imageFixed_lifted (os : Os) (started : os.Started) (H : Type) (enc : TypeId × Value → H) (F : Stop.Interp) :
    ReturnsInHanded {} Try.checked os 3 .any ((OpenSpec.ofChange Rows.imageFixedSpec).preRow enc Try.prog Try.f3 Rows.imageFixedRow.domain false Rows.imageFixedRow.laid) (((OpenSpec.ofChange Rows.imageFixedSpec).at F).post enc Try.prog Try.f3 false true false false) := by
  obtain ⟨places, hx⟩ := imageFixed_reads os enc
  refine returnsInHanded_of_row (C := Try.checked) (s := OpenSpec.ofChange Rows.imageFixedSpec) ownP started (by kernel_rfl) Try.func3
    (witness_row_at (enc := enc) (C := Try.checked) false (plainWorld os) #[.slice none 0 0] rfl (by kernel_rfl) (by kernel_rfl) (by kernel_rfl)
      (OpenSpec.preRow_of_cond 8 hx (by kernel_rfl) (fun k hk => by cases hk) (by kernel_rfl) (imageFixed_met os))) ?_
  intro W base args ds gs before hval hW _ _ hreach _ _ _
  exact imageFixed_contract H enc W base args ds gs before hval hW hreach
set_option maxRecDepth 100000 in
theorem imageFixed_said : Rows.ImageFixedSaid :=
  OpenClaim.holds_of_cond 3 Try.f3 rfl rfl rfl rfl rfl rfl rfl ⟨rfl, rfl, rfl, rfl, rfl⟩ rfl rfl rfl rfl rfl (by kernel_rfl) Try.func3 (by kernel_rfl)
    (of_decide_eq_true (by kernel_rfl)) (by unfold Func.isWrapper; first | (rw [if_pos (by decide +kernel)]; kernel_rfl) | (rw [if_neg (by decide +kernel)]; exact ⟨rfl, rfl⟩))
    (fun os started H enc _ F => by rw [OpenClaim.pre_eq_preRow]; exact imageFixed_lifted os started H enc F)
end Go.Proofs.Ytdliienkbpdnbaa
