/- The given statement on Lost, proved: where no code stands a run is stopped, there. No condition of its own. -/
import Derived.Test.YtlekjnnofhjgjaaDoorLawS
import Derived.Test.YtlekjnnofhjgjaaDoorRunW
import Derived.Test.YtlekjnnofhjgjaaDoorFlowN
import Derived.Deep.QuietTactic
import Derived.BigQuiet
import Derived.IntWalk
import Derived.WalkLawsBesides
namespace Go.Proofs.YtlekjnnofhjgjaaDoor
open Go.ChangeShapes Go.WideShapes Go.ChangeAt Go.RowKit Go.Joins
open Go.ChangeMaps (open_string)
theorem Blk.rdg {w : World} {g : Nat} {T : TypeId} {cs : List Value} (h : Blk w g T cs) : RdG w w.heap.size (some ⟨g, 0, none⟩) cs := fun _ => ⟨g, 0, rfl, h.lt, fun j v hv => by rw [Nat.zero_add]; exact h.cell j hv⟩
theorem Blk.new3 (w : World) (o1 o2 : Obj) (cs : List Value) (t : TypeId) : Blk (((w.alloc o1).alloc o2).alloc (.cells cs.toArray t)) (w.heap.size + 1 + 1) t cs := by
  have h := Blk.new2 (w.alloc o1) o2 cs t
  rw [show (w.alloc o1).heap.size = w.heap.size + 1 by simp] at h
  exact h
def lostM (k : Nat) : Img := ⟨[97, 3 + (k : Int), 0], [⟨⟨#[102]⟩, 0, 3⟩], [], [], [], 0⟩
theorem lost_facts : ∀ k : Nat, k < 100 → checkE (lostM k) = 0 ∧ (recL (lostM k)).isSome = false ∧ runE (lostM k) [] 10 = 0 ∧ (runS (lostM k) [] 10).told = [] ∧ (runS (lostM k) [] 10).en = 2 ∧ (runS (lostM k) [] 10).steps = 1 ∧ (runS (lostM k) [] 10).pc = 3 + (k : Int) := by decide +kernel
theorem lost_ok (k : Nat) (hk : k < 100) (b : Nat) : ImgOk (lostM k) ⟨some ⟨b, 0, none⟩, 3, some ⟨b + 1, 0, none⟩, 1, none, 0, none, 0, none, 0⟩ := by
  refine ⟨by simp [lostM], by simp [lostM], by simp [lostM], by simp [lostM], by simp [lostM], Nat.le_refl _, Nat.le_refl _, Nat.le_refl _, Nat.le_refl _, Nat.le_refl _, ?_, ?_, fun t h => (by cases h), fun t h => (by cases h), fun t h => (by cases h), by unfold N64 lostM; simp⟩
  · intro x hx
    simp only [lostM, List.mem_cons, List.not_mem_nil, or_false] at hx
    omega
  · intro f hf
    simp only [lostM, List.mem_cons, List.not_mem_nil, or_false] at hf
    subst hf
    exact ⟨by unfold N64; decide, by unfold N64; decide, by decide⟩
set_option maxHeartbeats 8000000 in
set_option maxRecDepth 100000 in
theorem lost_walk (n : Int) (hn : N64 n) (w : World) (hT : Tabs w) : Calls Tryd.prog 3 #[.int .i64 n] w fun e w' => e = .returned (.bool true) ∧ Below w.heap.size w w' := by
  obtain ⟨n1, n2⟩ := hn
  have PN := Lib.hid (fun W => picked_any n 100 W n1 n2 (by decide) (by decide))
  have HT := Lib.hid hT
  clear hT
  have v1 := pickL_bd n 100 (by decide)
  obtain ⟨j', wj⟩ : ∃ x, pickL n 100 = x := ⟨_, rfl⟩
  rw [wj] at v1 PN
  obtain ⟨k, rfl⟩ := Int.eq_ofNat_of_zero_le v1.1
  have hk : k < 100 := by omega
  obtain ⟨f1, f2, f3, f4, f5, f6, f7⟩ := lost_facts k hk
  have F1 := Lib.hid f1
  have F2 := Lib.hid f2
  have F3 := Lib.hid f3
  have F4 := Lib.hid f4
  have F5 := Lib.hid f5
  have F6 := Lib.hid f6
  have F7 := Lib.hid f7
  have hw1 : IntKind.u8.wrap (3 + (k : Int)) = 3 + (k : Int) := IntWalk.u8_in _ (by omega)
  clear f1 f2 f3 f4 f5 f6 f7 wj v1
  go_enter Tryd.func3, Tryd.ntmps3
  go_wp2_with fail
  refine (PN.out _).mono ?_
  rintro e wp ⟨rfl, rfl⟩
  go_upto_region 3 with fail
  obtain ⟨W, hW⟩ : ∃ z, ((w.alloc (.cells #[.int .u8 97, .int .u8 (3 + (k : Int)), .int .u8 0] 5)).alloc (.cells #[.string ⟨#[102]⟩, .int .i64 0, .int .i64 3] 25)).alloc (.cells #[.slice (some ⟨w.heap.size, 0, none⟩) 3 3, .slice (some ⟨w.heap.size + 1, 0, none⟩) 1 1, .slice none 0 0, .slice none 0 0, .slice none 0 0, .int .i64 0] 31) = z := ⟨_, rfl⟩
  rw [hW]
  have ht : Blk W w.heap.size 5 (intsV .u8 (lostM k).text) := by rw [← hW]; exact ((Blk.new w _ _).alloc _).alloc _
  have hf : Blk W (w.heap.size + 1) 25 (funcsV (lostM k).funcs) := by rw [← hW]; exact (Blk.new2 w _ _ _).alloc _
  have hm : Blk W (w.heap.size + 1 + 1) 31 [.slice (some ⟨w.heap.size, 0, none⟩) 3 3, .slice (some ⟨w.heap.size + 1, 0, none⟩) 1 1, .slice none 0 0, .slice none 0 0, .slice none 0 0, .int .i64 0] := by rw [← hW]; exact Blk.new3 w _ _ _ _
  have hb : Below w.heap.size w W := by rw [← hW]; exact (((Below.refl _ _).alloc (Nat.le_refl _) _).alloc (by simp) _).alloc (by simp; omega) _
  have hI : ImgRd W W.heap.size (lostM k) ⟨some ⟨w.heap.size, 0, none⟩, 3, some ⟨w.heap.size + 1, 0, none⟩, 1, none, 0, none, 0, none, 0⟩ := ⟨ht.rdg, hf.rdg, ⟨[], rfl, RdG.nil _ _ _, fun j t h => by simp [lostM] at h⟩, RdG.nil _ _ _, RdG.nil _ _ _⟩
  have HI := Lib.hid hI
  have HB := Lib.hid hb
  have HM := Lib.hid hm
  have m0 := hm.cell 0 rfl
  have m1 := hm.cell 1 rfl
  have m2 := hm.cell 2 rfl
  have m3 := hm.cell 3 rfl
  have m4 := hm.cell 4 rfl
  have m5 := hm.cell 5 rfl
  have ml := hm.lt
  clear hW ht hf hm hb hI
  go_wp2_with fail
  refine (run_rp (lostM k) ⟨some ⟨w.heap.size, 0, none⟩, 3, some ⟨w.heap.size + 1, 0, none⟩, 1, none, 0, none, 0, none, 0⟩ none 0 [] 10 W _ [] 0 2 1 (3 + (k : Int)) (HT.out.below HB.out) HI.out (lost_ok k hk _) (RdG.nil _ _ _) (Nat.le_refl _) (by simp) (by unfold N64; omega) (by simp) F3.out rfl F4.out rfl F5.out F6.out F7.out).mono ?_
  rintro e w3 ⟨hb3, A3, c3, rfl, -⟩
  have hm3 := HM.out.keep hb3
  have HM3 := Lib.hid hm3
  have HB3 := Lib.hid (HB.out.trans (hb3.mono HB.out.size))
  have HI3 := Lib.hid ((HI.out.below hb3).more hb3.size)
  clear m0 m1 m2 m3 m4 m5 ml hb3
  have m0 := hm3.cell 0 rfl
  have m1 := hm3.cell 1 rfl
  have m2 := hm3.cell 2 rfl
  have m3 := hm3.cell 3 rfl
  have m4 := hm3.cell 4 rfl
  have m5 := hm3.cell 5 rfl
  have ml := hm3.lt
  clear hm3
  go_upto_region 4 with fail
  obtain ⟨W4, hW4⟩ : ∃ z, w3.alloc (.cells #[.slice A3 0 c3, .int .i64 2, .int .i64 1, .int .i64 (3 + (k : Int))] 33) = z := ⟨_, rfl⟩
  rw [hW4]
  have hr4 : Blk W4 w3.heap.size 33 [.slice A3 0 c3, .int .i64 2, .int .i64 1, .int .i64 (3 + (k : Int))] := by rw [← hW4]; exact Blk.new _ _ _
  have hb4 : Below w3.heap.size w3 W4 := by rw [← hW4]; exact (Below.refl _ _).alloc (Nat.le_refl _) _
  have hm4 := HM3.out.keep hb4
  have HR4 := Lib.hid hr4
  have HB4 := Lib.hid (HB3.out.trans (hb4.mono HB3.out.size))
  have HI4 := Lib.hid ((HI3.out.below hb4).more hb4.size)
  clear m0 m1 m2 m3 m4 m5 ml hW4 hr4 hb4
  have m0 := hm4.cell 0 rfl
  have m1 := hm4.cell 1 rfl
  have m2 := hm4.cell 2 rfl
  have m3 := hm4.cell 3 rfl
  have m4 := hm4.cell 4 rfl
  have m5 := hm4.cell 5 rfl
  have ml := hm4.lt
  clear hm4
  have hre : recE (lostM k) = 9 := recE_N F1.out (by simp [lostM]) (Option.isNone_iff_eq_none.1 (by simpa using F2.out))
  have hrec := rec_bad (lostM k) ⟨some ⟨w.heap.size, 0, none⟩, 3, some ⟨w.heap.size + 1, 0, none⟩, 1, none, 0, none, 0, none, 0⟩ W4 (HT.out.below HB4.out) HI4.out (lost_ok k hk _) (by rw [hre]; decide)
  rw [hre] at hrec
  have HREC := Lib.hid hrec
  clear hre hrec
  go_wp2_with fail
  refine HREC.out.mono ?_
  rintro e w5 ⟨rfl, hb5⟩
  have hr5 := HR4.out.keep hb5
  have r1 := hr5.cell 1 rfl
  have r2 := hr5.cell 2 rfl
  have r3 := hr5.cell 3 rfl
  have rl := hr5.lt
  have HB5 := Lib.hid (HB4.out.trans (hb5.mono HB4.out.size))
  have hw3k : IntKind.i64.wrap (3 + (k : Int)) = 3 + (k : Int) := IntWalk.i64_in _ (by omega)
  clear hb5 hr5 m0 m1 m2 m3 m4 m5 ml
  go_wp2_with fail
  go_ret
  exact ⟨rfl, HB5.out.alloc HB5.out.size _⟩
set_option maxRecDepth 100000 in
theorem lost_contract (H : Type) (enc : TypeId × Value → H) (W : World) (base : Nat) (args : Array Value) (ds gs : List (DataW H)) (before : List MemPlace)
    (hval : ∀ (j : Nat) t v, Tryd.f3.params[j]? = some t → args[j]? = some v → Value.okWide Tryd.prog W .any base t v)
    (hW : DataW.Whole enc Tryd.prog Tryd.f3.params.toList Rows.lostSpec.vars false W args.toList ds gs before) (hL : laidMetH Tryd.prog Rows.lostRow.laid W) :
    Calls Tryd.prog 3 args W fun e W' => ∃ v, e = .returned v ∧ Rows.lostSpec.post enc Tryd.prog Tryd.f3 false true false false W args v W' := by
  have hT : Tabs W := tabs_of_laid (rest := []) hL
  have hW0 := hW
  obtain ⟨p, q, hA0, hV, rfl, hfz, hnd⟩ := hW
  have hA : DataW.TrodAll enc Tryd.prog W 0 (fun _ => true) true Tryd.f3.params.toList args.toList ds p := hA0
  rw [Tryd.params3] at hA hval
  obtain ⟨v0, vs0, d0, ds0, p0, q0, hargs, rfl, rfl, h0, r0⟩ := trodAll_cons hA
  obtain ⟨rfl, rfl, rfl⟩ := trodAll_nil r0
  obtain rfl : args = #[v0] := by cases args; simp_all
  obtain ⟨rfl, rfl⟩ := trodVars_none hV
  clear hA0
  obtain ⟨n, rfl, rfl, rfl, wn⟩ := open_int Tryd.underlying3 (hval 0 3 v0 rfl rfl) h0
  refine (lost_walk n (i64_of_wf wn) W hT).mono fun e W' ⟨he, hb⟩ => ?_
  subst he
  exact ⟨_, rfl, law_post hW0 rfl rfl (by kernel_rfl) (by kernel_rfl) hb⟩
set_option maxRecDepth 100000 in
theorem lost_met (os : Os) : laidMet Tryd.prog Rows.lostRow.laid ((laidWorld os).forCall (fun _ _ => 0) ⟨#[], #[.int .i64 0], []⟩).memory :=
  laidMet_of_run' 8 (by kernel_rfl) (by kernel_rfl)
set_option maxRecDepth 100000 in
theorem lost_reads (os : Os) {H : Type} (enc : TypeId × Value → H) : ∃ places, DataW.whole enc Tryd.prog ((laidWorld os).forCall (fun _ _ => 0) ⟨#[], #[.int .i64 0], []⟩).memory Tryd.f3.params.toList Rows.lostSpec.vars false (#[.int .i64 0] : Array Value).toList 8 = some ([.lit (.int .i64 0)], [], places) :=
  ⟨[], by kernel_rfl⟩
set_option maxRecDepth 100000 in
theorem lost_lifted (os : Os) (started : os.Started) (H : Type) (enc : TypeId × Value → H) (F : Stop.Interp) :
    ReturnsInHanded {} Tryd.checked os 3 .any ((OpenSpec.ofChange Rows.lostSpec).preRow enc Tryd.prog Tryd.f3 Rows.lostRow.domain false Rows.lostRow.laid) (((OpenSpec.ofChange Rows.lostSpec).at F).post enc Tryd.prog Tryd.f3 false true false false) := by
  obtain ⟨places, hx⟩ := lost_reads os enc
  refine returnsInHanded_of_row (C := Tryd.checked) (s := OpenSpec.ofChange Rows.lostSpec) ownP started (by kernel_rfl) Tryd.func3
    (witness_row_at (enc := enc) (C := Tryd.checked) false (laidWorld os) #[.int .i64 0] rfl (by kernel_rfl) (by kernel_rfl) (by kernel_rfl)
      (OpenSpec.preRow_of_cond 8 hx (by kernel_rfl) (fun k hk => by cases hk) (by kernel_rfl) (lost_met os))) ?_
  intro W base args ds gs before hval hW _ _ _ hL _ _
  exact lost_contract H enc W base args ds gs before hval hW hL
set_option maxRecDepth 100000 in
theorem lost_said : Rows.LostSaid :=
  OpenClaim.holds_of_cond 3 Tryd.f3 rfl rfl rfl rfl rfl rfl rfl ⟨rfl, rfl, rfl, rfl, rfl⟩ rfl rfl rfl rfl rfl (by kernel_rfl) Tryd.func3 (by kernel_rfl)
    (of_decide_eq_true (by kernel_rfl)) (by unfold Func.isWrapper; first | (rw [if_pos (by decide +kernel)]; kernel_rfl) | (rw [if_neg (by decide +kernel)]; exact ⟨rfl, rfl⟩))
    (fun os started H enc _ F => by rw [OpenClaim.pre_eq_preRow]; exact lost_lifted os started H enc F)
set_option maxRecDepth 100000 in
theorem lost_plain (f : FuncId) (fn : Func) (hf : Tryd.pinned.checked.prog.funcNamed "bolthole/boltholekeep.Lost" = some f) (hfn : Tryd.pinned.checked.prog.funcs[f]? = some fn) :
    ∀ (j : Nat) t, fn.params[j]? = some t → Tryd.pinned.checked.prog.wantsStandIn t = false := by
  obtain rfl : f = 3 := Option.some.inj ((show Tryd.prog.funcNamed "bolthole/boltholekeep.Lost" = some 3 by kernel_rfl).symm.trans hf) |>.symm
  obtain rfl : fn = Tryd.f3 := (Option.some.inj (Tryd.func3.symm.trans hfn)).symm
  intro j t ht
  have hall : ∀ t ∈ Tryd.f3.params, Tryd.prog.wantsStandIn t = false := by
    rw [Tryd.params3]
    intro t ht
    simp only [List.mem_toArray, List.mem_cons, List.not_mem_nil, or_false] at ht
    rcases ht with rfl
    all_goals kernel_rfl
  exact hall t (Array.mem_of_getElem? ht)
set_option maxRecDepth 100000 in
theorem lost_card : Rows.LostCardSaid :=
  Claim7.holds_tied_plain_at .later [] _ _ _ _ lost_said (fun _ h => by cases h) (by kernel_rfl) (fun _ h => by cases h) lost_row_tie rfl ⟨rfl, rfl⟩ (by kernel_rfl) rfl (fun f fn hf hfn => ⟨by kernel_rfl, lost_plain f fn hf hfn⟩) (by kernel_rfl)
end Go.Proofs.YtlekjnnofhjgjaaDoor
