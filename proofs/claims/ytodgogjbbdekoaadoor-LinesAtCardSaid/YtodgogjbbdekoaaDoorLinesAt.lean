/- The given statement on LinesAt, proved: code has the line of the last one that is not behind it. No condition of its own. -/
import Derived.Test.YtodgogjbbdekoaaDoorLawS
import Derived.Test.YtodgogjbbdekoaaDoorPgmG
import Derived.Test.YtodgogjbbdekoaaDoorAsmG
import Derived.Deep.DeepCutAuto
import Derived.Deep.CutBlock
import Derived.Deep.LoopGhost
import Derived.WalkLawsBesides
namespace Go.Proofs.YtodgogjbbdekoaaDoor
open Go.ChangeShapes Go.WideShapes Go.ChangeAt Go.RowKit Go.Joins
open Go.ChangeMaps (open_string)
set_option maxHeartbeats 8000000 in
set_option maxRecDepth 100000 in
theorem linesAt_walk (l : List RawI) (A : Option Addr) (c : Nat) (n : Int) (hn : N64 n) (w : World) (hT : Tabs w) (hR : RdR w w.heap.size A l) (hl : l.length ≤ 140737488355328) (hc : l.length ≤ c) :
    Calls Tryd.prog 4 #[.slice A l.length c, .int .i64 n] w fun e w' => e = .returned (.bool true) ∧ Below w.heap.size w w' := by
  have HPG := Lib.hid (program_any l A c w hT hR hc hl)
  obtain ⟨ll, hll⟩ : ∃ z, l.length = z := ⟨_, rfl⟩
  rw [hll] at HPG ⊢
  have HNN := Lib.hid hn
  clear hT hR hl hc hll hn
  go_enter Tryd.func4, Tryd.ntmps4
  go_wp2_with fail
  refine HPG.out.mono ?_
  rintro e w1 ⟨hb1, ⟨tA, tc, fA, fc, bA, bc, dA, dc, lA, lc⟩, m, rfl, hown, hok, hpg⟩
  have hck := hpg.check
  have hpt := hpg.text
  have hrd := hown.rd
  obtain ⟨bs', q1, q2, q3, q4⟩ := hpg
  have hlp := fun a => lines_plain q1 a
  have hml : m.lines = linL 0 0 bs'.flatten := by rw [q4]; rfl
  have HLP : Hid (∀ a, lineAtF a 0 m.lines = wantF a 0 m.lines ∧ lineAtF (-1) 0 m.lines = 0) := Lib.hid fun a => by rw [hml]; exact hlp a
  have HCK := Lib.hid hck
  have HRD := Lib.hid hrd
  have HOK := Lib.hid hok
  have HB1 := Lib.hid hb1
  have htl := hpt.2
  have hT1 : (1 : Int) ≤ (m.text.length : Int) := by have := hpt.1; omega
  have hT2 : ¬ (m.text.length : Int) < 1 := by omega
  have hlN := hok.ll
  clear hck hrd hok hown hlp hml q1 q2 q3 q4 HPG hpt
  unfold Img.val
  simp only at *
  go_wp2_with fail
  obtain ⟨X, hX⟩ : ∃ X, w1.alloc (.cells #[.slice tA m.text.length tc, .slice fA m.funcs.length fc, .slice bA m.tables.length bc, .slice dA m.data.length dc, .slice lA m.lines.length lc, .int .i64 m.entry] 29) = X := ⟨_, rfl⟩
  have hm1 : Blk X w1.heap.size 29 [.slice tA m.text.length tc, .slice fA m.funcs.length fc, .slice bA m.tables.length bc, .slice dA m.data.length dc, .slice lA m.lines.length lc, .int .i64 m.entry] := by rw [← hX]; exact heap_alloc_new w1 _
  have hbX : Below w1.heap.size w1 X := by rw [← hX]; exact (Below.refl _ _).alloc (Nat.le_refl _) _
  have HIX := Lib.hid (HRD.out.below hbX)
  have HBX := Lib.hid hbX
  have HM1 := Lib.hid hm1
  have hwX : w1.heap.size ≤ X.heap.size := hbX.size
  have hz1 := hb1.size
  rw [hX]
  have HPK : Hid (∀ W, Calls Tryd.prog 16 #[.int .i64 n, .int .i64 (m.text.length : Int)] W fun e w' => e = .returned (.int .i64 (pickL n m.text.length)) ∧ W = w') := Lib.hid fun W => picked_any n _ W HNN.out.1 HNN.out.2 (by omega) (by omega)
  have hpb := pickL_bd n m.text.length (by omega)
  obtain ⟨a, ha⟩ : ∃ z, pickL n (m.text.length : Int) = z := ⟨_, rfl⟩
  rw [ha] at hpb HPK
  have HA64 : Hid (N64 a) := Lib.hid (by unfold N64; omega)
  have HWX := Lib.hid (HB1.out.trans (hbX.mono hz1))
  have m0 := hm1.cell 0 rfl
  have m1 := hm1.cell 1 rfl
  have m2 := hm1.cell 2 rfl
  have m3 := hm1.cell 3 rfl
  have m4 := hm1.cell 4 rfl
  have m5 := hm1.cell 5 rfl
  have ml := hm1.lt
  clear hX hm1 hbX ha hb1
  go_wp2_with fail
  refine (HPK.out _).mono ?_
  rintro e w2 ⟨rfl, rfl⟩
  go_upto_block 0 with fail
  obtain ⟨N, hN⟩ : ∃ z, m.lines.length = z := ⟨_, rfl⟩
  obtain ⟨R, hR⟩ : ∃ z, wantF a 0 m.lines = z := ⟨_, rfl⟩
  rw [hN] at hlN m4
  rw [hN]
  have HN := Lib.hid hN
  have HR := Lib.hid hR
  clear hN hR
  have HBM := Lib.hid (show w1.heap.size < X.heap.size from ml)
  go_cut [7] (fun s7 wx => s7 = .int .i64 R ∧ Hid (Below X.heap.size X wx))
  case first =>
    go_wp2_with fail
    go_loopg [7, 21] N (fun gk s7 s21 wr => ∃ (k : Nat) (x : Int), k ≤ N ∧ s21 = .int .i64 k ∧ s7 = .int .i64 x ∧ Hid (Below X.heap.size X wr) ∧ Hid (wantF a x (m.lines.drop k) = R) ∧ N - k ≤ gk)
    case atStart => exact ⟨0, 0, Nat.zero_le _, rfl, rfl, Below.refl _ _, HR.out, Nat.le_refl _⟩
    case round =>
      obtain ⟨k, x, hk, rfl, rfl, HB, HR2, hgk⟩ := hrel
      by_cases hlt : k < N
      · have hltI : (k : Int) < (N : Int) := by omega
        have hx : m.lines[k]? = some (m.lines[k]'(by have := HN.out; omega)) := List.getElem?_eq_getElem _
        have hdr : m.lines.drop k = m.lines[k]'(by have := HN.out; omega) :: m.lines.drop (k + 1) := List.drop_eq_getElem_cons _
        obtain ⟨l, hl⟩ : ∃ l, m.lines[k]'(by have := HN.out; omega) = l := ⟨_, rfl⟩
        rw [hl] at hx hdr
        obtain ⟨l1, l2⟩ := l
        have hFr := (HIX.out.lines.more hwX).below HB.out
        obtain ⟨b, o, hA, hb', c0, c1⟩ := hFr.at2 hx
        simp only at hA c0 c1
        subst hA
        have hR1 := HR2.out
        rw [hdr] at hR1
        simp only [wantF] at hR1
        have hlcN : N ≤ lc := by rw [← HN.out]; exact HOK.out.lc
        have hs := HB.out.size
        have HB2 : Hid (∀ Z, Below X.heap.size X (wr.alloc Z)) := Lib.hid fun Z => HB.out.alloc HB.out.size Z
        clear hdr hl hx hFr
        by_cases p : a < l1
        · rw [if_pos p] at hR1
          have HRR := Lib.hid hR1
          clear hR1
          go_wp2
          go_meet
          exact ⟨by rw [HRR.out], HB2.out _⟩
        · rw [if_neg p] at hR1
          have HRR := Lib.hid hR1
          clear hR1
          go_wp2
          go_roundg (N - (k + 1))
          case measure => omega
          case rel => exact ⟨k + 1, l2, by omega, by go_num, rfl, HB2.out _, HRR.out, Nat.le_refl _⟩
      · have hltI : ¬ (k : Int) < (N : Int) := by omega
        obtain rfl : k = N := by omega
        have hR := HR2.out
        rw [List.drop_of_length_le (by have := HN.out; omega)] at hR
        simp only [wantF] at hR
        have HR3 := Lib.hid hR
        clear hR
        go_wp2
        go_meet
        exact ⟨by rw [HR3.out], HB⟩
  case rest =>
    obtain ⟨rfl, HBX2⟩ := hcut
    have hmw := HM1.out.keep HBX2.out
    rw [HN.out] at hmw
    have m0 := hmw.cell 0 rfl
    have m1 := hmw.cell 1 rfl
    have m2 := hmw.cell 2 rfl
    have m3 := hmw.cell 3 rfl
    have m4 := hmw.cell 4 rfl
    have m5 := hmw.cell 5 rfl
    have HIW := Lib.hid (((HIX.out.more hwX).below HBX2.out).more HBX2.out.size)
    have hs2 := HBX2.out.size
    have HMW := Lib.hid hmw
    rename World => wx
    have HCHK : Hid (∀ W, Below wx.heap.size wx W → Calls Tryd.prog 17 #[.agg #[.slice tA m.text.length tc, .slice fA m.funcs.length fc, .slice bA m.tables.length bc, .slice dA m.data.length dc, .slice lA N lc, .int .i64 m.entry]] W fun e w' => e = .returned (.int .i64 0) ∧ Below W.heap.size W w') := Lib.hid fun W hW => by
      have h := imgCheck_any m ⟨tA, tc, fA, fc, bA, bc, dA, dc, lA, lc⟩ W ((HIW.out.below hW).more hW.size) HOK.out
      rw [HCK.out] at h
      unfold Img.val at h
      rw [HN.out] at h
      exact h
    have HLA : Hid (∀ (q : Int) W, N64 q → Below wx.heap.size wx W → Calls Tryd.prog 18 #[.agg #[.slice tA m.text.length tc, .slice fA m.funcs.length fc, .slice bA m.tables.length bc, .slice dA m.data.length dc, .slice lA N lc, .int .i64 m.entry], .int .i64 q] W fun e w' => e = .returned (.int .i64 (lineAtF q 0 m.lines)) ∧ Below W.heap.size W w') := Lib.hid fun q W hq hW => by
      have h := lineAt_any m ⟨tA, tc, fA, fc, bA, bc, dA, dc, lA, lc⟩ q W ((HIW.out.below hW).more hW.size) HOK.out hq
      unfold Img.val at h
      rw [HN.out] at h
      exact h
    obtain ⟨g1, g2⟩ := HLP.out a
    rw [HR.out] at g1
    have G1 : Hid (∀ W, Below wx.heap.size wx W → Calls Tryd.prog 18 #[.agg #[.slice tA m.text.length tc, .slice fA m.funcs.length fc, .slice bA m.tables.length bc, .slice dA m.data.length dc, .slice lA N lc, .int .i64 m.entry], .int .i64 a] W fun e w' => e = .returned (.int .i64 R) ∧ Below W.heap.size W w') := Lib.hid fun W hW => by rw [← g1]; exact HLA.out a W HA64.out hW
    have G2 : Hid (∀ W, Below wx.heap.size wx W → Calls Tryd.prog 18 #[.agg #[.slice tA m.text.length tc, .slice fA m.funcs.length fc, .slice bA m.tables.length bc, .slice dA m.data.length dc, .slice lA N lc, .int .i64 m.entry], .int .i64 (-1)] W fun e w' => e = .returned (.int .i64 0) ∧ Below W.heap.size W w') := Lib.hid fun W hW => by rw [← g2]; exact HLA.out (-1) W (by unfold N64; omega) hW
    clear g1 g2 hmw
    have HWF := Lib.hid (HWX.out.trans (HBX2.out.mono HWX.out.size))
    go_wp2_with fail
    refine (HCHK.out _ (Below.refl _ _)).mono ?_
    rintro e w3 ⟨rfl, hb3⟩
    have hmw3 := HMW.out.keep hb3
    have n0 := hmw3.cell 0 rfl
    have n1 := hmw3.cell 1 rfl
    have n2 := hmw3.cell 2 rfl
    have n3 := hmw3.cell 3 rfl
    have n4 := hmw3.cell 4 rfl
    have n5 := hmw3.cell 5 rfl
    have HB3 := Lib.hid hb3
    have hz3 := hb3.size
    have HMW3 := Lib.hid hmw3
    clear hb3 hmw3
    go_wp2_with fail
    refine (G1.out _ HB3.out).mono ?_
    rintro e w4 ⟨rfl, hb4⟩
    have hmw4 := HMW3.out.keep hb4
    have o0 := hmw4.cell 0 rfl
    have o1 := hmw4.cell 1 rfl
    have o2 := hmw4.cell 2 rfl
    have o3 := hmw4.cell 3 rfl
    have o4 := hmw4.cell 4 rfl
    have o5 := hmw4.cell 5 rfl
    have HB4 := Lib.hid (HB3.out.trans (hb4.mono hz3))
    have hz4 := HB4.out.size
    clear hb4 hmw4
    go_wp2_with fail
    refine (G2.out _ HB4.out).mono ?_
    rintro e w5 ⟨rfl, hb5⟩
    have HB5 := Lib.hid (HWF.out.trans ((HB4.out.trans (hb5.mono hz4)).mono HWF.out.size))
    clear hb5
    go_wp2
    go_ret
    exact ⟨rfl, HB5.out⟩
set_option maxRecDepth 100000 in
theorem linesAt_contract (H : Type) (enc : TypeId × Value → H) (W : World) (base : Nat) (args : Array Value) (ds gs : List (DataW H)) (before : List MemPlace)
    (hval : ∀ (j : Nat) t v, Tryd.f4.params[j]? = some t → args[j]? = some v → Value.okWide Tryd.prog W .any base t v)
    (hW : DataW.Whole enc Tryd.prog Tryd.f4.params.toList Rows.linesAtSpec.vars false W args.toList ds gs before) (hL : laidMetH Tryd.prog Rows.linesAtRow.laid W)
    (hz : (DataW.weightsEach Tryd.prog (Tryd.f4.params.toList ++ (OpenSpec.ofChange Rows.linesAtSpec).bare.plain.varTypes Tryd.prog) (ds ++ gs)).all (· ≤ reachBytes) = true) :
    Calls Tryd.prog 4 args W fun e W' => ∃ v, e = .returned v ∧ Rows.linesAtSpec.post enc Tryd.prog Tryd.f4 false true false false W args v W' := by
  have hT : Tabs W := tabs_of_laid5 hL
  have hW0 := hW
  obtain ⟨p, q, hA0, hV, rfl, hfz, hnd⟩ := hW
  have hA : DataW.TrodAll enc Tryd.prog W 0 (fun _ => true) true Tryd.f4.params.toList args.toList ds p := hA0
  rw [Tryd.params4] at hA hval
  obtain ⟨v0, vs0, d0, ds0, p0, q0, hargs, rfl, rfl, h0, r0⟩ := trodAll_cons hA
  obtain ⟨v1, vs1, d1, ds1, p1, q1, rfl, rfl, rfl, h1, r1⟩ := trodAll_cons r0
  obtain ⟨rfl, rfl, rfl⟩ := trodAll_nil r1
  obtain rfl : args = #[v0, v1] := by cases args; simp_all
  obtain ⟨rfl, rfl⟩ := trodVars_none hV
  clear hA0
  obtain ⟨A, cap, L, rfl, hcap, hcm, hR, hd⟩ := open_raws (hval 0 22 v0 rfl rfl) h0
  obtain ⟨n, rfl, rfl, rfl, wn⟩ := open_int Tryd.underlying3 (hval 1 3 v1 rfl rfl) h1
  have hL : L.length ≤ 140737488355328 := by
    rcases hd with ⟨-, rfl, -⟩ | ⟨elems, spare, rfl, hl⟩
    · exact Nat.zero_le _
    · have h1 := sized_slice hz (j := 0) (t := 22) (by rw [Tryd.params4]; rfl) rfl Tryd.underlying22
      have h2 : Tryd.prog.bytesOf 143 = 32 := by kernel_rfl
      have h3 := reachBytes_lt
      rw [h2, hl] at h1
      omega
  refine (linesAt_walk L A cap n (i64_of_wf wn) W hT hR hL hcap).mono fun e W' ⟨he, hb⟩ => ?_
  subst he
  exact ⟨_, rfl, law_post hW0 rfl rfl (by kernel_rfl) (by kernel_rfl) hb⟩
set_option maxRecDepth 100000 in
theorem linesAt_met (os : Os) : laidMet Tryd.prog Rows.linesAtRow.laid ((laidWorld5 os).forCall (fun _ _ => 0) ⟨#[], #[.slice none 0 0, .int .i64 0], []⟩).memory :=
  laidMet_of_run' 8 (by kernel_rfl) (by kernel_rfl)
set_option maxRecDepth 100000 in
theorem linesAt_reads (os : Os) {H : Type} (enc : TypeId × Value → H) : ∃ places, DataW.whole enc Tryd.prog ((laidWorld5 os).forCall (fun _ _ => 0) ⟨#[], #[.slice none 0 0, .int .i64 0], []⟩).memory Tryd.f4.params.toList Rows.linesAtSpec.vars false (#[.slice none 0 0, .int .i64 0] : Array Value).toList 8 = some ([.nil, .lit (.int .i64 0)], [], places) :=
  ⟨[], by kernel_rfl⟩
set_option maxRecDepth 100000 in
theorem linesAt_lifted (os : Os) (started : os.Started) (H : Type) (enc : TypeId × Value → H) (F : Stop.Interp) :
    ReturnsInHanded {} Tryd.checked os 4 .any ((OpenSpec.ofChange Rows.linesAtSpec).preRow enc Tryd.prog Tryd.f4 Rows.linesAtRow.domain false Rows.linesAtRow.laid) (((OpenSpec.ofChange Rows.linesAtSpec).at F).post enc Tryd.prog Tryd.f4 false true false false) := by
  obtain ⟨places, hx⟩ := linesAt_reads os enc
  refine returnsInHanded_of_row (C := Tryd.checked) (s := OpenSpec.ofChange Rows.linesAtSpec) ownP started (by kernel_rfl) Tryd.func4
    (witness_row_at (enc := enc) (C := Tryd.checked) false (laidWorld5 os) #[.slice none 0 0, .int .i64 0] rfl (by kernel_rfl) (by kernel_rfl) (by kernel_rfl)
      (OpenSpec.preRow_of_cond 8 hx (by kernel_rfl) (fun k hk => by cases hk) (by kernel_rfl) (linesAt_met os))) ?_
  intro W base args ds gs before hval hW _ _ hreach hL _ _
  exact linesAt_contract H enc W base args ds gs before hval hW hL hreach
set_option maxRecDepth 100000 in
theorem linesAt_said : Rows.LinesAtSaid :=
  OpenClaim.holds_of_cond 4 Tryd.f4 rfl rfl rfl rfl rfl rfl rfl ⟨rfl, rfl, rfl, rfl, rfl⟩ rfl rfl rfl rfl rfl (by kernel_rfl) Tryd.func4 (by kernel_rfl)
    (of_decide_eq_true (by kernel_rfl)) (by unfold Func.isWrapper; first | (rw [if_pos (by decide +kernel)]; kernel_rfl) | (rw [if_neg (by decide +kernel)]; exact ⟨rfl, rfl⟩))
    (fun os started H enc _ F => by rw [OpenClaim.pre_eq_preRow]; exact linesAt_lifted os started H enc F)
set_option maxRecDepth 100000 in
theorem linesAt_plain (f : FuncId) (fn : Func) (hf : Tryd.pinned.checked.prog.funcNamed "bolthole/boltholekeep.LinesAt" = some f) (hfn : Tryd.pinned.checked.prog.funcs[f]? = some fn) :
    ∀ (j : Nat) t, fn.params[j]? = some t → Tryd.pinned.checked.prog.wantsStandIn t = false := by
  obtain rfl : f = 4 := Option.some.inj ((show Tryd.prog.funcNamed "bolthole/boltholekeep.LinesAt" = some 4 by kernel_rfl).symm.trans hf) |>.symm
  obtain rfl : fn = Tryd.f4 := (Option.some.inj (Tryd.func4.symm.trans hfn)).symm
  intro j t ht
  have hall : ∀ t ∈ Tryd.f4.params, Tryd.prog.wantsStandIn t = false := by
    rw [Tryd.params4]
    intro t ht
    simp only [List.mem_toArray, List.mem_cons, List.not_mem_nil, or_false] at ht
    rcases ht with rfl | rfl
    all_goals kernel_rfl
  exact hall t (Array.mem_of_getElem? ht)
set_option maxRecDepth 100000 in
theorem linesAt_card : Rows.LinesAtCardSaid :=
  Claim7.holds_tied_plain_at .later [] _ _ _ _ linesAt_said (fun _ h => by cases h) (by kernel_rfl) (fun _ h => by cases h) linesAt_row_tie rfl ⟨rfl, rfl⟩ (by kernel_rfl) rfl (fun f fn hf hfn => ⟨by kernel_rfl, linesAt_plain f fn hf hfn⟩) (by kernel_rfl)
end Go.Proofs.YtodgogjbbdekoaaDoor
