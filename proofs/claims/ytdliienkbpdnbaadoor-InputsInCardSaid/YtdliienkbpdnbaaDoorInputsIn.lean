/- The given statement on InputsIn, proved: inputs come in their order; behind them there are zeros. No condition of its own. -/
import Derived.Test.YtdliienkbpdnbaaDoorLawS
import Derived.Test.YtdliienkbpdnbaaDoorInpN
import Derived.Test.YtdliienkbpdnbaaDoorInpW
import Derived.Test.YtdliienkbpdnbaaDoorPgmG
import Derived.Test.YtdliienkbpdnbaaDoorDecS
import Derived.Test.YtdliienkbpdnbaaDoorImgX
import Derived.Test.YtdliienkbpdnbaaDoorRegX
import Derived.Test.YtdliienkbpdnbaaDoorEqI
import Derived.Laws.MakeOwn
import Derived.Deep.DeepCutAuto
import Derived.Deep.CutBlock
import Derived.Deep.QuietTactic
import Derived.BigQuiet
import Derived.IntWalk
import Derived.OwnWalk
import Derived.WalkLawsBesides
namespace Go.Proofs.YtdliienkbpdnbaaDoor
open Go.ChangeShapes Go.WideShapes Go.ChangeAt Go.RowKit Go.Joins
open Go.ChangeMaps (open_string)
theorem inSnoc (j : Nat) : insR (ioL (j + 1)) = insR (ioL j) ++ [.int .i64 16, .int .i64 1, .int .i64 0, .int .i64 0, .int .i64 0, .bool false, .int .i64 17, .int .i64 0, .int .i64 1, .int .i64 0, .int .i64 0, .bool false] := by
  rw [ioL_succ]
  simp [insR, insC, inI, outI]
def z101 : List Value := List.replicate 101 (.int .i64 0)
theorem run_err (m : Img) (v : ImgV) (iA : Option Addr) (ic : Nat) (L : List Int) (fuel z : Int) (w : World) (hT : Tabs w) (hI : ImgRd w w.heap.size m v) (hO : ImgOk m v) (hin : RdG w w.heap.size iA (intsV .i64 L))
    (hic : L.length ≤ ic) (hil : L.length ≤ 140737488355328) (hf : N64 fuel) (hL : ∀ x ∈ L, N64 x) (he : runE m L fuel = z) (hz : z ≠ 0) :
    Calls Tryd.prog 22 #[.agg (m.val v), .slice iA L.length ic, .int .i64 fuel] w fun e w' => e = .returned (.tuple #[runV none 0 0 0 0 0, .int .i64 z]) ∧ Below w.heap.size w w' := by
  refine (run_any m v iA ic L fuel w hT hI hO hin hic hil hf hL).mono ?_
  rintro e w' ⟨h1, h2, -⟩
  rw [he] at h2
  exact ⟨h2 hz, h1⟩
theorem runE_1 {m : Img} {L : List Int} {f : Int} (h : checkE m = 0) (hf : 0 ≤ f ∧ f ≤ 100000) (hl : 100 < L.length) : runE m L f = 1 := by
  unfold runE
  rw [if_neg (by rw [h]; simp), if_neg (by omega), if_pos hl]
theorem runE_2 {m : Img} {L : List Int} {f : Int} (h : checkE m = 0) (hf : f < 0) : runE m L f = 2 := by
  unfold runE
  rw [if_neg (by rw [h]; simp), if_pos (by omega)]
theorem runE_3 {m : Img} (h : checkE m = 0) : runE m [1099511627777] 1 = 2 := by
  unfold runE
  rw [if_neg (by rw [h]; simp), if_neg (by decide), if_neg (by decide), if_pos (by decide)]
theorem below_set4 {X w : World} {b : Nat} (hb : Below X.heap.size X w) (hge : X.heap.size ≤ b) (z0 z1 z2 z3 : Value) :
    Below X.heap.size X ((((w.setCell ⟨b, 0, none⟩ z0).setCell ⟨b, 1, none⟩ z1).setCell ⟨b, 2, none⟩ z2).setCell ⟨b, 3, none⟩ z3) :=
  hb.trans (gb_to_below (gb_setCell (gb_setCell (gb_setCell (gb_setCell (gb_refl w (some b)) 0 z0) 1 z1) 2 z2) 3 z3) hge hb.size)
set_option maxHeartbeats 8000000 in
set_option maxRecDepth 100000 in
theorem inputsIn_walk (il : List Int) (iA : Option Addr) (ic : Nat) (n : Int) (hn : N64 n) (w : World) (hT : Tabs w)
    (hi64 : ∀ x ∈ il, N64 x) (hin : RdG w w.heap.size iA (intsV .i64 il)) (hill : il.length ≤ 140737488355328) (hilc : il.length ≤ ic) :
    Calls Tryd.prog 11 #[.slice iA il.length ic, .int .i64 n] w fun e w' => e = .returned (.bool true) ∧ Below w.heap.size w w' := by
  have HIN := Lib.hid (inputs_any il iA ic w hi64 hin hill hilc)
  have HPN := Lib.hid (fun W => picked_any n 12 W hn.1 hn.2 (by decide) (by decide))
  have hk := pickL_bd n 12 (by decide)
  obtain ⟨k0, hk0⟩ : ∃ z, pickL n 12 = z := ⟨_, rfl⟩
  rw [hk0] at hk HPN
  obtain ⟨k, rfl⟩ := Int.eq_ofNat_of_zero_le hk.1
  obtain ⟨nl, hnl⟩ : ∃ z, il.length = z := ⟨_, rfl⟩
  obtain ⟨il2, hil2⟩ : ∃ z, inpL il = z := ⟨_, rfl⟩
  have HI41 : Hid (∀ x ∈ il2, N41 x) := Lib.hid (fun x hx => by rw [← hil2] at hx; have := inpL_bd il x hx; unfold N41; omega)
  have hq8 : il2.length ≤ 8 := by rw [← hil2]; exact inpL_len il
  unfold InpPost at HIN
  rw [hil2, hnl] at HIN
  rw [hnl]
  obtain ⟨q, hq⟩ : ∃ z, il2.length = z := ⟨_, rfl⟩
  rw [hq] at HIN hq8
  have HQ := Lib.hid hq
  have HT := Lib.hid hT
  obtain ⟨-, hk12⟩ := hk
  have hk12 : k < 12 := by omega
  clear hT hin hnl hq hi64 hill hilc hn hk0 hil2
  go_enter Tryd.func11, Tryd.ntmps11
  go_wp2_with fail
  refine HIN.out.mono ?_
  rintro e w1 ⟨hb1, A1, c1, rfl, ho1⟩
  have HR1 := Lib.hid (own_rdg ho1)
  have hc1 := own_capG ho1
  have HB1 := Lib.hid hb1
  clear hb1 ho1 HIN
  go_wp2_with fail
  refine (HPN.out _).mono ?_
  rintro e wq ⟨rfl, rfl⟩
  clear HPN
  go_wp2_with fail
  go_loopg [7, 8, 24] k (fun gk s7 s8 s24 wr => ∃ (j t : Nat) (B C : Option Addr) (d f : Nat), j ≤ k ∧ t ≤ 24 ∧ s24 = .int .i64 j ∧ s7 = .slice B t d ∧ s8 = .slice C j f ∧ Hid (t = 2 * j) ∧ Hid (wr.ownsRow w1.heap.size 57 6 (.slice B t d) t (insR (ioL j))) ∧ Hid (wr.ownsRow w1.heap.size 3 1 (.slice C j f) j (intsV .i64 (inW il2 j))) ∧ Hid (Below w1.heap.size w1 wr) ∧ Hid (t = 0 → B = none) ∧ k - j ≤ gk)
  case atStart => exact ⟨0, 0, none, none, 0, 0, Nat.zero_le _, by omega, rfl, rfl, rfl, Lib.hid rfl, ⟨rfl, .inl ⟨rfl, rfl⟩⟩, ⟨rfl, .inl ⟨rfl, rfl⟩⟩, Below.refl _ _, Lib.hid (fun _ => rfl), Nat.le_refl _⟩
  case round =>
    obtain ⟨j, t, B, C, d, f, hjk, ht24, rfl, rfl, rfl, HTJ, HO, HW, HB, HZ, hgk⟩ := hrel
    have hs := HB.out.size
    by_cases hjk2 : j < k
    · have hI : (j : Int) < (k : Int) := by omega
      have ht22 : t ≤ 22 := by have := HTJ.out; omega
      go_wp2_with fail
      refine (out_any 1 wr).mono ?_
      rintro e w4 ⟨rfl, hb4⟩
      have HB4 := Lib.hid hb4
      have hs4 : wr.heap.size ≤ w4.heap.size := hb4.size
      have HO4 := Lib.hid (own_keep HO.out hb4)
      have HW4 := Lib.hid (own_keep HW.out hb4)
      clear hb4
      go_wp2_with (first | (at_builtin; refine app_many rfl _ _ 55 57 6 48 _ Tryd.underlying55 infoI rfl (by decide) rfl w1.heap.size _ t _ rfl (World.ownsRow.alloc HO4.out _) w4.heap.size 2 2 rfl [.int .i64 16, .int .i64 1, .int .i64 0, .int .i64 0, .int .i64 0, .bool false, .int .i64 17, .int .i64 0, .int .i64 1, .int .i64 0, .int .i64 0, .bool false] 57 (0, 0) (heap_alloc_new w4 _) rfl (by decide) (by simp [Value.oneCell']) (by omega) (by omega) (by simp; omega) (w4.heap.size + 1) (by simp) ?a1))
      case a1 =>
        intro g5 c5 w5 ho5 hgr5 hat5 hlt5
        have hoA := World.ownsRow.alloc HO4.out (.cells #[.int .i64 16, .int .i64 1, .int .i64 0, .int .i64 0, .int .i64 0, .bool false, .int .i64 17, .int .i64 0, .int .i64 1, .int .i64 0, .int .i64 0, .bool false] 57)
        have hwA := World.ownsRow.alloc HW4.out (.cells #[.int .i64 16, .int .i64 1, .int .i64 0, .int .i64 0, .int .i64 0, .bool false, .int .i64 17, .int .i64 0, .int .i64 1, .int .i64 0, .int .i64 0, .bool false] 57)
        have hw5 := own_keepT hwA hgr5 (fun g hg => own_typ hoA hg) (by decide)
        have hb5 : Below w1.heap.size w1 w5 := HB.out.trans (((HB4.out.alloc HB4.out.size _).mono hs).trans (gb_below_of hgr5 (fun q hq => (World.ownsRow.lt HO4.out q hq).1) (by simp; omega)))
        have HO5 := Lib.hid ho5
        have HW5 := Lib.hid hw5
        have HB5 := Lib.hid hb5
        have hs5 : w1.heap.size ≤ w5.heap.size := hb5.size
        clear ho5 hw5 hb5 hgr5 hat5 hlt5 hoA hwA
        by_cases hjq : j < q
        · have hqI : (j : Int) < (q : Int) := by omega
          have hx : il2[j]? = some (il2[j]'(by rw [HQ.out]; exact hjq)) := List.getElem?_eq_getElem _
          obtain ⟨x, hxe⟩ : ∃ z, il2[j]'(by rw [HQ.out]; exact hjq) = z := ⟨_, rfl⟩
          rw [hxe] at hx
          obtain ⟨b, o, rfl, hbl, hcx⟩ := HR1.out.at (intsV_at .i64 hx)
          have hcx5 : w5.cell? ⟨b, o + j, none⟩ = some (.int .i64 x) := (HB5.out.cell hbl).trans hcx
          have HX : Hid (inW il2 (j + 1) = inW il2 j ++ [x]) := Lib.hid (by rw [inW_succ, List.getD_eq_getElem?_getD, hx]; rfl)
          clear hcx hxe hx hbl
          go_wp2_with (first | (at_builtin; refine app_one rfl _ _ 26 3 1 8 _ Tryd.underlying26 infoIntI rfl (by decide) rfl w1.heap.size _ j _ rfl (World.ownsRow.alloc HW5.out _) w5.heap.size 1 rfl [.int .i64 x] 3 (0, 0) (heap_alloc_new w5 _) rfl (by simp [Value.oneCell']) (by omega) (by omega) (by simp; omega) (w5.heap.size + 1) (by simp) ?a2))
          case a2 => 
          intro g6 c6 w6 ho6 hgr6 hat6 hlt6
          have hoA := World.ownsRow.alloc HO5.out (.cells #[.int .i64 x] 3)
          have hwA := World.ownsRow.alloc HW5.out (.cells #[.int .i64 x] 3)
          have hk6 := own_keepT hoA hgr6 (fun g hg => own_typ hwA hg) (by decide)
          have hb6 : Below w1.heap.size w1 w6 := HB5.out.trans ((((Below.refl w5.heap.size w5).alloc (Nat.le_refl _) (.cells #[.int .i64 x] 3)).mono hs5).trans (gb_below_of hgr6 (fun q hq => (World.ownsRow.lt HW5.out q hq).1) (by simp; omega)))
          have HR := Lib.hid (And.intro ho6 (And.intro hk6 hb6))
          clear ho6 hk6 hb6 hgr6 hat6 hlt6 hoA hwA
          go_wp2
          go_roundg (k - (j + 1))
          case measure => omega
          case rel =>
            refine ⟨j + 1, t + 2, some ⟨g5, 0, none⟩, some ⟨g6, 0, none⟩, c5, c6, by omega, by omega, by go_num, rfl, rfl, Lib.hid (by have := HTJ.out; omega), Lib.hid ?_, Lib.hid ?_, Lib.hid HR.out.2.2, Lib.hid (fun e => by omega), Nat.le_refl _⟩
            · rw [inSnoc]
              exact HR.out.2.1
            · rw [HX.out]
              simpa [intsV] using HR.out.1
        · have hqI : ¬ (j : Int) < (q : Int) := by omega
          obtain ⟨x, hx0⟩ : ∃ z : Int, (0 : Int) = z := ⟨_, rfl⟩
          have HX : Hid (inW il2 (j + 1) = inW il2 j ++ [0]) := Lib.hid (by rw [inW_succ, List.getD_eq_getElem?_getD, List.getElem?_eq_none (by rw [HQ.out]; omega)]; rfl)
          clear hx0
          go_wp2_with (first | (at_builtin; refine app_one rfl _ _ 26 3 1 8 _ Tryd.underlying26 infoIntI rfl (by decide) rfl w1.heap.size _ j _ rfl (World.ownsRow.alloc HW5.out _) w5.heap.size 1 rfl [.int .i64 0] 3 (0, 0) (heap_alloc_new w5 _) rfl (by simp [Value.oneCell']) (by omega) (by omega) (by simp; omega) (w5.heap.size + 1) (by simp) ?a3))
          case a3 => 
          intro g6 c6 w6 ho6 hgr6 hat6 hlt6
          have hoA := World.ownsRow.alloc HO5.out (.cells #[.int .i64 0] 3)
          have hwA := World.ownsRow.alloc HW5.out (.cells #[.int .i64 0] 3)
          have hk6 := own_keepT hoA hgr6 (fun g hg => own_typ hwA hg) (by decide)
          have hb6 : Below w1.heap.size w1 w6 := HB5.out.trans ((((Below.refl w5.heap.size w5).alloc (Nat.le_refl _) (.cells #[.int .i64 0] 3)).mono hs5).trans (gb_below_of hgr6 (fun q hq => (World.ownsRow.lt HW5.out q hq).1) (by simp; omega)))
          have HR := Lib.hid (And.intro ho6 (And.intro hk6 hb6))
          clear ho6 hk6 hb6 hgr6 hat6 hlt6 hoA hwA
          go_wp2
          go_roundg (k - (j + 1))
          case measure => omega
          case rel =>
            refine ⟨j + 1, t + 2, some ⟨g5, 0, none⟩, some ⟨g6, 0, none⟩, c5, c6, by omega, by omega, by go_num, rfl, rfl, Lib.hid (by have := HTJ.out; omega), Lib.hid ?_, Lib.hid ?_, Lib.hid HR.out.2.2, Lib.hid (fun e => by omega), Nat.le_refl _⟩
            · rw [inSnoc]
              exact HR.out.2.1
            · rw [HX.out]
              simpa [intsV] using HR.out.1
    · obtain rfl : j = k := by omega
      have hI : ¬ (j : Int) < (j : Int) := by omega
      clear hjk hjk2 hgk
      have HTO : Hid (Calls Tryd.prog 33 #[.slice A1 q c1, .slice B t d] wr (ToldR wr (inW il2 j) 1)) := Lib.hid (by
        have hL : (ioL j).length = t := by rw [ioL_len]; exact HTJ.out.symm
        have h := told_own (ioL j) il2 (inW il2 j) 1 w1.heap.size B d A1 c1 wr (HT.out.below (HB1.out.trans (HB.out.mono HB1.out.size))) (by rw [hL]; omega) (ioL_chk j) (by rw [hL]; exact HO.out) ((HR1.out.below HB.out).more hs) (by rw [HQ.out]; exact hc1) (by rw [HQ.out]; omega) HI41.out (io_run il2 j (by omega)).1 (io_run il2 j (by omega)).2 (by rw [hL]; exact HZ.out)
        rw [hL, HQ.out] at h
        exact h)
      have hTl := inW_len il2 j
      obtain ⟨T, hTT⟩ : ∃ z, inW il2 j = z := ⟨_, rfl⟩
      rw [hTT] at HW HTO hTl
      have HTL := Lib.hid hTl
      clear hTl hTT
      go_wp2_with fail
      refine HTO.out.mono ?_
      rintro e X ⟨A6, c6, rfl, hb6, hc6, hr6⟩
      rw [HTL.out] at hc6 ⊢
      have HRX := Lib.hid hr6
      have HWX := Lib.hid (own_rdg (own_keep HW.out hb6))
      have hcf := own_capG HW.out
      have HBX : Hid (Below w.heap.size w X) := Lib.hid (HB1.out.trans ((HB.out.trans (hb6.mono hs)).mono HB1.out.size))
      have HPG : Hid (∀ W, Below X.heap.size X W → Calls Tryd.prog 14 #[.slice none 0 0] W fun e w' => Below W.heap.size W w' ∧ ∃ (v : ImgV) (m : Img), e = .returned (.agg (m.val v)) ∧ Hid (ImgRd w' w'.heap.size m v ∧ ImgOk m v ∧ checkE m = 0)) := Lib.hid fun W h =>
        (program_nil W (HT.out.below (HBX.out.trans (h.mono HBX.out.size)))).mono fun _ _ ⟨h1, v, m, h2, h3, h4, h5⟩ => ⟨h1, v, m, h2, Lib.hid ⟨h3.rd, h4, h5.check⟩⟩
      have HRA : Hid (∀ (W : World) (m : Img) (v : ImgV) (g : Nat), Below X.heap.size X W → ImgRd W W.heap.size m v → ImgOk m v → checkE m = 0 → Blk W g 3 z101 → Calls Tryd.prog 22 #[.agg (m.val v), .slice (some ⟨g, 0, none⟩) 101 101, .int .i64 1] W fun e w' => e = .returned (.tuple #[.agg #[.slice none 0 0, .int .i64 0, .int .i64 0, .int .i64 0], .int .i64 1]) ∧ Below W.heap.size W w') := Lib.hid fun W m v g h hi ho hc hg => by
        have hl : (List.replicate 101 (0 : Int)).length = 101 := List.length_replicate
        have h := run_err m v (some ⟨g, 0, none⟩) 101 (List.replicate 101 0) 1 1 W (HT.out.below (HBX.out.trans (h.mono HBX.out.size))) hi ho (fun _ => ⟨g, 0, rfl, hg.lt, fun x u hu => by rw [Nat.zero_add]; exact hg.cell x (by simpa [intsV, z101] using hu)⟩) (by rw [hl]; decide) (by rw [hl]; decide) ⟨by decide, by decide⟩ (fun x hx => by rw [List.eq_of_mem_replicate hx]; exact ⟨by decide, by decide⟩) (runE_1 hc ⟨by decide, by decide⟩ (by rw [hl]; decide)) (by decide)
        rw [hl] at h
        exact h
      have HRB : Hid (∀ (W : World) (m : Img) (v : ImgV), Below X.heap.size X W → ImgRd W W.heap.size m v → ImgOk m v → checkE m = 0 → Calls Tryd.prog 22 #[.agg (m.val v), .slice none 0 0, .int .i64 (-1 - (j : Int))] W fun e w' => e = .returned (.tuple #[.agg #[.slice none 0 0, .int .i64 0, .int .i64 0, .int .i64 0], .int .i64 2]) ∧ Below W.heap.size W w') := Lib.hid fun W m v h hi ho hc =>
        run_err m v none 0 [] (-1 - (j : Int)) 2 W (HT.out.below (HBX.out.trans (h.mono HBX.out.size))) hi ho (RdG.nil _ _ _) (Nat.le_refl _) (by decide) (by unfold N64; omega) (fun x hx => by cases hx) (runE_2 hc (by omega)) (by decide)
      have HRC : Hid (∀ (W : World) (m : Img) (v : ImgV) (g : Nat), Below X.heap.size X W → ImgRd W W.heap.size m v → ImgOk m v → checkE m = 0 → Blk W g 3 [.int .i64 1099511627777] → Calls Tryd.prog 22 #[.agg (m.val v), .slice (some ⟨g, 0, none⟩) 1 1, .int .i64 1] W fun e w' => e = .returned (.tuple #[.agg #[.slice none 0 0, .int .i64 0, .int .i64 0, .int .i64 0], .int .i64 2]) ∧ Below W.heap.size W w') := Lib.hid fun W m v g h hi ho hc hg =>
        run_err m v (some ⟨g, 0, none⟩) 1 [1099511627777] 1 2 W (HT.out.below (HBX.out.trans (h.mono HBX.out.size))) hi ho (fun _ => ⟨g, 0, rfl, hg.lt, fun x u hu => by rw [Nat.zero_add]; exact hg.cell x (by simpa [intsV] using hu)⟩) (Nat.le_refl _) (by decide) ⟨by decide, by decide⟩ (fun x hx => by rw [List.mem_singleton.1 hx]; exact ⟨by decide, by decide⟩) (runE_3 hc) (by decide)
      obtain ⟨OZ, hOZ⟩ : ∃ O, Obj.cells z101.toArray 3 (0, 0) = O := ⟨_, rfl⟩
      have HOZ : Hid (OZ = Obj.cells z101.toArray 3 (0, 0)) := Lib.hid hOZ.symm
      have HMK : Hid (∀ W : World, (Instr.makeSlice 26 (.int .i64 101) (.int .i64 101)).run Tryd.prog W = .ok (.slice (some ⟨W.heap.size, 0, none⟩) 101 101) (W.alloc OZ)) := Lib.hid fun W => by
        rw [HOZ.out]
        kernel_rfl
      clear hOZ hb6 hr6 HTO HR1 HB1 hc1 HO HW HB HZ hs HI41 HQ HTJ
      go_upto_region 14 with fail
      go_cut [13, 14] (fun s13 s14 wx => ∃ (b : Nat), s13 = .pointer (some ⟨b, 0, none⟩) ∧ s14 = .int .i64 1 ∧ Hid (Below X.heap.size X wx))
      case first =>
        as_aux_lemma =>
          refine wp_region_W (fun _ => True) 9 (by kernel_rfl) trivial (fun hHeld => ?_)
          have hbD : Below X.heap.size X X.drew := (Below.refl _ _).drew
          refine wpW_all [0, 1, 6] (by kernel_rfl) (by simp) ?_
          refine AllW.cons (i := 0) rfl (fun K hK => ?_) ?_
          · skip
            go_simp
            refine (HPG.out (X.drew) hbD).mono ?_
            rintro e w0 ⟨hb0, v0, m0, rfl, hi0⟩
            have hbX0 : Below X.heap.size X w0 := hbD.trans (hb0.mono hbD.size)
            refine hK.out _ _ trivial (fun hHeld => ?_)
            clear hK K
            try simp only [Act.put, List.setIfInBounds_toArray, List.set_cons_zero, List.set_cons_succ]
            refine wpW_all [1, 6] (by kernel_rfl) (by simp) ?_
            refine AllW.cons (i := 1) rfl (fun K hK => ?_) ?_
            · skip
              have hmk := HMK.out (w0)
              go_simp
              clear hmk
              have zm0 : Blk ((w0.alloc OZ)) (w0.heap.size) 3 z101 := by rw [HOZ.out]; exact Blk.new w0 _ _
              have hbA10 : Below X.heap.size X ((w0.alloc OZ)) := (Below.alloc (show Below X.heap.size X (w0) from ⟨hbX0.os, hbX0.tape, hbX0.output, hbX0.size, hbX0.block⟩) hbX0.size _)
              refine hK.out _ _ trivial (fun hHeld => ?_)
              clear hK K
              try simp only [Act.put, List.setIfInBounds_toArray, List.set_cons_zero, List.set_cons_succ]
              refine wpW_all [2, 6] (by kernel_rfl) (by simp) ?_
              refine AllW.cons (i := 2) rfl (fun K hK => ?_) ?_
              · skip
                go_simp
                have hbq : Below w0.heap.size w0 ((w0.alloc OZ)) := by exact (Below.alloc (Below.refl w0.heap.size w0) (Nat.le_refl _) _)
                have hj2 := (hi0.out.1.below hbq).more hbq.size
                refine (HRA.out ((w0.alloc OZ)) m0 v0 w0.heap.size hbA10 hj2 hi0.out.2.1 hi0.out.2.2 zm0).mono ?_
                rintro e w2 ⟨rfl, hb2⟩
                have hbX2 : Below X.heap.size X w2 := hbA10.trans (hb2.mono hbA10.size)
                have zm3 := zm0.keep hb2
                refine hK.out _ _ trivial (fun hHeld => ?_)
                clear hK K
                try simp only [Act.put, List.setIfInBounds_toArray, List.set_cons_zero, List.set_cons_succ]
                refine wpW_take 3 (v := ?_) rfl (by kernel_rfl) (by kernel_rfl) (by kernel_rfl) (by kernel_rfl) (fun _ _ _ h => h) (Or.inl ⟨by rfl, ?_⟩) hHeld ?_
                rotate_left
                · intro w hSw
                  try dsimp only at hSw
                  go_simp
                  try with_reducible rfl
                try simp only [Act.put, List.setIfInBounds_toArray, List.set_cons_zero, List.set_cons_succ]
                refine wpW_take 4 (v := ?_) rfl (by kernel_rfl) (by kernel_rfl) (by kernel_rfl) (by kernel_rfl) (fun _ _ _ h => h) (Or.inl ⟨by rfl, ?_⟩) hHeld ?_
                rotate_left
                · intro w hSw
                  try dsimp only at hSw
                  go_simp
                  try with_reducible rfl
                try simp only [Act.put, List.setIfInBounds_toArray, List.set_cons_zero, List.set_cons_succ]
                refine wpW_take 5 (v := ?_) rfl (by kernel_rfl) (by kernel_rfl) (by kernel_rfl) (by kernel_rfl) (fun _ _ _ h => h) (Or.inl ⟨by rfl, ?_⟩) hHeld ?_
                rotate_left
                · intro w hSw
                  try dsimp only at hSw
                  go_simp
                  try with_reducible rfl
                try simp only [Act.put, List.setIfInBounds_toArray, List.set_cons_zero, List.set_cons_succ]
                refine wpW_one 6 rfl (by kernel_rfl) (fun K hK => ?_)
                go_simp
                have zb0 : Blk ((w2.alloc (.cells #[.slice none 0 0, .int .i64 0, .int .i64 0, .int .i64 0] 46))) (w2.heap.size) 46 [.slice none 0 0, .int .i64 0, .int .i64 0, .int .i64 0] := Blk.new w2 _ _
                have hbA0 : Below X.heap.size X ((w2.alloc (.cells #[.slice none 0 0, .int .i64 0, .int .i64 0, .int .i64 0] 46))) := (Below.alloc (show Below X.heap.size X (w2) from ⟨hbX2.os, hbX2.tape, hbX2.output, hbX2.size, hbX2.block⟩) hbX2.size _)
                have zm3a : Blk ((w2.alloc (.cells #[.slice none 0 0, .int .i64 0, .int .i64 0, .int .i64 0] 46))) (w0.heap.size) 3 z101 := Blk.alloc (w := w2) zm3 _
                refine hK.out _ _ trivial (fun hHeld => ?_)
                clear hK K
                try simp only [Act.put, List.setIfInBounds_toArray, List.set_cons_zero, List.set_cons_succ]
                refine wpW_one 7 rfl (by kernel_rfl) (fun K hK => ?_)
                go_simp
                refine hK.out _ _ trivial (fun hHeld => ?_)
                clear hK K
                try simp only [Act.put, List.setIfInBounds_toArray, List.set_cons_zero, List.set_cons_succ]
                refine wpW_take 8 (v := ?_) rfl (by kernel_rfl) (by kernel_rfl) (by kernel_rfl) (by kernel_rfl) (fun _ _ _ h => h) (Or.inl ⟨by rfl, ?_⟩) hHeld ?_
                rotate_left
                · intro w hSw
                  try dsimp only at hSw
                  go_simp
                  try with_reducible rfl
                try simp only [Act.put, List.setIfInBounds_toArray, List.set_cons_zero, List.set_cons_succ]
                refine wpW_done (by kernel_rfl) ?_ _
                go_wp2
                go_meet
                exact ⟨_, rfl, rfl, Lib.hid (hbX2.alloc hbX2.size _)⟩
              refine AllW.cons (i := 6) rfl (fun K hK => ?_) AllW.nil
              go_simp
              have zb0 : Blk (((w0.alloc OZ).alloc (.cells #[.slice none 0 0, .int .i64 0, .int .i64 0, .int .i64 0] 46))) (w0.heap.size + 1) 46 [.slice none 0 0, .int .i64 0, .int .i64 0, .int .i64 0] := Blk.new2 w0 _ _ _
              have hbA1 : Below X.heap.size X (((w0.alloc OZ).alloc (.cells #[.slice none 0 0, .int .i64 0, .int .i64 0, .int .i64 0] 46))) := (Below.alloc (show Below X.heap.size X ((w0.alloc OZ)) from ⟨hbA10.os, hbA10.tape, hbA10.output, hbA10.size, hbA10.block⟩) hbA10.size _)
              have zm0a : Blk (((w0.alloc OZ).alloc (.cells #[.slice none 0 0, .int .i64 0, .int .i64 0, .int .i64 0] 46))) (w0.heap.size) 3 z101 := Blk.alloc (w := (w0.alloc OZ)) zm0 _
              refine hK.out _ _ trivial (fun hHeld => ?_)
              clear hK K
              try simp only [Act.put, List.setIfInBounds_toArray, List.set_cons_zero, List.set_cons_succ]
              refine wpW_one 2 rfl (by kernel_rfl) (fun K hK => ?_)
              go_simp
              have hbq : Below w0.heap.size w0 (((w0.alloc OZ).alloc (.cells #[.slice none 0 0, .int .i64 0, .int .i64 0, .int .i64 0] 46))) := by exact (Below.alloc (Below.alloc (Below.refl w0.heap.size w0) (Nat.le_refl _) _) (by simp; try omega) _)
              have hj2 := (hi0.out.1.below hbq).more hbq.size
              refine (HRA.out (((w0.alloc OZ).alloc (.cells #[.slice none 0 0, .int .i64 0, .int .i64 0, .int .i64 0] 46))) m0 v0 w0.heap.size hbA1 hj2 hi0.out.2.1 hi0.out.2.2 zm0a).mono ?_
              rintro e w2 ⟨rfl, hb2⟩
              have hbX2 : Below X.heap.size X w2 := hbA1.trans (hb2.mono hbA1.size)
              have zb3 := zb0.keep hb2
              have zc2_0 := zb3.cell 0 rfl
              have zf2_0 := zb3.free 0
              have zc2_1 := zb3.cell 1 rfl
              have zf2_1 := zb3.free 1
              have zc2_2 := zb3.cell 2 rfl
              have zf2_2 := zb3.free 2
              have zc2_3 := zb3.cell 3 rfl
              have zf2_3 := zb3.free 3
              have zl2 := zb3.lt
              have zm3 := zm0a.keep hb2
              refine hK.out _ _ trivial (fun hHeld => ?_)
              clear hK K
              try simp only [Act.put, List.setIfInBounds_toArray, List.set_cons_zero, List.set_cons_succ]
              refine wpW_take 3 (v := ?_) rfl (by kernel_rfl) (by kernel_rfl) (by kernel_rfl) (by kernel_rfl) (fun _ _ _ h => h) (Or.inl ⟨by rfl, ?_⟩) hHeld ?_
              rotate_left
              · intro w hSw
                try dsimp only at hSw
                go_simp
                try with_reducible rfl
              try simp only [Act.put, List.setIfInBounds_toArray, List.set_cons_zero, List.set_cons_succ]
              refine wpW_take 4 (v := ?_) rfl (by kernel_rfl) (by kernel_rfl) (by kernel_rfl) (by kernel_rfl) (fun _ _ _ h => h) (Or.inl ⟨by rfl, ?_⟩) hHeld ?_
              rotate_left
              · intro w hSw
                try dsimp only at hSw
                go_simp
                try with_reducible rfl
              try simp only [Act.put, List.setIfInBounds_toArray, List.set_cons_zero, List.set_cons_succ]
              refine wpW_take 5 (v := ?_) rfl (by kernel_rfl) (by kernel_rfl) (by kernel_rfl) (by kernel_rfl) (fun _ _ _ h => h) (Or.inl ⟨by rfl, ?_⟩) hHeld ?_
              rotate_left
              · intro w hSw
                try dsimp only at hSw
                go_simp
                try with_reducible rfl
              try simp only [Act.put, List.setIfInBounds_toArray, List.set_cons_zero, List.set_cons_succ]
              refine wpW_one 7 rfl (by kernel_rfl) (fun K hK => ?_)
              go_simp
              refine hK.out _ _ trivial (fun hHeld => ?_)
              clear hK K
              try simp only [Act.put, List.setIfInBounds_toArray, List.set_cons_zero, List.set_cons_succ]
              refine wpW_take 8 (v := ?_) rfl (by kernel_rfl) (by kernel_rfl) (by kernel_rfl) (by kernel_rfl) (fun _ _ _ h => h) (Or.inl ⟨by rfl, ?_⟩) hHeld ?_
              rotate_left
              · intro w hSw
                try dsimp only at hSw
                go_simp
                try with_reducible rfl
              try simp only [Act.put, List.setIfInBounds_toArray, List.set_cons_zero, List.set_cons_succ]
              refine wpW_done (by kernel_rfl) ?_ _
              go_wp2
              go_meet
              exact ⟨_, rfl, rfl, Lib.hid (below_set4 hbX2 (by have := hbA10.size; (try simp at this); omega) _ _ _ _)⟩
            refine AllW.cons (i := 6) rfl (fun K hK => ?_) AllW.nil
            go_simp
            have zb0 : Blk ((w0.alloc (.cells #[.slice none 0 0, .int .i64 0, .int .i64 0, .int .i64 0] 46))) (w0.heap.size) 46 [.slice none 0 0, .int .i64 0, .int .i64 0, .int .i64 0] := Blk.new w0 _ _
            have hbA0 : Below X.heap.size X ((w0.alloc (.cells #[.slice none 0 0, .int .i64 0, .int .i64 0, .int .i64 0] 46))) := (Below.alloc (show Below X.heap.size X (w0) from ⟨hbX0.os, hbX0.tape, hbX0.output, hbX0.size, hbX0.block⟩) hbX0.size _)
            refine hK.out _ _ trivial (fun hHeld => ?_)
            clear hK K
            try simp only [Act.put, List.setIfInBounds_toArray, List.set_cons_zero, List.set_cons_succ]
            refine wpW_one 1 rfl (by kernel_rfl) (fun K hK => ?_)
            have hmk := HMK.out ((w0.alloc (.cells #[.slice none 0 0, .int .i64 0, .int .i64 0, .int .i64 0] 46)))
            go_simp
            clear hmk
            have zm0 : Blk (((w0.alloc (.cells #[.slice none 0 0, .int .i64 0, .int .i64 0, .int .i64 0] 46)).alloc OZ)) (w0.heap.size + 1) 3 z101 := by rw [HOZ.out]; exact Blk.new2 w0 _ _ _
            have hbA11 : Below X.heap.size X (((w0.alloc (.cells #[.slice none 0 0, .int .i64 0, .int .i64 0, .int .i64 0] 46)).alloc OZ)) := (Below.alloc (show Below X.heap.size X ((w0.alloc (.cells #[.slice none 0 0, .int .i64 0, .int .i64 0, .int .i64 0] 46))) from ⟨hbA0.os, hbA0.tape, hbA0.output, hbA0.size, hbA0.block⟩) hbA0.size _)
            have zb0a : Blk (((w0.alloc (.cells #[.slice none 0 0, .int .i64 0, .int .i64 0, .int .i64 0] 46)).alloc OZ)) (w0.heap.size) 46 [.slice none 0 0, .int .i64 0, .int .i64 0, .int .i64 0] := Blk.alloc (w := (w0.alloc (.cells #[.slice none 0 0, .int .i64 0, .int .i64 0, .int .i64 0] 46))) zb0 _
            refine hK.out _ _ trivial (fun hHeld => ?_)
            clear hK K
            try simp only [Act.put, List.setIfInBounds_toArray, List.set_cons_zero, List.set_cons_succ]
            refine wpW_one 2 rfl (by kernel_rfl) (fun K hK => ?_)
            go_simp
            have hbq : Below w0.heap.size w0 (((w0.alloc (.cells #[.slice none 0 0, .int .i64 0, .int .i64 0, .int .i64 0] 46)).alloc OZ)) := by exact (Below.alloc (Below.alloc (Below.refl w0.heap.size w0) (Nat.le_refl _) _) (by simp; try omega) _)
            have hj2 := (hi0.out.1.below hbq).more hbq.size
            refine (HRA.out (((w0.alloc (.cells #[.slice none 0 0, .int .i64 0, .int .i64 0, .int .i64 0] 46)).alloc OZ)) m0 v0 (w0.heap.size + 1) hbA11 hj2 hi0.out.2.1 hi0.out.2.2 zm0).mono ?_
            rintro e w2 ⟨rfl, hb2⟩
            have hbX2 : Below X.heap.size X w2 := hbA11.trans (hb2.mono hbA11.size)
            have zb3 := zb0a.keep hb2
            have zc2_0 := zb3.cell 0 rfl
            have zf2_0 := zb3.free 0
            have zc2_1 := zb3.cell 1 rfl
            have zf2_1 := zb3.free 1
            have zc2_2 := zb3.cell 2 rfl
            have zf2_2 := zb3.free 2
            have zc2_3 := zb3.cell 3 rfl
            have zf2_3 := zb3.free 3
            have zl2 := zb3.lt
            have zm3 := zm0.keep hb2
            refine hK.out _ _ trivial (fun hHeld => ?_)
            clear hK K
            try simp only [Act.put, List.setIfInBounds_toArray, List.set_cons_zero, List.set_cons_succ]
            refine wpW_take 3 (v := ?_) rfl (by kernel_rfl) (by kernel_rfl) (by kernel_rfl) (by kernel_rfl) (fun _ _ _ h => h) (Or.inl ⟨by rfl, ?_⟩) hHeld ?_
            rotate_left
            · intro w hSw
              try dsimp only at hSw
              go_simp
              try with_reducible rfl
            try simp only [Act.put, List.setIfInBounds_toArray, List.set_cons_zero, List.set_cons_succ]
            refine wpW_take 4 (v := ?_) rfl (by kernel_rfl) (by kernel_rfl) (by kernel_rfl) (by kernel_rfl) (fun _ _ _ h => h) (Or.inl ⟨by rfl, ?_⟩) hHeld ?_
            rotate_left
            · intro w hSw
              try dsimp only at hSw
              go_simp
              try with_reducible rfl
            try simp only [Act.put, List.setIfInBounds_toArray, List.set_cons_zero, List.set_cons_succ]
            refine wpW_take 5 (v := ?_) rfl (by kernel_rfl) (by kernel_rfl) (by kernel_rfl) (by kernel_rfl) (fun _ _ _ h => h) (Or.inl ⟨by rfl, ?_⟩) hHeld ?_
            rotate_left
            · intro w hSw
              try dsimp only at hSw
              go_simp
              try with_reducible rfl
            try simp only [Act.put, List.setIfInBounds_toArray, List.set_cons_zero, List.set_cons_succ]
            refine wpW_one 7 rfl (by kernel_rfl) (fun K hK => ?_)
            go_simp
            refine hK.out _ _ trivial (fun hHeld => ?_)
            clear hK K
            try simp only [Act.put, List.setIfInBounds_toArray, List.set_cons_zero, List.set_cons_succ]
            refine wpW_take 8 (v := ?_) rfl (by kernel_rfl) (by kernel_rfl) (by kernel_rfl) (by kernel_rfl) (fun _ _ _ h => h) (Or.inl ⟨by rfl, ?_⟩) hHeld ?_
            rotate_left
            · intro w hSw
              try dsimp only at hSw
              go_simp
              try with_reducible rfl
            try simp only [Act.put, List.setIfInBounds_toArray, List.set_cons_zero, List.set_cons_succ]
            refine wpW_done (by kernel_rfl) ?_ _
            go_wp2
            go_meet
            exact ⟨_, rfl, rfl, Lib.hid (below_set4 hbX2 (by have := hbX0.size; (try simp at this); omega) _ _ _ _)⟩
          refine AllW.cons (i := 1) rfl (fun K hK => ?_) ?_
          · skip
            have hmk := HMK.out (X.drew)
            go_simp
            clear hmk
            have zm0 : Blk ((X.alloc OZ).drew) (X.heap.size) 3 z101 := by rw [HOZ.out]; exact Blk.new X _ _
            have hbA10 : Below X.heap.size X ((X.alloc OZ).drew) := Below.drew (Below.alloc (show Below X.heap.size X (X) from ⟨hbD.os, hbD.tape, hbD.output, hbD.size, hbD.block⟩) hbD.size _)
            refine hK.out _ _ trivial (fun hHeld => ?_)
            clear hK K
            try simp only [Act.put, List.setIfInBounds_toArray, List.set_cons_zero, List.set_cons_succ]
            refine wpW_all [0, 6] (by kernel_rfl) (by simp) ?_
            refine AllW.cons (i := 0) rfl (fun K hK => ?_) ?_
            · skip
              go_simp
              refine (HPG.out ((X.alloc OZ).drew) hbA10).mono ?_
              rintro e w0 ⟨hb0, v0, m0, rfl, hi0⟩
              have hbX0 : Below X.heap.size X w0 := hbA10.trans (hb0.mono hbA10.size)
              have zm1 := zm0.keep hb0
              refine hK.out _ _ trivial (fun hHeld => ?_)
              clear hK K
              try simp only [Act.put, List.setIfInBounds_toArray, List.set_cons_zero, List.set_cons_succ]
              refine wpW_all [2, 6] (by kernel_rfl) (by simp) ?_
              refine AllW.cons (i := 2) rfl (fun K hK => ?_) ?_
              · skip
                go_simp
                have hj2 := hi0.out.1
                refine (HRA.out (w0) m0 v0 X.heap.size hbX0 hj2 hi0.out.2.1 hi0.out.2.2 zm1).mono ?_
                rintro e w2 ⟨rfl, hb2⟩
                have hbX2 : Below X.heap.size X w2 := hbX0.trans (hb2.mono hbX0.size)
                have zm3 := zm1.keep hb2
                refine hK.out _ _ trivial (fun hHeld => ?_)
                clear hK K
                try simp only [Act.put, List.setIfInBounds_toArray, List.set_cons_zero, List.set_cons_succ]
                refine wpW_take 3 (v := ?_) rfl (by kernel_rfl) (by kernel_rfl) (by kernel_rfl) (by kernel_rfl) (fun _ _ _ h => h) (Or.inl ⟨by rfl, ?_⟩) hHeld ?_
                rotate_left
                · intro w hSw
                  try dsimp only at hSw
                  go_simp
                  try with_reducible rfl
                try simp only [Act.put, List.setIfInBounds_toArray, List.set_cons_zero, List.set_cons_succ]
                refine wpW_take 4 (v := ?_) rfl (by kernel_rfl) (by kernel_rfl) (by kernel_rfl) (by kernel_rfl) (fun _ _ _ h => h) (Or.inl ⟨by rfl, ?_⟩) hHeld ?_
                rotate_left
                · intro w hSw
                  try dsimp only at hSw
                  go_simp
                  try with_reducible rfl
                try simp only [Act.put, List.setIfInBounds_toArray, List.set_cons_zero, List.set_cons_succ]
                refine wpW_take 5 (v := ?_) rfl (by kernel_rfl) (by kernel_rfl) (by kernel_rfl) (by kernel_rfl) (fun _ _ _ h => h) (Or.inl ⟨by rfl, ?_⟩) hHeld ?_
                rotate_left
                · intro w hSw
                  try dsimp only at hSw
                  go_simp
                  try with_reducible rfl
                try simp only [Act.put, List.setIfInBounds_toArray, List.set_cons_zero, List.set_cons_succ]
                refine wpW_one 6 rfl (by kernel_rfl) (fun K hK => ?_)
                go_simp
                have zb0 : Blk ((w2.alloc (.cells #[.slice none 0 0, .int .i64 0, .int .i64 0, .int .i64 0] 46))) (w2.heap.size) 46 [.slice none 0 0, .int .i64 0, .int .i64 0, .int .i64 0] := Blk.new w2 _ _
                have hbA0 : Below X.heap.size X ((w2.alloc (.cells #[.slice none 0 0, .int .i64 0, .int .i64 0, .int .i64 0] 46))) := (Below.alloc (show Below X.heap.size X (w2) from ⟨hbX2.os, hbX2.tape, hbX2.output, hbX2.size, hbX2.block⟩) hbX2.size _)
                have zm3a : Blk ((w2.alloc (.cells #[.slice none 0 0, .int .i64 0, .int .i64 0, .int .i64 0] 46))) (X.heap.size) 3 z101 := Blk.alloc (w := w2) zm3 _
                refine hK.out _ _ trivial (fun hHeld => ?_)
                clear hK K
                try simp only [Act.put, List.setIfInBounds_toArray, List.set_cons_zero, List.set_cons_succ]
                refine wpW_one 7 rfl (by kernel_rfl) (fun K hK => ?_)
                go_simp
                refine hK.out _ _ trivial (fun hHeld => ?_)
                clear hK K
                try simp only [Act.put, List.setIfInBounds_toArray, List.set_cons_zero, List.set_cons_succ]
                refine wpW_take 8 (v := ?_) rfl (by kernel_rfl) (by kernel_rfl) (by kernel_rfl) (by kernel_rfl) (fun _ _ _ h => h) (Or.inl ⟨by rfl, ?_⟩) hHeld ?_
                rotate_left
                · intro w hSw
                  try dsimp only at hSw
                  go_simp
                  try with_reducible rfl
                try simp only [Act.put, List.setIfInBounds_toArray, List.set_cons_zero, List.set_cons_succ]
                refine wpW_done (by kernel_rfl) ?_ _
                go_wp2
                go_meet
                exact ⟨_, rfl, rfl, Lib.hid (hbX2.alloc hbX2.size _)⟩
              refine AllW.cons (i := 6) rfl (fun K hK => ?_) AllW.nil
              go_simp
              have zb0 : Blk ((w0.alloc (.cells #[.slice none 0 0, .int .i64 0, .int .i64 0, .int .i64 0] 46))) (w0.heap.size) 46 [.slice none 0 0, .int .i64 0, .int .i64 0, .int .i64 0] := Blk.new w0 _ _
              have hbA0 : Below X.heap.size X ((w0.alloc (.cells #[.slice none 0 0, .int .i64 0, .int .i64 0, .int .i64 0] 46))) := (Below.alloc (show Below X.heap.size X (w0) from ⟨hbX0.os, hbX0.tape, hbX0.output, hbX0.size, hbX0.block⟩) hbX0.size _)
              have zm1a : Blk ((w0.alloc (.cells #[.slice none 0 0, .int .i64 0, .int .i64 0, .int .i64 0] 46))) (X.heap.size) 3 z101 := Blk.alloc (w := w0) zm1 _
              refine hK.out _ _ trivial (fun hHeld => ?_)
              clear hK K
              try simp only [Act.put, List.setIfInBounds_toArray, List.set_cons_zero, List.set_cons_succ]
              refine wpW_one 2 rfl (by kernel_rfl) (fun K hK => ?_)
              go_simp
              have hbq : Below w0.heap.size w0 ((w0.alloc (.cells #[.slice none 0 0, .int .i64 0, .int .i64 0, .int .i64 0] 46))) := by exact (Below.alloc (Below.refl w0.heap.size w0) (Nat.le_refl _) _)
              have hj2 := (hi0.out.1.below hbq).more hbq.size
              refine (HRA.out ((w0.alloc (.cells #[.slice none 0 0, .int .i64 0, .int .i64 0, .int .i64 0] 46))) m0 v0 X.heap.size hbA0 hj2 hi0.out.2.1 hi0.out.2.2 zm1a).mono ?_
              rintro e w2 ⟨rfl, hb2⟩
              have hbX2 : Below X.heap.size X w2 := hbA0.trans (hb2.mono hbA0.size)
              have zb3 := zb0.keep hb2
              have zc2_0 := zb3.cell 0 rfl
              have zf2_0 := zb3.free 0
              have zc2_1 := zb3.cell 1 rfl
              have zf2_1 := zb3.free 1
              have zc2_2 := zb3.cell 2 rfl
              have zf2_2 := zb3.free 2
              have zc2_3 := zb3.cell 3 rfl
              have zf2_3 := zb3.free 3
              have zl2 := zb3.lt
              have zm3 := zm1a.keep hb2
              refine hK.out _ _ trivial (fun hHeld => ?_)
              clear hK K
              try simp only [Act.put, List.setIfInBounds_toArray, List.set_cons_zero, List.set_cons_succ]
              refine wpW_take 3 (v := ?_) rfl (by kernel_rfl) (by kernel_rfl) (by kernel_rfl) (by kernel_rfl) (fun _ _ _ h => h) (Or.inl ⟨by rfl, ?_⟩) hHeld ?_
              rotate_left
              · intro w hSw
                try dsimp only at hSw
                go_simp
                try with_reducible rfl
              try simp only [Act.put, List.setIfInBounds_toArray, List.set_cons_zero, List.set_cons_succ]
              refine wpW_take 4 (v := ?_) rfl (by kernel_rfl) (by kernel_rfl) (by kernel_rfl) (by kernel_rfl) (fun _ _ _ h => h) (Or.inl ⟨by rfl, ?_⟩) hHeld ?_
              rotate_left
              · intro w hSw
                try dsimp only at hSw
                go_simp
                try with_reducible rfl
              try simp only [Act.put, List.setIfInBounds_toArray, List.set_cons_zero, List.set_cons_succ]
              refine wpW_take 5 (v := ?_) rfl (by kernel_rfl) (by kernel_rfl) (by kernel_rfl) (by kernel_rfl) (fun _ _ _ h => h) (Or.inl ⟨by rfl, ?_⟩) hHeld ?_
              rotate_left
              · intro w hSw
                try dsimp only at hSw
                go_simp
                try with_reducible rfl
              try simp only [Act.put, List.setIfInBounds_toArray, List.set_cons_zero, List.set_cons_succ]
              refine wpW_one 7 rfl (by kernel_rfl) (fun K hK => ?_)
              go_simp
              refine hK.out _ _ trivial (fun hHeld => ?_)
              clear hK K
              try simp only [Act.put, List.setIfInBounds_toArray, List.set_cons_zero, List.set_cons_succ]
              refine wpW_take 8 (v := ?_) rfl (by kernel_rfl) (by kernel_rfl) (by kernel_rfl) (by kernel_rfl) (fun _ _ _ h => h) (Or.inl ⟨by rfl, ?_⟩) hHeld ?_
              rotate_left
              · intro w hSw
                try dsimp only at hSw
                go_simp
                try with_reducible rfl
              try simp only [Act.put, List.setIfInBounds_toArray, List.set_cons_zero, List.set_cons_succ]
              refine wpW_done (by kernel_rfl) ?_ _
              go_wp2
              go_meet
              exact ⟨_, rfl, rfl, Lib.hid (below_set4 hbX2 (by have := hbX0.size; (try simp at this); omega) _ _ _ _)⟩
            refine AllW.cons (i := 6) rfl (fun K hK => ?_) AllW.nil
            go_simp
            have zb0 : Blk (((X.alloc OZ).alloc (.cells #[.slice none 0 0, .int .i64 0, .int .i64 0, .int .i64 0] 46)).drew) (X.heap.size + 1) 46 [.slice none 0 0, .int .i64 0, .int .i64 0, .int .i64 0] := Blk.new2 X _ _ _
            have hbA1 : Below X.heap.size X (((X.alloc OZ).alloc (.cells #[.slice none 0 0, .int .i64 0, .int .i64 0, .int .i64 0] 46)).drew) := Below.drew (Below.alloc (show Below X.heap.size X ((X.alloc OZ)) from ⟨hbA10.os, hbA10.tape, hbA10.output, hbA10.size, hbA10.block⟩) hbA10.size _)
            have zm0a : Blk (((X.alloc OZ).alloc (.cells #[.slice none 0 0, .int .i64 0, .int .i64 0, .int .i64 0] 46)).drew) (X.heap.size) 3 z101 := Blk.alloc (w := (X.alloc OZ)) zm0 _
            refine hK.out _ _ trivial (fun hHeld => ?_)
            clear hK K
            try simp only [Act.put, List.setIfInBounds_toArray, List.set_cons_zero, List.set_cons_succ]
            refine wpW_one 0 rfl (by kernel_rfl) (fun K hK => ?_)
            go_simp
            refine (HPG.out (((X.alloc OZ).alloc (.cells #[.slice none 0 0, .int .i64 0, .int .i64 0, .int .i64 0] 46)).drew) hbA1).mono ?_
            rintro e w0 ⟨hb0, v0, m0, rfl, hi0⟩
            have hbX0 : Below X.heap.size X w0 := hbA1.trans (hb0.mono hbA1.size)
            have zb1 := zb0.keep hb0
            have zc0_0 := zb1.cell 0 rfl
            have zf0_0 := zb1.free 0
            have zc0_1 := zb1.cell 1 rfl
            have zf0_1 := zb1.free 1
            have zc0_2 := zb1.cell 2 rfl
            have zf0_2 := zb1.free 2
            have zc0_3 := zb1.cell 3 rfl
            have zf0_3 := zb1.free 3
            have zl0 := zb1.lt
            have zm1 := zm0a.keep hb0
            refine hK.out _ _ trivial (fun hHeld => ?_)
            clear hK K
            try simp only [Act.put, List.setIfInBounds_toArray, List.set_cons_zero, List.set_cons_succ]
            refine wpW_one 2 rfl (by kernel_rfl) (fun K hK => ?_)
            go_simp
            have hj2 := hi0.out.1
            refine (HRA.out (w0) m0 v0 X.heap.size hbX0 hj2 hi0.out.2.1 hi0.out.2.2 zm1).mono ?_
            rintro e w2 ⟨rfl, hb2⟩
            have hbX2 : Below X.heap.size X w2 := hbX0.trans (hb2.mono hbX0.size)
            have zb3 := zb1.keep hb2
            have zc2_0 := zb3.cell 0 rfl
            have zf2_0 := zb3.free 0
            have zc2_1 := zb3.cell 1 rfl
            have zf2_1 := zb3.free 1
            have zc2_2 := zb3.cell 2 rfl
            have zf2_2 := zb3.free 2
            have zc2_3 := zb3.cell 3 rfl
            have zf2_3 := zb3.free 3
            have zl2 := zb3.lt
            have zm3 := zm1.keep hb2
            refine hK.out _ _ trivial (fun hHeld => ?_)
            clear hK K
            try simp only [Act.put, List.setIfInBounds_toArray, List.set_cons_zero, List.set_cons_succ]
            refine wpW_take 3 (v := ?_) rfl (by kernel_rfl) (by kernel_rfl) (by kernel_rfl) (by kernel_rfl) (fun _ _ _ h => h) (Or.inl ⟨by rfl, ?_⟩) hHeld ?_
            rotate_left
            · intro w hSw
              try dsimp only at hSw
              go_simp
              try with_reducible rfl
            try simp only [Act.put, List.setIfInBounds_toArray, List.set_cons_zero, List.set_cons_succ]
            refine wpW_take 4 (v := ?_) rfl (by kernel_rfl) (by kernel_rfl) (by kernel_rfl) (by kernel_rfl) (fun _ _ _ h => h) (Or.inl ⟨by rfl, ?_⟩) hHeld ?_
            rotate_left
            · intro w hSw
              try dsimp only at hSw
              go_simp
              try with_reducible rfl
            try simp only [Act.put, List.setIfInBounds_toArray, List.set_cons_zero, List.set_cons_succ]
            refine wpW_take 5 (v := ?_) rfl (by kernel_rfl) (by kernel_rfl) (by kernel_rfl) (by kernel_rfl) (fun _ _ _ h => h) (Or.inl ⟨by rfl, ?_⟩) hHeld ?_
            rotate_left
            · intro w hSw
              try dsimp only at hSw
              go_simp
              try with_reducible rfl
            try simp only [Act.put, List.setIfInBounds_toArray, List.set_cons_zero, List.set_cons_succ]
            refine wpW_one 7 rfl (by kernel_rfl) (fun K hK => ?_)
            go_simp
            refine hK.out _ _ trivial (fun hHeld => ?_)
            clear hK K
            try simp only [Act.put, List.setIfInBounds_toArray, List.set_cons_zero, List.set_cons_succ]
            refine wpW_take 8 (v := ?_) rfl (by kernel_rfl) (by kernel_rfl) (by kernel_rfl) (by kernel_rfl) (fun _ _ _ h => h) (Or.inl ⟨by rfl, ?_⟩) hHeld ?_
            rotate_left
            · intro w hSw
              try dsimp only at hSw
              go_simp
              try with_reducible rfl
            try simp only [Act.put, List.setIfInBounds_toArray, List.set_cons_zero, List.set_cons_succ]
            refine wpW_done (by kernel_rfl) ?_ _
            go_wp2
            go_meet
            exact ⟨_, rfl, rfl, Lib.hid (below_set4 hbX2 (by have := hbA10.size; (try simp at this); omega) _ _ _ _)⟩
          refine AllW.cons (i := 6) rfl (fun K hK => ?_) AllW.nil
          go_simp
          have zb0 : Blk ((X.alloc (.cells #[.slice none 0 0, .int .i64 0, .int .i64 0, .int .i64 0] 46)).drew) (X.heap.size) 46 [.slice none 0 0, .int .i64 0, .int .i64 0, .int .i64 0] := Blk.new X _ _
          have hbA0 : Below X.heap.size X ((X.alloc (.cells #[.slice none 0 0, .int .i64 0, .int .i64 0, .int .i64 0] 46)).drew) := Below.drew (Below.alloc (show Below X.heap.size X (X) from ⟨hbD.os, hbD.tape, hbD.output, hbD.size, hbD.block⟩) hbD.size _)
          refine hK.out _ _ trivial (fun hHeld => ?_)
          clear hK K
          try simp only [Act.put, List.setIfInBounds_toArray, List.set_cons_zero, List.set_cons_succ]
          refine wpW_all [0, 1] (by kernel_rfl) (by simp) ?_
          refine AllW.cons (i := 0) rfl (fun K hK => ?_) ?_
          · skip
            go_simp
            refine (HPG.out ((X.alloc (.cells #[.slice none 0 0, .int .i64 0, .int .i64 0, .int .i64 0] 46)).drew) hbA0).mono ?_
            rintro e w0 ⟨hb0, v0, m0, rfl, hi0⟩
            have hbX0 : Below X.heap.size X w0 := hbA0.trans (hb0.mono hbA0.size)
            have zb1 := zb0.keep hb0
            have zc0_0 := zb1.cell 0 rfl
            have zf0_0 := zb1.free 0
            have zc0_1 := zb1.cell 1 rfl
            have zf0_1 := zb1.free 1
            have zc0_2 := zb1.cell 2 rfl
            have zf0_2 := zb1.free 2
            have zc0_3 := zb1.cell 3 rfl
            have zf0_3 := zb1.free 3
            have zl0 := zb1.lt
            refine hK.out _ _ trivial (fun hHeld => ?_)
            clear hK K
            try simp only [Act.put, List.setIfInBounds_toArray, List.set_cons_zero, List.set_cons_succ]
            refine wpW_one 1 rfl (by kernel_rfl) (fun K hK => ?_)
            have hmk := HMK.out (w0)
            go_simp
            clear hmk
            have zm0 : Blk ((w0.alloc OZ)) (w0.heap.size) 3 z101 := by rw [HOZ.out]; exact Blk.new w0 _ _
            have hbA10 : Below X.heap.size X ((w0.alloc OZ)) := (Below.alloc (show Below X.heap.size X (w0) from ⟨hbX0.os, hbX0.tape, hbX0.output, hbX0.size, hbX0.block⟩) hbX0.size _)
            have zb1a : Blk ((w0.alloc OZ)) (X.heap.size) 46 [.slice none 0 0, .int .i64 0, .int .i64 0, .int .i64 0] := Blk.alloc (w := w0) zb1 _
            refine hK.out _ _ trivial (fun hHeld => ?_)
            clear hK K
            try simp only [Act.put, List.setIfInBounds_toArray, List.set_cons_zero, List.set_cons_succ]
            refine wpW_one 2 rfl (by kernel_rfl) (fun K hK => ?_)
            go_simp
            have hbq : Below w0.heap.size w0 ((w0.alloc OZ)) := by exact (Below.alloc (Below.refl w0.heap.size w0) (Nat.le_refl _) _)
            have hj2 := (hi0.out.1.below hbq).more hbq.size
            refine (HRA.out ((w0.alloc OZ)) m0 v0 w0.heap.size hbA10 hj2 hi0.out.2.1 hi0.out.2.2 zm0).mono ?_
            rintro e w2 ⟨rfl, hb2⟩
            have hbX2 : Below X.heap.size X w2 := hbA10.trans (hb2.mono hbA10.size)
            have zb3 := zb1a.keep hb2
            have zc2_0 := zb3.cell 0 rfl
            have zf2_0 := zb3.free 0
            have zc2_1 := zb3.cell 1 rfl
            have zf2_1 := zb3.free 1
            have zc2_2 := zb3.cell 2 rfl
            have zf2_2 := zb3.free 2
            have zc2_3 := zb3.cell 3 rfl
            have zf2_3 := zb3.free 3
            have zl2 := zb3.lt
            have zm3 := zm0.keep hb2
            refine hK.out _ _ trivial (fun hHeld => ?_)
            clear hK K
            try simp only [Act.put, List.setIfInBounds_toArray, List.set_cons_zero, List.set_cons_succ]
            refine wpW_take 3 (v := ?_) rfl (by kernel_rfl) (by kernel_rfl) (by kernel_rfl) (by kernel_rfl) (fun _ _ _ h => h) (Or.inl ⟨by rfl, ?_⟩) hHeld ?_
            rotate_left
            · intro w hSw
              try dsimp only at hSw
              go_simp
              try with_reducible rfl
            try simp only [Act.put, List.setIfInBounds_toArray, List.set_cons_zero, List.set_cons_succ]
            refine wpW_take 4 (v := ?_) rfl (by kernel_rfl) (by kernel_rfl) (by kernel_rfl) (by kernel_rfl) (fun _ _ _ h => h) (Or.inl ⟨by rfl, ?_⟩) hHeld ?_
            rotate_left
            · intro w hSw
              try dsimp only at hSw
              go_simp
              try with_reducible rfl
            try simp only [Act.put, List.setIfInBounds_toArray, List.set_cons_zero, List.set_cons_succ]
            refine wpW_take 5 (v := ?_) rfl (by kernel_rfl) (by kernel_rfl) (by kernel_rfl) (by kernel_rfl) (fun _ _ _ h => h) (Or.inl ⟨by rfl, ?_⟩) hHeld ?_
            rotate_left
            · intro w hSw
              try dsimp only at hSw
              go_simp
              try with_reducible rfl
            try simp only [Act.put, List.setIfInBounds_toArray, List.set_cons_zero, List.set_cons_succ]
            refine wpW_one 7 rfl (by kernel_rfl) (fun K hK => ?_)
            go_simp
            refine hK.out _ _ trivial (fun hHeld => ?_)
            clear hK K
            try simp only [Act.put, List.setIfInBounds_toArray, List.set_cons_zero, List.set_cons_succ]
            refine wpW_take 8 (v := ?_) rfl (by kernel_rfl) (by kernel_rfl) (by kernel_rfl) (by kernel_rfl) (fun _ _ _ h => h) (Or.inl ⟨by rfl, ?_⟩) hHeld ?_
            rotate_left
            · intro w hSw
              try dsimp only at hSw
              go_simp
              try with_reducible rfl
            try simp only [Act.put, List.setIfInBounds_toArray, List.set_cons_zero, List.set_cons_succ]
            refine wpW_done (by kernel_rfl) ?_ _
            go_wp2
            go_meet
            exact ⟨_, rfl, rfl, Lib.hid (below_set4 hbX2 (by have := hbD.size; (try simp at this); omega) _ _ _ _)⟩
          refine AllW.cons (i := 1) rfl (fun K hK => ?_) AllW.nil
          have hmk := HMK.out ((X.alloc (.cells #[.slice none 0 0, .int .i64 0, .int .i64 0, .int .i64 0] 46)).drew)
          go_simp
          clear hmk
          have zm0 : Blk (((X.alloc (.cells #[.slice none 0 0, .int .i64 0, .int .i64 0, .int .i64 0] 46)).alloc OZ).drew) (X.heap.size + 1) 3 z101 := by rw [HOZ.out]; exact Blk.new2 X _ _ _
          have hbA11 : Below X.heap.size X (((X.alloc (.cells #[.slice none 0 0, .int .i64 0, .int .i64 0, .int .i64 0] 46)).alloc OZ).drew) := Below.drew (Below.alloc (show Below X.heap.size X ((X.alloc (.cells #[.slice none 0 0, .int .i64 0, .int .i64 0, .int .i64 0] 46))) from ⟨hbA0.os, hbA0.tape, hbA0.output, hbA0.size, hbA0.block⟩) hbA0.size _)
          have zb0a : Blk (((X.alloc (.cells #[.slice none 0 0, .int .i64 0, .int .i64 0, .int .i64 0] 46)).alloc OZ).drew) (X.heap.size) 46 [.slice none 0 0, .int .i64 0, .int .i64 0, .int .i64 0] := Blk.alloc (w := (X.alloc (.cells #[.slice none 0 0, .int .i64 0, .int .i64 0, .int .i64 0] 46))) zb0 _
          refine hK.out _ _ trivial (fun hHeld => ?_)
          clear hK K
          try simp only [Act.put, List.setIfInBounds_toArray, List.set_cons_zero, List.set_cons_succ]
          refine wpW_one 0 rfl (by kernel_rfl) (fun K hK => ?_)
          go_simp
          refine (HPG.out (((X.alloc (.cells #[.slice none 0 0, .int .i64 0, .int .i64 0, .int .i64 0] 46)).alloc OZ).drew) hbA11).mono ?_
          rintro e w0 ⟨hb0, v0, m0, rfl, hi0⟩
          have hbX0 : Below X.heap.size X w0 := hbA11.trans (hb0.mono hbA11.size)
          have zb1 := zb0a.keep hb0
          have zc0_0 := zb1.cell 0 rfl
          have zf0_0 := zb1.free 0
          have zc0_1 := zb1.cell 1 rfl
          have zf0_1 := zb1.free 1
          have zc0_2 := zb1.cell 2 rfl
          have zf0_2 := zb1.free 2
          have zc0_3 := zb1.cell 3 rfl
          have zf0_3 := zb1.free 3
          have zl0 := zb1.lt
          have zm1 := zm0.keep hb0
          refine hK.out _ _ trivial (fun hHeld => ?_)
          clear hK K
          try simp only [Act.put, List.setIfInBounds_toArray, List.set_cons_zero, List.set_cons_succ]
          refine wpW_one 2 rfl (by kernel_rfl) (fun K hK => ?_)
          go_simp
          have hj2 := hi0.out.1
          refine (HRA.out (w0) m0 v0 (X.heap.size + 1) hbX0 hj2 hi0.out.2.1 hi0.out.2.2 zm1).mono ?_
          rintro e w2 ⟨rfl, hb2⟩
          have hbX2 : Below X.heap.size X w2 := hbX0.trans (hb2.mono hbX0.size)
          have zb3 := zb1.keep hb2
          have zc2_0 := zb3.cell 0 rfl
          have zf2_0 := zb3.free 0
          have zc2_1 := zb3.cell 1 rfl
          have zf2_1 := zb3.free 1
          have zc2_2 := zb3.cell 2 rfl
          have zf2_2 := zb3.free 2
          have zc2_3 := zb3.cell 3 rfl
          have zf2_3 := zb3.free 3
          have zl2 := zb3.lt
          have zm3 := zm1.keep hb2
          refine hK.out _ _ trivial (fun hHeld => ?_)
          clear hK K
          try simp only [Act.put, List.setIfInBounds_toArray, List.set_cons_zero, List.set_cons_succ]
          refine wpW_take 3 (v := ?_) rfl (by kernel_rfl) (by kernel_rfl) (by kernel_rfl) (by kernel_rfl) (fun _ _ _ h => h) (Or.inl ⟨by rfl, ?_⟩) hHeld ?_
          rotate_left
          · intro w hSw
            try dsimp only at hSw
            go_simp
            try with_reducible rfl
          try simp only [Act.put, List.setIfInBounds_toArray, List.set_cons_zero, List.set_cons_succ]
          refine wpW_take 4 (v := ?_) rfl (by kernel_rfl) (by kernel_rfl) (by kernel_rfl) (by kernel_rfl) (fun _ _ _ h => h) (Or.inl ⟨by rfl, ?_⟩) hHeld ?_
          rotate_left
          · intro w hSw
            try dsimp only at hSw
            go_simp
            try with_reducible rfl
          try simp only [Act.put, List.setIfInBounds_toArray, List.set_cons_zero, List.set_cons_succ]
          refine wpW_take 5 (v := ?_) rfl (by kernel_rfl) (by kernel_rfl) (by kernel_rfl) (by kernel_rfl) (fun _ _ _ h => h) (Or.inl ⟨by rfl, ?_⟩) hHeld ?_
          rotate_left
          · intro w hSw
            try dsimp only at hSw
            go_simp
            try with_reducible rfl
          try simp only [Act.put, List.setIfInBounds_toArray, List.set_cons_zero, List.set_cons_succ]
          refine wpW_one 7 rfl (by kernel_rfl) (fun K hK => ?_)
          go_simp
          refine hK.out _ _ trivial (fun hHeld => ?_)
          clear hK K
          try simp only [Act.put, List.setIfInBounds_toArray, List.set_cons_zero, List.set_cons_succ]
          refine wpW_take 8 (v := ?_) rfl (by kernel_rfl) (by kernel_rfl) (by kernel_rfl) (by kernel_rfl) (fun _ _ _ h => h) (Or.inl ⟨by rfl, ?_⟩) hHeld ?_
          rotate_left
          · intro w hSw
            try dsimp only at hSw
            go_simp
            try with_reducible rfl
          try simp only [Act.put, List.setIfInBounds_toArray, List.set_cons_zero, List.set_cons_succ]
          refine wpW_done (by kernel_rfl) ?_ _
          go_wp2
          go_meet
          exact ⟨_, rfl, rfl, Lib.hid (below_set4 hbX2 (by have := hbD.size; (try simp at this); omega) _ _ _ _)⟩
      case rest =>
        obtain ⟨bx, rfl, rfl, HB14⟩ := hcut
        go_wp2_with fail
        refine (HPG.out _ HB14.out).mono ?_
        rintro e x1 ⟨hx1, v1, m1, rfl, HI1⟩
        have HX1 := Lib.hid (HB14.out.trans (hx1.mono HB14.out.size))
        clear hx1 HB14
        go_wp2_with fail
        refine (HRB.out x1 m1 v1 HX1.out HI1.out.1 HI1.out.2.1 HI1.out.2.2).mono ?_
        rintro e x2 ⟨rfl, hx2⟩
        have HX2 := Lib.hid (HX1.out.trans (hx2.mono HX1.out.size))
        clear hx2 HX1
        go_wp2_with fail
        refine (HPG.out _ (HX2.out.alloc HX2.out.size _)).mono ?_
        rintro e x3 ⟨hx3, v3, m3, rfl, HI3⟩
        have HX3 := Lib.hid ((HX2.out.alloc HX2.out.size (.cells #[.slice none 0 0, .int .i64 0, .int .i64 0, .int .i64 0] 46)).trans (hx3.mono (HX2.out.alloc HX2.out.size _).size))
        clear hx3 HX2
        go_wp2_with fail
        refine (HRC.out _ m3 v3 x3.heap.size (HX3.out.alloc HX3.out.size _) ((HI3.out.1.below ((Below.refl _ _).alloc (Nat.le_refl _) _)).more (by simp)) HI3.out.2.1 HI3.out.2.2 (Blk.new x3 _ _)).mono ?_
        rintro e x4 ⟨rfl, hx4⟩
        have HX4 := Lib.hid ((HX3.out.alloc HX3.out.size (.cells #[.int .i64 1099511627777] 3)).trans (hx4.mono (HX3.out.alloc HX3.out.size _).size))
        clear hx4 HX3
        go_upto_region 17 with fail
        obtain ⟨V, hV⟩ : ∃ z, x4.alloc (.cells #[.slice none 0 0, .int .i64 0, .int .i64 0, .int .i64 0] 46) = z := ⟨_, rfl⟩
        rw [hV]
        have HBV : Hid (Below X.heap.size X V) := Lib.hid (by rw [← hV]; exact HX4.out.alloc HX4.out.size _)
        clear hV
        have HEQ := Lib.hid (eqi_same T A6 C j c6 j f V ((HRX.out.below HBV.out).more HBV.out.size) ((HWX.out.below HBV.out).more HBV.out.size) HTL.out.symm HTL.out.symm (by omega))
        go_wp2_with (first | (go_at_call 31; refine HEQ.out.mono ?_; rintro e x9 ⟨rfl, qq, rfl⟩))
        go_ret
        have hz := HBX.out.trans (HBV.out.mono HBX.out.size)
        exact ⟨rfl, ⟨hz.os, hz.tape, hz.output, hz.size, hz.block⟩⟩
set_option maxRecDepth 100000 in
theorem inputsIn_contract (H : Type) (enc : TypeId × Value → H) (W : World) (base : Nat) (args : Array Value) (ds gs : List (DataW H)) (before : List MemPlace)
    (hval : ∀ (j : Nat) t v, Tryd.f11.params[j]? = some t → args[j]? = some v → Value.okWide Tryd.prog W .any base t v)
    (hW : DataW.Whole enc Tryd.prog Tryd.f11.params.toList Rows.inputsInSpec.vars false W args.toList ds gs before) (hL : laidMetH Tryd.prog Rows.inputsInRow.laid W)
    (hz : (DataW.weightsEach Tryd.prog (Tryd.f11.params.toList ++ (OpenSpec.ofChange Rows.inputsInSpec).bare.plain.varTypes Tryd.prog) (ds ++ gs)).all (· ≤ reachBytes) = true) :
    Calls Tryd.prog 11 args W fun e W' => ∃ v, e = .returned v ∧ Rows.inputsInSpec.post enc Tryd.prog Tryd.f11 false true false false W args v W' := by
  have hT : Tabs W := tabs_of_laid5 hL
  have hW0 := hW
  obtain ⟨p, q, hA0, hV, rfl, hfz, hnd⟩ := hW
  have hA : DataW.TrodAll enc Tryd.prog W 0 (fun _ => true) true Tryd.f11.params.toList args.toList ds p := hA0
  rw [Tryd.params11] at hA hval
  obtain ⟨v0, vs0, d0, ds0, p0, q0, hargs, rfl, rfl, h0, r0⟩ := trodAll_cons hA
  obtain ⟨v1, vs1, d1, ds1, p1, q1, rfl, rfl, rfl, h1, r1⟩ := trodAll_cons r0
  obtain ⟨rfl, rfl, rfl⟩ := trodAll_nil r1
  obtain rfl : args = #[v0, v1] := by cases args; simp_all
  obtain ⟨rfl, rfl⟩ := trodVars_none hV
  clear hA0
  obtain ⟨iA, icap, IL, rfl, hicap, hicm, hI64, hIR, hid⟩ := open_nums (hval 0 26 v0 rfl rfl) h0
  obtain ⟨n, rfl, rfl, rfl, wn⟩ := open_int Tryd.underlying3 (hval 1 3 v1 rfl rfl) h1
  have hIL : IL.length ≤ 140737488355328 := by
    rcases hid with ⟨-, rfl, -⟩ | ⟨elems, spare, rfl, hl⟩
    · exact Nat.zero_le _
    · have h1 := sized_slice hz (j := 0) (t := 26) (by rw [Tryd.params11]; rfl) rfl Tryd.underlying26
      have h2 : Tryd.prog.bytesOf 3 = 8 := by kernel_rfl
      have h3 := reachBytes_lt
      rw [h2, hl] at h1
      omega
  refine (inputsIn_walk IL iA icap n (i64_of_wf wn) W hT hI64 hIR hIL hicap).mono fun e W' ⟨he, hb⟩ => ?_
  subst he
  exact ⟨_, rfl, law_post hW0 rfl rfl (by kernel_rfl) (by kernel_rfl) hb⟩
set_option maxRecDepth 100000 in
theorem inputsIn_met (os : Os) : laidMet Tryd.prog Rows.inputsInRow.laid ((laidWorld5 os).forCall (fun _ _ => 0) ⟨#[], #[.slice none 0 0, .int .i64 0], []⟩).memory :=
  laidMet_of_run' 8 (by kernel_rfl) (by kernel_rfl)
set_option maxRecDepth 100000 in
theorem inputsIn_reads (os : Os) {H : Type} (enc : TypeId × Value → H) : ∃ places, DataW.whole enc Tryd.prog ((laidWorld5 os).forCall (fun _ _ => 0) ⟨#[], #[.slice none 0 0, .int .i64 0], []⟩).memory Tryd.f11.params.toList Rows.inputsInSpec.vars false (#[.slice none 0 0, .int .i64 0] : Array Value).toList 8 = some ([.nil, .lit (.int .i64 0)], [], places) :=
  ⟨[], by kernel_rfl⟩
set_option maxRecDepth 100000 in
theorem inputsIn_lifted (os : Os) (started : os.Started) (H : Type) (enc : TypeId × Value → H) (F : Stop.Interp) :
    ReturnsInHanded {} Tryd.checked os 11 .any ((OpenSpec.ofChange Rows.inputsInSpec).preRow enc Tryd.prog Tryd.f11 Rows.inputsInRow.domain false Rows.inputsInRow.laid) (((OpenSpec.ofChange Rows.inputsInSpec).at F).post enc Tryd.prog Tryd.f11 false true false false) := by
  obtain ⟨places, hx⟩ := inputsIn_reads os enc
  refine returnsInHanded_of_row (C := Tryd.checked) (s := OpenSpec.ofChange Rows.inputsInSpec) ownP started (by kernel_rfl) Tryd.func11
    (witness_row_at (enc := enc) (C := Tryd.checked) false (laidWorld5 os) #[.slice none 0 0, .int .i64 0] rfl (by kernel_rfl) (by kernel_rfl) (by kernel_rfl)
      (OpenSpec.preRow_of_cond 8 hx (by kernel_rfl) (fun k hk => by cases hk) (by kernel_rfl) (inputsIn_met os))) ?_
  intro W base args ds gs before hval hW _ _ hreach hL _ _
  exact inputsIn_contract H enc W base args ds gs before hval hW hL hreach
set_option maxRecDepth 100000 in
theorem inputsIn_said : Rows.InputsInSaid :=
  OpenClaim.holds_of_cond 11 Tryd.f11 rfl rfl rfl rfl rfl rfl rfl ⟨rfl, rfl, rfl, rfl, rfl⟩ rfl rfl rfl rfl rfl (by kernel_rfl) Tryd.func11 (by kernel_rfl)
    (of_decide_eq_true (by kernel_rfl)) (by unfold Func.isWrapper; first | (rw [if_pos (by decide +kernel)]; kernel_rfl) | (rw [if_neg (by decide +kernel)]; exact ⟨rfl, rfl⟩))
    (fun os started H enc _ F => by rw [OpenClaim.pre_eq_preRow]; exact inputsIn_lifted os started H enc F)
set_option maxRecDepth 100000 in
theorem inputsIn_plain (f : FuncId) (fn : Func) (hf : Tryd.pinned.checked.prog.funcNamed "bolthole/boltholekeep.InputsIn" = some f) (hfn : Tryd.pinned.checked.prog.funcs[f]? = some fn) :
    ∀ (j : Nat) t, fn.params[j]? = some t → Tryd.pinned.checked.prog.wantsStandIn t = false := by
  obtain rfl : f = 11 := Option.some.inj ((show Tryd.prog.funcNamed "bolthole/boltholekeep.InputsIn" = some 11 by kernel_rfl).symm.trans hf) |>.symm
  obtain rfl : fn = Tryd.f11 := (Option.some.inj (Tryd.func11.symm.trans hfn)).symm
  intro j t ht
  have hall : ∀ t ∈ Tryd.f11.params, Tryd.prog.wantsStandIn t = false := by
    rw [Tryd.params11]
    intro t ht
    simp only [List.mem_toArray, List.mem_cons, List.not_mem_nil, or_false] at ht
    rcases ht with rfl | rfl
    all_goals kernel_rfl
  exact hall t (Array.mem_of_getElem? ht)
set_option maxRecDepth 100000 in
theorem inputsIn_card : Rows.InputsInCardSaid :=
  Claim7.holds_tied_plain_at .later [] _ _ _ _ inputsIn_said (fun _ h => by cases h) (by kernel_rfl) (fun _ h => by cases h) inputsIn_row_tie rfl ⟨rfl, rfl⟩ (by kernel_rfl) rfl (fun f fn hf hfn => ⟨by kernel_rfl, inputsIn_plain f fn hf hfn⟩) (by kernel_rfl)
end Go.Proofs.YtdliienkbpdnbaaDoor
