/- append of zeros ('append(s, make([]T, k)...)') onto a row of the call's own: a law of no program. -/
import Derived.Test.YtcdlgjhdbmmomaaGreatDoorAsmB
import Derived.Deep.RegionHeld3
import Derived.Deep.RegionLaw
import Derived.Deep.DeepCutAuto
import Derived.Deep.CutBlock
import Derived.Deep.LoopGhost
import Derived.WalkLawsBesides
import Derived.StillTailTactics
import Derived.IntWalk
import Derived.Deep.QuietTactic
import Derived.BigQuiet
import Derived.Test.YtcdlgjhdbmmomaaGreatDoorKeepD
import Derived.Test.YtcdlgjhdbmmomaaGreatDoorAppG
import Derived.Lib.AppendZerosOnto
namespace Go.Proofs.YtcdlgjhdbmmomaaGreatDoor
open Go.RowKit
theorem infoInt1 : (Tryz.prog.info? 3).map (fun i => (i.zero, i.size, i.bytes)) = some (some (.int .i64 0), 1, 8) := by kernel_rfl
theorem w64_in (n : Int) (h : -9223372036854775808 ≤ n ∧ n ≤ 9223372036854775807) : wrap64 n = n := by unfold wrap64; omega
theorem part_facts (f m F : Nat) (hF : F ≤ 1000) (hlt : f < F) (hm : m ≤ 150) : ∃ x y : Nat, x = f * m / F ∧ y = (f + 1) * m / F ∧ x ≤ y ∧ y ≤ m ∧ wrap64 ((f : Int) * (m : Int)) = (f : Int) * (m : Int) ∧ wrap64 (((f : Int) + 1) * (m : Int)) = ((f : Int) + 1) * (m : Int) ∧
 ((f : Int) * (m : Int)).tdiv (F : Int) = (x : Int) ∧ (((f : Int) + 1) * (m : Int)).tdiv (F : Int) = (y : Int) ∧ wrap64 (x : Int) = (x : Int) ∧ wrap64 (y : Int) = (y : Int) := by
 obtain ⟨hxy, hym⟩ := part_le m f F hlt; obtain ⟨x, hx⟩ := ex' (f * m / F)
 obtain ⟨y, hy⟩ := ex' ((f + 1) * m / F)
 rw [hx, hy] at hxy; rw [hy] at hym; have h1 : (f + 1) * m ≤ 1001 * 150 := Nat.mul_le_mul (by omega) hm; have h2 : f * m ≤ (f + 1) * m := Nat.mul_le_mul_right _ (by omega); have e1 : (f : Int) * (m : Int) = ((f * m : Nat) : Int) := (Int.natCast_mul f m).symm; have e2 : ((f : Int) + 1) * (m : Int) = (((f + 1) * m : Nat) : Int) := by rw [Int.natCast_mul]; rfl
 rw [e1, e2]; generalize hp : f * m = p at *; generalize hq : (f + 1) * m = q at *; refine ⟨x, y, hx.symm, hy.symm, hxy, hym, w64_in _ ⟨by omega, by omega⟩, w64_in _ ⟨by omega, by omega⟩, ?_, ?_, w64_in _ ⟨by omega, by omega⟩, w64_in _ ⟨by omega, by omega⟩⟩
 · rw [← hx]; exact (Int.ofNat_tdiv p F).symm
 · rw [← hy]; exact (Int.ofNat_tdiv q F).symm
theorem i64w (n : Int) : IntKind.i64.wrap n = wrap64 n := by unfold wrap64; exact IntKind.wrap_i64 n
theorem part_w {f m F x y : Nat} (h1 : f ≤ 1000) (hx : wrap64 (x : Int) = x) (hy : wrap64 (y : Int) = y) (e1 : wrap64 ((f : Int) * (m : Int)) = (f : Int) * (m : Int)) (e2 : wrap64 (((f : Int) + 1) * (m : Int)) = ((f : Int) + 1) * (m : Int)) (e3 : ((f : Int) * (m : Int)).tdiv (F : Int) = (x : Int)) (e4 : (((f : Int) + 1) * (m : Int)).tdiv (F : Int) = (y : Int)) :
 IntKind.i64.wrap ((IntKind.i64.wrap ((f : Int) * (m : Int))).tdiv (F : Int)) = (x : Int) ∧ IntKind.i64.wrap ((IntKind.i64.wrap (IntKind.i64.wrap ((f : Int) + 1) * (m : Int))).tdiv (F : Int)) = (y : Int) := by
 have h0 : wrap64 ((f : Int) + 1) = (f : Int) + 1 := w64_in _ ⟨by omega, by omega⟩; simp only [i64w]; rw [h0, e1, e2, e3, e4]; exact ⟨hx, hy⟩
theorem RdR.part {w : World} {B : Nat} {A : Option Addr} {L : List RawI} {m c : Nat} (h : RdR w B A L) (hm : L.length = m) (hc : m ≤ c) (f F : Nat) (hf : f < F) {x y : Nat} (hx : x = f * m / F) (hy : y = (f + 1) * m / F) :
 RdR w B (if c = x then A else Option.map (fun a => a.add (x * 4)) A) (partL L f F) ∧ (partL L f F).length = y - x := by
 subst hm; have hlen : (partL L f F).length = y - x := by rw [partL_len L f F hf, ← hx, ← hy]
 have hy2 := (part_le L.length f F hf).2; rw [← hy] at hy2; refine ⟨?_, hlen⟩; unfold partL at hlen ⊢; rw [← hx, ← hy] at hlen ⊢; refine h.cut x y fun g o e hn => ?_
 have : ¬ c = x := by
  intro e2; apply hn; apply List.eq_nil_of_length_eq_zero; omega
 rw [if_neg this, e]; simp only [Option.map_some, addr_addO]
theorem block_part (mine : List RawI) (A' A2 : Option Addr) (d q j many F bl x y : Nat) (B base X : Nat) (w W : World) (hR : RdR w B A' mine) (hm : mine.length = q) (hq : q ≤ d) (hq1 : q ≤ 150) (hj : j < many) (hmany : many ≤ 1000) (hF : 1 ≤ F ∧ F ≤ 3) (hbl : bl ≤ 1000)
 (hx : x = j * q / many) (hy : y = (j + 1) * q / many) (hA : (if d = x then A' else Option.map (fun a => a.add (x * 4)) A') = A2) (hB : B ≤ base) (hb : Below B w W)
 (bs : List (List Spot)) (fs : List Int) (bA : Option Addr) (bc : Nat) (fA : Option Addr) (fc : Nat) (gs : List (Nat × Nat)) (hP : PlanAt W base X bs fs bA bc fA fc gs) (hbs : bs.length ≤ 2000) :
 Calls Tryz.prog 53 #[.pointer (some ⟨X, 0, none⟩), .slice A2 (y - x) (d - x), .int .i64 ((bl : Int) + (j : Int)), .int .i64 (bl : Int), .int .i64 ((bl : Int) + (many : Int) - 1), .int .i64 (F : Int)] W (BlockPost W base X bs fs fA fc (fnBlock mine bl many F j)) := by
 have hpt := RdR.part hR hm hq j many hj hx hy; have hy2 : y ≤ q := by rw [hy]; exact (part_le q j many hj).2
 rw [hA] at hpt; have hlen := hpt.2; have h := block_any (partL mine j many) A2 (d - x) X base bs fs bA bc fA fc gs ((bl : Int) + (j : Int)) (bl : Int) ((bl : Int) + (many : Int) - 1) (F : Int) W ((hpt.1.below hb).more hB) hP (by rw [hlen]; omega) (by rw [hlen]; omega) (by omega) (by omega) (by omega) (by omega) (by omega) (by omega) (by omega); rw [hlen] at h; exact h
def AsmSpec : Prop := ∀ (w00 w : World) (base X : Nat) (bs : List (List Spot)) (fs : List Int) (bA : Option Addr) (bc : Nat) (fA : Option Addr) (fc : Nat) (gs : List (Nat × Nat)) (L : List RawI) (A : Option Addr) (c : Nat), Tabs w00 → w00.heap.size ≤ base → Below w00.heap.size w00 w → RdR w base A L → PlanAt w base X bs fs bA bc fA fc gs → PlanOk bs fs → L.length ≤ 150 → L.length ≤ c → Calls Tryz.prog 54 #[.pointer (some ⟨X, 0, none⟩), .slice A L.length c] w (AsmPost w base bs fs L)
def progP (L : List RawI) : List (List Spot) × List Int := planGo L (nFn L) (nFn L)
set_option maxHeartbeats 4000000 in
set_option maxRecDepth 100000 in
theorem program_of (HA : AsmSpec) (l : List RawI) (A : Option Addr) (c : Nat) (w : World) (hT : Tabs w) (hR : RdR w w.heap.size A l) (hc : l.length ≤ c) (hl : l.length ≤ 140737488355328) (hP : PlanOk (progP (progL l)).1 (progP (progL l)).2) :
 Calls Tryz.prog 34 #[.slice A l.length c] w (AsmPost w w.heap.size (progP (progL l)).1 (progP (progL l)).2 (progL l)) := by
 have HT := hd' hT; have HP := hd' hP
 have HR := hd' (show RdR w w.heap.size A (progL l) from ⟨fun r hr => hR.1 r (List.mem_of_mem_take hr), fun hn => by
  obtain ⟨b, o, e, hb, hc⟩ := hR.2 (by intro e; subst e; exact hn rfl); refine ⟨b, o, e, hb, fun j r hr => hc j r ?_⟩; unfold progL at hr; rw [List.getElem?_take] at hr
  split at hr
  · exact hr
  · cases hr⟩)
 obtain ⟨L, hL⟩ := ex' (progL l)
 obtain ⟨n, hn⟩ := ex' l.length
 obtain ⟨m, hm⟩ := ex' L.length
 have hmn : m ≤ n ∧ m ≤ 150 ∧ (m = n ∨ m = 150) := by rw [← hm, ← hL, ← hn]; unfold progL; rw [List.length_take]; omega
 rw [hL] at HR HP ⊢; rw [hn] at hc hl ⊢; have HL := hd' hL; have HM := hd' hm; have hmin : min (n : Int) 150 = (m : Int) := by omega
 clear hT hR hP hL hn hm
 go_enter Tryz.func34, Tryz.ntmps34
 go_upto_region 1 with fail
 go_cut [0] (fun s0 wx => s0 = .slice A m c ∧ wx = w.alloc (.cells #[.slice none 0 0, .slice none 0 0, .slice none 0 0, .slice none 0 0, .slice none 0 0, .int .i64 0] 30))
 case first =>
  by_cases hb : n ≤ 150
  · obtain rfl : m = n := by omega
    have h1 : (m : Int) ≤ 150 := by omega
    clear hmn hb hmin
    go_wp2
    go_meet
    exact ⟨rfl, rfl⟩
  · obtain rfl : m = 150 := by omega
    have h1 : ¬ (n : Int) ≤ 150 := by omega
    have h2 : (150 : Int) < (n : Int) := by omega
    clear hmn hb hmin
    go_wp2
    go_meet
    exact ⟨rfl, rfl⟩
 case rest =>
  obtain ⟨rfl, rfl⟩ := hcut; have hm150 : m ≤ 150 := hmn.2.1; have hmc : m ≤ c := by omega
  have hnf := nFn_bd L; rw [HM.out] at hnf; obtain ⟨F, hF⟩ := ex' (nFn L)
  rw [hF] at hnf; have HF := hd' hF; obtain ⟨hF1, hF3, hFe⟩ := hnf; have HFE := hd' hFe; clear hmin hmn hF hFe
  go_wp2_with fail
  refine (picked_any _ _ _ (by omega) (by omega) (by decide) (by decide)).mono ?_; rintro e w1 ⟨rfl, rfl⟩; rw [show pickL (m : Int) 3 = (F : Int) - 1 by have := HFE.out; omega]; have hF11 : (1 : Int) + ((F : Int) - 1) = (F : Int) := by omega
  go_wp2_with fail
  clear hF11; obtain ⟨v0, hv0⟩ := ex' ((w.alloc (.cells #[.slice none 0 0, .slice none 0 0, .slice none 0 0, .slice none 0 0, .slice none 0 0, .int .i64 0] 30)).alloc (.cells #[.slice none 0 0, .slice none 0 0] 105))
  have hb0 : Below w.heap.size w v0 := by rw [← hv0]; exact ((Below.refl _ _).alloc lr' _).alloc (by simp) _
  have hz0 : v0.heap.size = w.heap.size + 2 := by rw [← hv0]; simp
  have hX0 : Blk v0 (w.heap.size + 1) 105 [.slice none 0 0, .slice none 0 0] := by rw [← hv0]; exact Blk.new2 w _ _ _
  have hI0 : Blk v0 w.heap.size 30 [.slice none 0 0, .slice none 0 0, .slice none 0 0, .slice none 0 0, .slice none 0 0, .int .i64 0] := by rw [← hv0]; exact (Blk.new w _ _).alloc _
  rw [hv0]; have HB0 := hd' hb0; have HX0 := hd' hX0; have HI0 := hd' hI0; clear hv0 hb0 hX0 hI0
  go_loopg [22] F (fun gk s22 wr => ∃ (f : Nat) (bA : Option Addr) (bc : Nat) (fA : Option Addr) (fc : Nat) (gs : List (Nat × Nat)), f ≤ F ∧ s22 = .int .i64 f ∧ Hid (PlanAt wr (w.heap.size + 1) (w.heap.size + 1) (planGo L F f).1 (planGo L F f).2 bA bc fA fc gs) ∧ Hid (Below (w.heap.size + 1) v0 wr) ∧ F - f ≤ gk)
  case atStart => exact ⟨0, none, 0, none, 0, [], Nat.zero_le _, rfl, ⟨HX0.out, Nat.le_refl _, ⟨rfl, .inl ⟨rfl, rfl⟩⟩, ⟨rfl, .inl ⟨rfl, rfl⟩⟩, rfl, fun _ _ _ h => by simp at h, fun _ _ _ _ h => by simp at h, by simp [Value.ownBlock], by simp [Value.ownBlock], .inl rfl⟩, Below.refl _ _, Nat.le_refl _⟩
  case round =>
   obtain ⟨f, bA, bc, fA, fc, gs, hf, rfl, HPA, HBW, hgk⟩ := hrel; have hs := HBW.out.size
   by_cases hlt : f < F
   · have hltI : (f : Int) < (F : Int) := by omega
     have hF0 : ¬ (F : Int) = 0 := by omega
     go_upto_region 7 with fail
     obtain ⟨x, y, hx, hy, hxy, hym, e1, e2, e3, e4, -, -⟩ := part_facts f m F (by omega) hlt hm150; have hpt := HR.out.part HM.out hmc f F hlt hx hy; obtain ⟨A2, hA2⟩ : ∃ z, (if c = x then A else Option.map (fun a => a.add (x * 4)) A) = z := ⟨_, rfl⟩
     rw [hA2] at hpt; have HPT := hd' hpt; have HA2 := hd' hA2; clear hx hy hpt hA2
     go_cut [6] (fun s6 wx => ∃ A' q, s6 = .slice A' q (c - x) ∧ q ≤ 150 ∧ q ≤ c - x ∧ Hid (RdR w w.heap.size A' (partL L f F)) ∧ Hid ((partL L f F).length = q) ∧ wx = wr.drew)
     case first =>
      have hxyI : (x : Int) ≤ (y : Int) := Int.ofNat_le.2 hxy; have hymI : (y : Int) ≤ (m : Int) := Int.ofNat_le.2 hym; have hycI : (y : Int) ≤ (c : Int) := Int.ofNat_le.2 (Nat.le_trans hym hmc)
      go_region
      rw [HA2.out]
      go_wp2
      go_meet
      clear e1 e2 e3 e4; exact ⟨_, _, rfl, by omega, by omega, HPT.out.1, HPT.out.2, rfl⟩
     case rest =>
      obtain ⟨A', q, rfl, hq1, hq2, HRM, HLM, rfl⟩ := hcut; clear e1 e2 e3 e4 HPT HA2 A2; obtain ⟨mine, hmi⟩ := ex' (partL L f F)
      rw [hmi] at HRM HLM; have HMI := hd' hmi; clear hmi; obtain ⟨d, hd⟩ := ex' (c - x)
      rw [hd] at hq2 ⊢; clear hd hxy hym; obtain ⟨q4, hq4⟩ := ex' (q / 4)
      have e7 : (q : Int).tdiv 4 = (q4 : Int) := by rw [← hq4]; exact (Int.ofNat_tdiv q 4).symm
      have hq4b : q4 ≤ 37 := by omega
      have HQ4 := hd' hq4; clear hq4; have hX := HPA.out.blk; have x0 := hX.cell 0 rfl; have x1 := hX.cell 1 rfl; have xf0 := hX.free 0; have xf1 := hX.free 1; have xl := hX.lt; clear hX; obtain ⟨bs, hbs⟩ := ex' ((planGo L F f).1)
      obtain ⟨fs, hfs⟩ := ex' ((planGo L F f).2)
      rw [hbs, hfs] at HPA; rw [hbs] at x0; rw [hfs] at x1; have hbl : bs.length ≤ 38 * f := by rw [← hbs]; exact planGo_bs L F f (by rw [HM.out]; exact hm150)
      have hfl : fs.length = f := by rw [← hfs]; exact planGo_fs L F f
      have HBS := hd' hbs; have HFS := hd' hfs; have HFL := hd' hfl; have hfl3 : fs.length ≤ 3 := by omega
      clear hbs hfs hfl; obtain ⟨many, hmany⟩ := ex' (q4 + 1)
      have hma : (1 : Int) + (q4 : Int) = (many : Int) := by omega
      have HMANY := hd' (show fnMany mine = many by unfold fnMany; rw [HLM.out, HQ4.out]; omega); have hmb : many ≤ 38 := by omega
      have hm0 : 0 < many := by omega
      clear hmany
      go_upto_region 9 with fail
      clear hma; obtain ⟨wz, hwz⟩ := ex' wr.drew
      have HPZ : Hid (PlanAt wz (w.heap.size + 1) (w.heap.size + 1) bs fs bA bc fA fc gs) := by rw [← hwz]; exact HPA.out.below (Below.refl _ _).drew
      have HBZ : Hid (Below (w.heap.size + 1) v0 wz) := by rw [← hwz]; exact HBW.out.drew
      have x0' : wz.cell? ⟨w.heap.size + 1, 0, none⟩ = some (.slice bA bs.length bc) := HPZ.out.blk.cell 0 rfl; have x1' : wz.cell? ⟨w.heap.size + 1, 1, none⟩ = some (.slice fA fs.length fc) := HPZ.out.blk.cell 1 rfl; have xf1' : wz.frozen? ⟨w.heap.size + 1, 1, none⟩ = false := HPZ.out.blk.free 1; have xl' : w.heap.size + 1 < wz.heap.size := HPZ.out.blk.lt; rw [hwz]; clear hwz x0 x1 xf0 xf1 xl HPA HBW
      go_cut [] (fun wx => ∃ go co, Hid (PlanAt wx (w.heap.size + 1) (w.heap.size + 1) bs (fs ++ [(bs.length : Int)]) bA bc (some ⟨go, 0, none⟩) co gs) ∧ Hid (Below (w.heap.size + 1) v0 wx))
      case first =>
       go_region_law ((first | (have hr1 : (wz.alloc (.cells #[.int .i64 (bs.length : Int)] 3)).drew.heap[wz.heap.size]? = some (.cells #[.int .i64 (bs.length : Int)] 3 (0, 0)) := heap_alloc_new wz _; have ho1 : (wz.alloc (.cells #[.int .i64 (bs.length : Int)] 3)).drew.ownsRow (w.heap.size + 1) 3 1 (.slice fA fs.length fc) fs.length (intsV .i64 fs) := World.ownsRow.alloc HPZ.out.fown _; have hz1 : (wz.alloc (.cells #[.int .i64 (bs.length : Int)] 3)).drew.heap.size = wz.heap.size + 1 := (by simp); have hbb : w.heap.size + 1 ≤ (wz.alloc (.cells #[.int .i64 (bs.length : Int)] 3)).drew.heap.size := (by rw [hz1]; omega); refine step_app_one rfl _ _ 27 3 1 8 _ Tryz.underlying27 infoInt1 rfl (by decide) rfl (w.heap.size + 1) _ fs.length _ rfl ho1 wz.heap.size 1 rfl [.int .i64 (bs.length : Int)] 3 (0, 0) hr1 rfl (by simp [Value.oneCell']) (by omega) (by omega) hbb (wz.heap.size + 1) hz1 ?_; intro g2 c2 w2 ho2 hgr2 hat2 hlt2; have hx2 : Blk w2 (w.heap.size + 1) 105 [.slice bA bs.length bc, .slice fA fs.length fc] := (HPZ.out.blk.alloc (.cells #[.int .i64 (bs.length : Int)] 3)).drew.gb hgr2 HPZ.out.fX; have x20 := hx2.cell 0 rfl; have x21 := hx2.cell 1 rfl; have x2f := hx2.free 1; have x2l := hx2.lt; have HO2 := hd' ho2; have HG2 := hd' hgr2; have HA2 := hd' hat2; clear hx2 ho2 hgr2 hat2 hr1 ho1 hz1 hbb)))
       all_goals (go_wp2; go_meet)
       all_goals
        obtain ⟨P1, P2⟩ := HPZ.out.pushF (((Below.refl wz.heap.size wz).alloc lr' (.cells #[.int .i64 (bs.length : Int)] 3)).drew) HO2.out HG2.out (HA2.out.imp_right fun e => e.trans (by simp)); exact ⟨_, _, P1, HBZ.out.trans (P2.mono (by have := HBZ.out.size; omega))⟩
      case rest =>
       obtain ⟨go, co, HPA2, HBW2⟩ := hcut; clear HPZ HBZ x0' x1' xf1' xl'; have y0 := HPA2.out.blk.cell 0 rfl
       go_wp2_with fail
       clear y0
       go_loopg [64] many (fun gk2 s64 wr2 => ∃ (j : Nat) (bA : Option Addr) (bc : Nat) (fA : Option Addr) (fc : Nat) (gs : List (Nat × Nat)), j ≤ many ∧ s64 = .int .i64 j ∧ Hid (PlanAt wr2 (w.heap.size + 1) (w.heap.size + 1) (bs ++ fnBlocks mine bs.length many F j) (fs ++ [(bs.length : Int)]) bA bc fA fc gs) ∧ Hid (Below (w.heap.size + 1) v0 wr2) ∧ many - j ≤ gk2)
       case atStart => exact ⟨0, _, _, _, _, _, Nat.zero_le _, rfl, by simpa [fnBlocks] using HPA2, HBW2, Nat.le_refl _⟩
       case round =>
        clear HPA2 HBW2; obtain ⟨j, bA2, bc2, fA2, fc2, gs2, hj, rfl, HPJ, HBJ, hgk2⟩ := hrel; have hs2 := HBJ.out.size
        by_cases hjl : j < many
        · have hjlI : (j : Int) < (many : Int) := by omega
          have hma0 : ¬ (many : Int) = 0 := by omega
          have hma1 : ¬ many = 0 := by omega
          go_upto_region 14 with fail
          obtain ⟨x, y, hx, hy, hxy, hym, e1, e2, e3, e4, e5, e6⟩ := part_facts j q many (by omega) hjl hq1; obtain ⟨w1, w2⟩ := part_w (by omega) e5 e6 e1 e2 e3 e4; clear e1 e2 e3 e4 e5 e6; obtain ⟨A2, hA2⟩ : ∃ z, (if d = x then A' else Option.map (fun a => a.add (x * 4)) A') = z := ⟨_, rfl⟩
          have hxyI : (x : Int) ≤ (y : Int) := Int.ofNat_le.2 hxy; have hymI : (y : Int) ≤ (q : Int) := Int.ofNat_le.2 hym; have hycI : (y : Int) ≤ (d : Int) := Int.ofNat_le.2 (Nat.le_trans hym hq2); have hbs2 : bs.length ≤ 114 := by omega
          have HBLK := hd' (fun W (hb : Below (w.heap.size + 1) v0 W) hp => block_part mine A' A2 d q j many F bs.length x y w.heap.size (w.heap.size + 1) (w.heap.size + 1) w W HRM.out HLM.out hq2 hq1 hjl (Nat.le_trans hmb (by decide)) ⟨hF1, hF3⟩ (Nat.le_trans hbs2 (by decide)) hx hy hA2 (Nat.le_succ _) (HB0.out.trans (hb.mono (Nat.le_succ _))) (bs ++ fnBlocks mine bs.length many F j) (fs ++ [(bs.length : Int)]) bA2 bc2 fA2 fc2 gs2 hp (by rw [List.length_append, fnBlocks_len]; omega)); have HA2 := hd' hA2; clear hx hy hA2
          go_still_tail 25, (by kernel_rfl)
          change wpList _ _ _ _ _ wr.drew
          rw [HA2.out]
          go_wp2_with fail
          refine (HBLK.out _ HBJ.out.drew (HPJ.out.below (Below.refl _ _).drew)).mono ?_; rintro e w5 ⟨rfl, hb5, bA5, bc5, gs5, hp5⟩; have HB5 := hd' (HBJ.out.drew.trans (hb5.mono lr')); have HP5 := hd' hp5; clear hb5 hp5 w1 w2 hxyI hymI hycI HBLK HA2 HPJ HBJ
          go_wp2
          go_roundg (many - (j + 1))
          case measure => omega
          case rel =>
           exact ⟨j + 1, bA5, bc5, fA2, fc2, gs5, by omega, by go_num, by rw [fnBlocks_succ, ← List.append_assoc]; exact HP5.out, HB5.out, Nat.le_refl _⟩
        · have hjlI : ¬ (j : Int) < (many : Int) := by omega
          obtain rfl : j = many := by omega
          go_wp2
          go_roundg (F - (f + 1))
          case measure => omega
          case rel =>
           refine ⟨f + 1, bA2, bc2, fA2, fc2, gs2, by omega, by go_num, ?_, HBJ, Nat.le_refl _⟩; simp only [planGo]; rw [HBS.out, HFS.out, HMI.out, HMANY.out]; exact HPJ
   · have hltI : ¬ (f : Int) < (F : Int) := by omega
     obtain rfl : f = F := by omega
     have hb9 : Below w.heap.size w wr := HB0.out.trans (HBW.out.mono (by omega)); have hsp : PlanOk (planGo L f f).1 (planGo L f f).2 := by have := HP.out; unfold progP at this; rw [HF.out] at this; exact this
     have hasm := HA w wr (w.heap.size + 1) (w.heap.size + 1) _ _ bA bc fA fc gs L A c HT.out (Nat.le_succ _) hb9 ((HR.out.below hb9).more (Nat.le_succ _)) HPA.out hsp (by rw [HM.out]; exact hm150) (by rw [HM.out]; exact hmc); rw [HM.out] at hasm; have HASM := hd' hasm; have HB9 := hd' hb9; clear hb9 hsp hasm
     go_wp2_with fail
     refine HASM.out.mono ?_; rintro e w6 ⟨hb6, v, im, rfl, h61, h62, h63⟩; have hi6 : Blk w6 w.heap.size 30 [.slice none 0 0, .slice none 0 0, .slice none 0 0, .slice none 0 0, .slice none 0 0, .int .i64 0] := (HI0.out.below HBW.out (by omega)).below hb6 (by omega); have i0 : w6.cell? ⟨w.heap.size, 0, none⟩ = some (.slice none 0 0) := hi6.cell 0 rfl; have i1 : w6.cell? ⟨w.heap.size, 1, none⟩ = some (.slice none 0 0) := hi6.cell 1 rfl; have i2 : w6.cell? ⟨w.heap.size, 2, none⟩ = some (.slice none 0 0) := hi6.cell 2 rfl
     have i3 : w6.cell? ⟨w.heap.size, 3, none⟩ = some (.slice none 0 0) := hi6.cell 3 rfl; have i4 : w6.cell? ⟨w.heap.size, 4, none⟩ = some (.slice none 0 0) := hi6.cell 4 rfl; have i5 : w6.cell? ⟨w.heap.size, 5, none⟩ = some (.int .i64 0) := hi6.cell 5 rfl; have if0 : w6.frozen? ⟨w.heap.size, 0, none⟩ = false := hi6.free 0; have if1 : w6.frozen? ⟨w.heap.size, 1, none⟩ = false := hi6.free 1; have if2 : w6.frozen? ⟨w.heap.size, 2, none⟩ = false := hi6.free 2; have if3 : w6.frozen? ⟨w.heap.size, 3, none⟩ = false := hi6.free 3; have if4 : w6.frozen? ⟨w.heap.size, 4, none⟩ = false := hi6.free 4
     have if5 : w6.frozen? ⟨w.heap.size, 5, none⟩ = false := hi6.free 5; have ilt := hi6.lt; have H6B := hd' hb6; have H61 := hd' h61; have H62 := hd' h62; have H63 := hd' h63; have HVV : Hid (im.val v = #[.slice v.tA im.text.length v.tc, .slice v.fA im.funcs.length v.fc, .slice v.bA im.tables.length v.bc, .slice v.dA im.data.length v.dc, .slice v.lA im.lines.length v.lc, .int .i64 im.entry]) := hd' rfl; rw [HVV.out]; have HI6 := hd' hi6; clear hb6 h61 h62 h63 hi6
     go_wp2
     refine bodyPost_ret (results_cell_row rfl _ _ w.heap.size 30 #[.slice v.tA im.text.length v.tc, .slice v.fA im.funcs.length v.fc, .slice v.bA im.tables.length v.bc, .slice v.dA im.data.length v.dc, .slice v.lA im.lines.length v.lc, .int .i64 im.entry] (0, 0) _ rfl (show Blk _ w.heap.size 30 [.slice v.tA im.text.length v.tc, .slice v.fA im.funcs.length v.fc, .slice v.bA im.tables.length v.bc, .slice v.dA im.data.length v.dc, .slice v.lA im.lines.length v.lc, .int .i64 im.entry] from ((((((HI6.out.set 0 _).set 1 _).set 2 _).set 3 _).set 4 _).set 5 _)) Tryz.underlying30 rfl (by kernel_rfl)) rfl ?_
     refine ⟨HB9.out.trans ((H6B.out.mono (by omega)).trans (gb_to_below (gb_setCell (gb_setCell (gb_setCell (gb_setCell (gb_setCell (gb_setCell (gb_refl w6 (some w.heap.size)) _ _) _ _) _ _) _ _) _ _) _ _) lr' (by have := H6B.out.size; omega))), v, im, rfl, (H61.out.gb (gb_setCell (gb_setCell (gb_setCell (gb_setCell (gb_setCell (gb_setCell (gb_refl w6 (some w.heap.size)) _ _) _ _) _ _) _ _) _ _) _ _) (Nat.lt_succ_self _)).more (Nat.le_succ _), H62.out, by unfold progP; rw [HF.out]; exact H63.out⟩
end Go.Proofs.YtcdlgjhdbmmomaaGreatDoor
namespace Go.Proofs.YtcdlgjhdbmmomaaGreatDoor
open Go.RowKit Go.Lib
theorem run_append_room_zeros {P : Program} (w : World) (t tn ty e : TypeId) (i : TypeInfo) (z : Value) (kq kn : IntKind) (ht : P.underlying t = some (.slice e)) (htn : P.underlying tn = some (.int kn)) (hi : P.info? e = some i) (hz : i.zero = some z)
 (g sLen sCap : Nat) (cur : Array Value) (hg : w.heap[g]? = some (.cells cur e (0, 0))) (k : Nat) (h0 : 0 < k) (hs : 0 < i.size) (h48 : k * i.bytes ≤ 281474976710656) (h63 : k ≤ 9223372036854775807) (hzs : z.cells.size = i.size)
 (h1 : ∀ u ∈ (Builtin.zeroCells z.cells k).toList, u.oneCell' = true) (hroom : sLen + k ≤ sCap) (hfit : sLen * i.size + k * i.size ≤ cur.size) :
 (Builtin.append_ #[t, tn] ty #[.slice (some ⟨g, 0, none⟩) sLen sCap, .int kq k]).run P w =
  .ok (.slice (some ⟨g, 0, none⟩) (sLen + k) sCap) (w.setRow g (cur.toList.take (sLen * i.size) ++ (Builtin.zeroCells z.cells k).toList ++ cur.toList.drop (sLen * i.size + (Builtin.zeroCells z.cells k).toList.length)).toArray) := by
 have hk : k ≠ 0 := by omega
 have hw : IntKind.i64.wrap (k : Int) = k := by rw [IntKind.wrap_i64]; omega
 have hll : (Builtin.zeroCells z.cells k).toList.length = k * i.size := by rw [Array.length_toList, size_zeroCells, hzs]
 have hst := run_storeCells_at P g (sLen * i.size) e (Builtin.zeroCells z.cells k).toList 0 cur w hg (by rw [hll]; simpa using hfit) h1
 have h48i : ¬ (281474976710656 < (k : Int) * (i.bytes : Int)) := by
  rw [← Int.natCast_mul]; omega
 have hneg : ¬ ((k : Int) < 0) := by omega
 have hns : ¬ (k * i.size = 0) := Nat.mul_ne_zero hk (by omega); simp only [Nat.add_zero] at hst; simp [Builtin.append_, run_underlying ht, run_underlying htn, sizeOf, typeInfo, zeroValue, hi, hz, asInt, asIntOf, hw, hneg, hns, h48i, hroom, Addr.add_lit, hst]
theorem run_append_own_zeros {P : Program} (w : World) (base : Nat) (t tn ty e : TypeId) (i : TypeInfo) (z : Value) (kq kn : IntKind) (size bytes : Nat) (ht : P.underlying t = some (.slice e)) (htn : P.underlying tn = some (.int kn)) (hi : P.info? e = some i) (hz : i.zero = some z)
 (hsize : i.size = size) (hby : i.bytes = bytes) (hzs : z.cells.size = size) (hsz : 0 < size) (v : Value) (n : Nat) (xs : List Value) (hown : w.ownsRow base e size v n xs) (k : Nat) (h0 : 0 < k) (h1 : ∀ u ∈ (Builtin.zeroCells z.cells k).toList, u.oneCell' = true)
 (h63 : n + k ≤ maxLen) (hbytes : (n + k) * bytes ≤ 140737488355328) (hbase : base ≤ w.heap.size) :
 ∃ g' c' w', (Builtin.append_ #[t, tn] ty #[v, .int kq k]).run P w = .ok (.slice (some ⟨g', 0, none⟩) (n + k) c') w' ∧ w'.ownsRow base e size (.slice (some ⟨g', 0, none⟩) (n + k) c') (n + k) (xs ++ (Builtin.zeroCells z.cells k).toList) ∧ w.grownBy w' v.ownBlock ∧ (v.ownBlock = some g' ∨ g' = w.heap.size) ∧ g' < w'.heap.size := by
 subst hsize; subst hby; have hsmall : n + k ≤ 9223372036854775807 := by simp only [maxLen] at h63; omega
 have hll : (Builtin.zeroCells z.cells k).toList.length = k * i.size := by rw [Array.length_toList, size_zeroCells, hzs]
 have hlen : (xs ++ (Builtin.zeroCells z.cells k).toList).length = (n + k) * i.size := by rw [List.length_append, hown.1, hll, Nat.add_mul]
 have hkb : k * i.bytes ≤ 140737488355328 := Nat.le_trans (Nat.mul_le_mul_right _ (by omega)) hbytes
 have grown : ∀ (old : Nat) (row : Option Nat),
  (w.drew.alloc (.cells (xs.toArray ++ Builtin.zeroCells z.cells k ++ Builtin.zeroCells z.cells (grownCap w (n + k) old e - (n + k))) e)).ownsRow base e i.size
   (.slice (some ⟨w.heap.size, 0, none⟩) (n + k) (grownCap w (n + k) old e)) (n + k) (xs ++ (Builtin.zeroCells z.cells k).toList) ∧
  w.grownBy (w.drew.alloc (.cells (xs.toArray ++ Builtin.zeroCells z.cells k ++ Builtin.zeroCells z.cells (grownCap w (n + k) old e - (n + k))) e)) row := by
  intro old row; have hge := grownCap_ge w (n + k) old e; have hcm : grownCap w (n + k) old e ≤ maxLen := grownCap_le_maxLen w (n + k) old e h63; refine ⟨⟨hlen, .inr ⟨w.heap.size, _, _, rfl, hbase, heap_alloc_new w.drew _, hge, hcm, ?_, ?_⟩⟩, ⟨rfl, rfl, rfl, by simp, fun k hk _ => heap_alloc_old w.drew _ hk⟩⟩
  · simp only [Array.size_append, List.size_toArray, size_zeroCells, hzs, hown.1, ← Nat.add_mul]
    congr 1
    omega
  · simp only [Array.toList_append, List.append_assoc]; rw [← List.append_assoc, ← hlen]; exact List.take_left
 rcases hown.2 with ⟨rfl, rfl⟩ | ⟨g, cap, cur, rfl, hbg, hg, hnc, hcm, hcs, htake⟩
 · have hx : xs = [] := List.eq_nil_of_length_eq_zero (by simpa using hown.1); subst hx; have hr := run_append_grow_zeros (P := P) w t tn ty e i z kq kn ht htn hi hz none 0 0 [] (by simp [Builtin.firstCells]) k h0 hsz (by omega) (by omega) (by omega) (growslice_fits (by omega) hbytes); have hgr := grown 0 (Value.ownBlock (.slice none 0 0)); exact ⟨_, _, _, hr, hgr.1, hgr.2, .inr rfl, by simp⟩
 · by_cases hroom : n + k ≤ cap
   · have hfit : n * i.size + k * i.size ≤ cur.size := by rw [hcs, ← Nat.add_mul]; exact Nat.mul_le_mul_right _ hroom
     have hr := run_append_room_zeros (P := P) w t tn ty e i z kq kn ht htn hi hz g n cap cur hg k h0 hsz (by omega) (by omega) hzs h1 hroom hfit; have hgl := (Array.getElem?_eq_some_iff.1 hg).1; refine ⟨_, _, _, hr, ⟨hlen, .inr ⟨g, cap, _, rfl, hbg, setRow_heap w g cur _ e _ hg, hroom, hcm, ?_, ?_⟩⟩, ⟨rfl, rfl, rfl, by simp, fun k _ hk => setRow_other w g k _ (fun e => hk (by simp [Value.ownBlock, e]))⟩, .inl rfl, by simpa using hgl⟩
     · simp only [List.size_toArray, List.length_append, List.length_take, List.length_drop, Array.length_toList]; rw [size_zeroCells, hzs]; omega
     · rw [htake, ← hlen]; exact List.take_left
   · have holds : ∀ j u, xs[j]? = some u → w.cell? ((⟨g, 0, none⟩ : Addr).add j) = some u := hown.cells (g := g) rfl; have hf := run_firstCells_some (P := P) w.drew i.size n ⟨g, 0, none⟩ n cap xs hown.1 holds; have hr := run_append_grow_zeros (P := P) w t tn ty e i z kq kn ht htn hi hz (some ⟨g, 0, none⟩) n cap xs hf k h0 hsz (by omega) (by omega) (by omega) (growslice_fits (by omega) hbytes); have hgr := grown cap (Value.ownBlock (.slice (some ⟨g, 0, none⟩) n cap)); exact ⟨_, _, _, hr, hgr.1, hgr.2, .inr rfl, by simp⟩
theorem zeros_bytes (k : Nat) : (Builtin.zeroCells (Value.int .u8 0).cells k).toList = bytesV (List.replicate k 0) := by
 apply List.ext_getElem
 · simp [Builtin.zeroCells, bytesV, Value.cells]
 · intro j h1 h2; simp [Builtin.zeroCells, bytesV, Value.cells, Nat.mod_one]
theorem app_zeros {w : World} {ops : Array Oper} {rest : List Oper} {o : Oper} {a : Act} {Q : Exit → Act → World → Prop} (hgd : o.guard = none) (s x : Operand)
 (ho : o.op = .call { callee := .builtin .append, args := #[s, x], argTypes := #[24, 3] }) (base : Nat) (v : Value) (L0 : List Int) (hs : a.eval s = v) (hown : OwnB w base v L0)
 (k : Nat) (hx : a.eval x = .int .i64 (k : Int)) (hk : 0 < k) (hn : L0.length + k ≤ 140737488355328) (hbase : base ≤ w.heap.size)
 (h : ∀ g' cap' w', OwnB w' base (.slice (some ⟨g', 0, none⟩) (L0 ++ List.replicate k 0).length cap') (L0 ++ List.replicate k 0) → w.grownBy w' v.ownBlock → (v.ownBlock = some g' ∨ g' = w.heap.size) → g' < w'.heap.size → wpList Tryz.prog ops Q rest (a.put o.dst (.slice (some ⟨g', 0, none⟩) (L0 ++ List.replicate k 0).length cap')) w') : wpList Tryz.prog ops Q (o :: rest) a w := by
 obtain ⟨i0, hi, hz0, hz1, hz2⟩ := info_parts infoU8; have hint : Tryz.prog.underlying 3 = some (.int .i64) := by kernel_rfl
 obtain ⟨g', c', w', hr, h2, h3, h4, h5⟩ := run_append_own_zeros (P := Tryz.prog) w base 24 3 o.type 5 i0 (.int .u8 0) .i64 .i64 1 1 Tryz.underlying24 hint hi hz0 hz1 hz2 rfl (by decide) v _ _ hown k hk
  (by rw [zeros_bytes]; intro u hu; simp only [bytesV, List.mem_map] at hu; obtain ⟨x, _, rfl⟩ := hu; rfl) (by unfold maxLen; omega) (by omega) hbase
 refine wpList_plain hgd fun _ hK => ?_
 unfold Oper.wp execOp; simp only [ho, resolve, invoke, builtin, Sem.run_bind, Sem.run_pure, Result.andThen_ok, List.map_toArray, List.map_cons, List.map_nil, hs, hx, hr]; have hll : (L0 ++ List.replicate k (0 : Int)).length = L0.length + k := by simp
 have := h g' c' w'; rw [hll] at this; refine hK _ _ (this ?_ h3 h4 h5); unfold OwnB; rw [hll]; rw [zeros_bytes] at h2; simpa [bytesV] using h2
theorem run_append_none {P : Program} (w : World) (t ty e : TypeId) (i : TypeInfo) (ht : P.underlying t = some (.slice e)) (hi : P.info? e = some i) (A : Option Addr) (n c : Nat) (hn : n ≤ c) :
 (Builtin.append_ #[t, t] ty #[.slice A n c, .slice none 0 0]).run P w = .ok (.slice A n c) w := by
 cases A <;> simp [Builtin.append_, run_underlying ht, sizeOf, typeInfo, hi, Builtin.lenOf, Builtin.firstCells, hn, storeCells]
theorem app_nil {w : World} {ops : Array Oper} {rest : List Oper} {o : Oper} {a : Act} {Q : Exit → Act → World → Prop} (hgd : o.guard = none) (s x : Operand)
 (ho : o.op = .call { callee := .builtin .append, args := #[s, x], argTypes := #[24, 24] }) (A : Option Addr) (n c : Nat) (hs : a.eval s = .slice A n c) (hx : a.eval x = .slice none 0 0) (hn : n ≤ c)
 (h : wpList Tryz.prog ops Q rest (a.put o.dst (.slice A n c)) w) : wpList Tryz.prog ops Q (o :: rest) a w := by
 obtain ⟨i0, hi, hz0, hz1, hz2⟩ := info_parts infoU8; have hr := run_append_none (P := Tryz.prog) w 24 o.type 5 i0 Tryz.underlying24 hi A n c hn; refine wpList_plain hgd fun _ hK => ?_
 unfold Oper.wp execOp; simp only [ho, resolve, invoke, builtin, Sem.run_bind, Sem.run_pure, Result.andThen_ok, List.map_toArray, List.map_cons, List.map_nil, hs, hx, hr]; exact hK _ _ h
theorem own_free {w : World} {base : Nat} {e : TypeId} {size n g c : Nat} {xs : List Value} (h : w.ownsRow base e size (.slice (some ⟨g, 0, none⟩) n c) n xs) (o : Nat) : w.frozen? ⟨g, o, none⟩ = false := by
 rcases h.2 with ⟨h1, _⟩ | ⟨g', cap, cur, hv, _, hg, _⟩
 · cases h1
 · injection hv with h1 _ _; injection h1 with h1; injection h1 with h1; subst h1; exact frozen_of_row _ _ _ _ _ hg
end Go.Proofs.YtcdlgjhdbmmomaaGreatDoor
