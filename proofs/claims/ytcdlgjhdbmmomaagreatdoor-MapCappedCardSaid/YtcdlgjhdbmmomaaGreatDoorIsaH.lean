/- isa.Decode, walked. -/
import Derived.Test.YtcdlgjhdbmmomaaGreatDoorIsaG
import Derived.Deep.RegionLaw
import Derived.Deep.RegionHeld3
import Derived.Deep.CutBlock
namespace Go.Proofs.YtcdlgjhdbmmomaaGreatDoor
open Go.RowKit
set_option maxHeartbeats 40000000 in
set_option maxRecDepth 100000 in
theorem decode_in (k : Int) (l : Bool) (p tb tof cap len : Nat) (op x y z : Int) (w : World) (hT : Tabs w) (hL : len ≤ 140737488355328) (hcap : len ≤ cap)
 (hb : tb < w.heap.size) (h0 : w.cell? ⟨tb, tof + p, none⟩ = some (.int .u8 op)) (hx : 2 ≤ sizeK k l → w.cell? ⟨tb, tof + (p + 1), none⟩ = some (.int .u8 x))
 (hy : 3 ≤ sizeK k l → w.cell? ⟨tb, tof + (p + 1) + 1, none⟩ = some (.int .u8 y)) (hz : 4 ≤ sizeK k l → w.cell? ⟨tb, tof + (p + 1) + 2, none⟩ = some (.int .u8 z))
 (hx' : 0 ≤ x ∧ x < 256) (hy' : 0 ≤ y ∧ y < 256) (hz' : 0 ≤ z ∧ z < 256)
 (hp : p < len) (hk : kindOf op = (k, l)) (hk0 : 1 ≤ k ∧ k ≤ 24) (hn : p + sizeK k l ≤ len) (hlong : l = true → shapeT k = 8 ∨ shapeT k = 9) :
 Calls Tryz.prog 83 #[.slice (some ⟨tb, tof, none⟩) len cap, .int .i64 p] w fun e w' =>
  e = .returned (decAns (insOf k l x y z) (sizeK k l)) ∧ Below w.heap.size w w' := by
 have hsb := shapeT_bd k hk0.1 hk0.2; have hzb := sizeT_bd _ hsb.1 hsb.2; have HL := hd' hlong; clear hlong; have hk1 := hd' hk; clear hk
 go_enter Tryz.func83, Tryz.ntmps83
 go_wp2_with fail
 refine (kind_any _ _ (hT.alloc _)).mono ?_; rintro e w1 ⟨rfl, hb1⟩; rw [hk1.out]; have hT1 := (hT.alloc _).below hb1; have hB1 : Below w.heap.size w w1 := ((Below.refl _ _).alloc lr' _).trans (hb1.mono (by simp)); have r0 := hT1.op k (by omega) (by omega); have r1 := hT1.long k (by omega) (by omega); have r2 := hT1.shape k (by omega) (by omega); have r3 := hT1.size (shapeT k) (by omega) (by omega); have hlt : w.heap.size < w1.heap.size := by have := hb1.size; simp at this; omega
 have z0 : ∀ j v, Ins.zero.cells[j]? = some v → w1.cell? ⟨w.heap.size, j, none⟩ = some v := fun j v hv => (hb1.cell (p := ⟨w.heap.size, j, none⟩) (by simp)).trans ((cell_of_row _ _ _ _ _ _ (heap_alloc_new w _)).trans hv)
 have hx1 : 2 ≤ sizeK k l → w1.cell? ⟨tb, tof + (p + 1), none⟩ = some (.int .u8 x) := fun h => (hB1.cell hb).trans (hx h)
 have hy1 : 3 ≤ sizeK k l → w1.cell? ⟨tb, tof + (p + 1) + 1, none⟩ = some (.int .u8 y) := fun h => (hB1.cell hb).trans (hy h)
 have hz1 : 4 ≤ sizeK k l → w1.cell? ⟨tb, tof + (p + 1) + 2, none⟩ = some (.int .u8 z) := fun h => (hB1.cell hb).trans (hz h)
 have hT2 := hd' hT1; have hgs := hT1.sizes_lt; have hgr := hT1.rows_lt; have H1 := hd' hx1; have H2 := hd' hy1; have H3 := hd' hz1; have H4 := hd' z0; have zf : ∀ j, w1.frozen? ⟨w.heap.size, j, none⟩ = false := fun j => (hb1.frozen (p := ⟨w.heap.size, j, none⟩) (by simp)).trans (frozen_of_row _ _ _ _ _ (heap_alloc_new w _))
 have H5 := hd' zf; clear hb1 h0 hx hy hz hx1 hy1 hz1 hT1 z0 zf hT; have hne1 : ((k == 0) = false) := by simp; omega
 have hnn : sizeK k l = sizeT (shapeT k) + if l then 1 else 0 := rfl
 have hnl : ((len : Int) < p + sizeK k l) = False := by simp; omega
 have hkb : 1 ≤ sizeK k l ∧ sizeK k l ≤ 5 := by cases l <;> simp [sizeK] <;> omega
 go_upto_if 41 with fail
 go_cut [10] (fun s10 wx => s10 = .int .i64 (sizeK k l) ∧ w1.alloc (.cells #[.int .u8 (opT k), .int .u8 (longT k), .int .i64 (shapeT k)] 186) = wx)
 case first =>
  cases l
  · go_wp2
    go_meet
    case rel => exact ⟨by simp [sizeK], rfl⟩
  · go_wp2
    go_meet
    case rel => exact ⟨by simp [sizeK], rfl⟩
 case rest =>
  obtain ⟨rfl, rfl⟩ := hcut; clear hnn hnl r0 r1 r2 r3
  go_upto_region 15 with fail
  generalize hW : (w1.alloc (.cells #[.int .u8 (opT k), .int .u8 (longT k), .int .i64 (shapeT k)] 186)).alloc (.cells #[.int .i64 k, .int .i64 0, .int .i64 0, .int .i64 0, .int .i64 0, .bool l] 52) = W; have q2 : W.cell? ⟨w1.heap.size, 2, none⟩ = some (.int .i64 (shapeT k)) := by subst hW; go_simp
  have e0 : W.cell? ⟨w1.heap.size + 1, 0, none⟩ = some (.int .i64 k) := by subst hW; go_simp
  have e1 : W.cell? ⟨w1.heap.size + 1, 1, none⟩ = some (.int .i64 0) := by subst hW; go_simp
  have e2 : W.cell? ⟨w1.heap.size + 1, 2, none⟩ = some (.int .i64 0) := by subst hW; go_simp
  have e3 : W.cell? ⟨w1.heap.size + 1, 3, none⟩ = some (.int .i64 0) := by subst hW; go_simp
  have e4 : W.cell? ⟨w1.heap.size + 1, 4, none⟩ = some (.int .i64 0) := by subst hW; go_simp
  have e5 : W.cell? ⟨w1.heap.size + 1, 5, none⟩ = some (.bool l) := by subst hW; go_simp
  have ef : ∀ j, W.frozen? ⟨w1.heap.size + 1, j, none⟩ = false := fun j => by
   subst hW; refine frozen_of_row _ _ _ #[.int .i64 k, .int .i64 0, .int .i64 0, .int .i64 0, .int .i64 0, .bool l] 52 ?_; exact heap_alloc2_new w1 _ _
  have hBW : Below w1.heap.size w1 W := by subst hW; exact ((Below.refl _ _).alloc lr' _).alloc (by simp) _
  have hzW : w1.heap.size + 1 < W.heap.size := by subst hW; simp
  have htb : tb < w1.heap.size := by have := hB1.size; omega
  have hxW : 2 ≤ sizeK k l → W.cell? ⟨tb, tof + (p + 1), none⟩ = some (.int .u8 x) := fun h => (hBW.cell htb).trans (H1.out h)
  have hyW : 3 ≤ sizeK k l → W.cell? ⟨tb, tof + (p + 1) + 1, none⟩ = some (.int .u8 y) := fun h => (hBW.cell htb).trans (H2.out h)
  have hzW' : 4 ≤ sizeK k l → W.cell? ⟨tb, tof + (p + 1) + 2, none⟩ = some (.int .u8 z) := fun h => (hBW.cell htb).trans (H3.out h)
  clear hW H1 H2 H3; have HX := hd' hxW; have HY := hd' hyW; have HZ := hd' hzW'; clear hxW hyW hzW'
  go_cut [0, 11, 62] (fun _ s11 s62 wx => s62 = .int .i64 (shapeT k) ∧ W = wx ∧ ∃ A m cp, s11 = .slice A m cp ∧ m + 1 = (sizeK k l).toNat ∧ m ≤ cp ∧ (1 ≤ m → A = some ⟨tb, tof + (p + 1), none⟩))
  case first =>
   go_wp2
   all_goals
    go_meet
    case rel => exact ⟨rfl, rfl, _, _, _, rfl, by omega, by omega, fun h => by first | rfl | (exfalso; omega)⟩
  case rest =>
   obtain ⟨rfl, rfl, A, m, cp, rfl, hm, hmc, hA⟩ := hcut; have HA := hd' hA; clear hA; have hkl : (l = true → shapeT k = 8 ∨ shapeT k = 9) := HL.out
   go_upto_block 0 with fail
   go_cut [62] (fun _ wx => Below w1.heap.size w1 wx ∧ w1.heap.size + 1 < wx.heap.size ∧ wx.cell? ⟨w1.heap.size + 1, 0, none⟩ = some (.int .i64 k) ∧ wx.cell? ⟨w1.heap.size + 1, 1, none⟩ = some (.int .i64 (insOf k l x y z).d) ∧
    wx.cell? ⟨w1.heap.size + 1, 2, none⟩ = some (.int .i64 (insOf k l x y z).a) ∧ wx.cell? ⟨w1.heap.size + 1, 3, none⟩ = some (.int .i64 (insOf k l x y z).b) ∧ wx.cell? ⟨w1.heap.size + 1, 4, none⟩ = some (.int .i64 (insOf k l x y z).n) ∧ wx.cell? ⟨w1.heap.size + 1, 5, none⟩ = some (.bool l))
   case first =>
    rcases (show shapeT k = 1 ∨ shapeT k = 2 ∨ shapeT k = 3 ∨ shapeT k = 4 ∨ shapeT k = 5 ∨ shapeT k = 6 ∨ shapeT k = 7 ∨ shapeT k = 8 ∨ shapeT k = 9 ∨ shapeT k = 10 ∨ shapeT k = 11 by omega) with hs | hs | hs | hs | hs | hs | hs | hs | hs | hs | hs
    · as_aux_lemma =>
       obtain rfl : l = false := by
        cases l
        · rfl
        · exact absurd (hkl rfl) (by omega)
       have hsz : sizeK k false = 1 := by unfold sizeK; rw [hs]; rfl
       obtain rfl : m = 0 := by omega
       have hIs := hd' (show insOf k false x y z = ⟨k, 0, 0, 0, 0, false⟩ by simp [insOf, hs]); rw [hs] at q2; clear hsz hm hkl HA HX HY HZ HL
       go_wp2
       all_goals
        go_meet
        case rel =>
         rw [hIs.out]; exact ⟨by repeat (first | exact hBW | apply Below.drew | apply below_drewN | refine Below.setCell ?_ (by simp) _), by (try simp); exact hzW, by go_simp, by go_simp, by go_simp, by go_simp, by go_simp, by go_simp⟩
    · as_aux_lemma =>
       obtain rfl : l = false := by
        cases l
        · rfl
        · exact absurd (hkl rfl) (by omega)
       have hsz : sizeK k false = 4 := by unfold sizeK; rw [hs]; rfl
       obtain rfl : m = 3 := by omega
       obtain rfl := HA.out (by omega); have cx := HX.out (by omega); have cy := HY.out (by omega); have hcp1 : ¬ cp = 1 := by omega
       have cz := HZ.out (by omega); have hIs := hd' (show insOf k false x y z = ⟨k, x, 0, 0, num2 y z, false⟩ by simp [insOf, hs]); have hwx : IntKind.i64.wrap x = x := by rw [IntKind.wrap_i64]; omega
       have hwd : IntKind.i64.wrap (x / 16) = x / 16 := by rw [IntKind.wrap_i64]; omega
       have hwm : IntKind.i64.wrap (x % 16) = x % 16 := by rw [IntKind.wrap_i64]; omega
       have hwy : IntKind.i64.wrap y = y := by rw [IntKind.wrap_i64]; omega
       rw [hs] at q2; clear hsz hm hkl HA HX HY HZ HL; have hne : ¬ w1.heap.size + 1 = tb := by omega
       go_upto_region 17 with fail
       go_region_held3 (fun w' => w'.cell? ⟨tb, tof + (p + 1), none⟩ = some (.int .u8 x) ∧ w'.cell? ⟨tb, tof + (p + 1) + 1, none⟩ = some (.int .u8 y) ∧ w'.cell? ⟨tb, tof + (p + 1) + 2, none⟩ = some (.int .u8 z)) (go_keep) (((go_at_call 129; refine (num2_any y z _ _ _ _ (by first | assumption | go_simp) (by first | assumption | go_simp) hy'.1 hy'.2 hz'.1 hz'.2).mono ?_; rintro e w3 ⟨rfl, nq, rfl⟩)))
       all_goals go_wp2
       all_goals
        go_meet
        case rel =>
         rw [hIs.out]; exact ⟨by repeat (first | exact hBW | apply Below.drew | apply below_drewN | refine Below.setCell ?_ (by simp) _), by (try simp); exact hzW, by go_simp, by go_simp, by go_simp, by go_simp, by go_simp, by go_simp⟩
    · as_aux_lemma =>
       obtain rfl : l = false := by
        cases l
        · rfl
        · exact absurd (hkl rfl) (by omega)
       have hsz : sizeK k false = 3 := by unfold sizeK; rw [hs]; rfl
       obtain rfl : m = 2 := by omega
       obtain rfl := HA.out (by omega); have cx := HX.out (by omega); have cy := HY.out (by omega); have hcp1 : ¬ cp = 1 := by omega
       have hIs := hd' (show insOf k false x y z = ⟨k, x / 16, x % 16, 0, num1 y, false⟩ by simp [insOf, hs]); have hwx : IntKind.i64.wrap x = x := by rw [IntKind.wrap_i64]; omega
       have hwd : IntKind.i64.wrap (x / 16) = x / 16 := by rw [IntKind.wrap_i64]; omega
       have hwm : IntKind.i64.wrap (x % 16) = x % 16 := by rw [IntKind.wrap_i64]; omega
       have hwy : IntKind.i64.wrap y = y := by rw [IntKind.wrap_i64]; omega
       rw [hs] at q2; clear hsz hm hkl HA HX HY HZ HL; have hx4 : bits BinOp.and IntKind.u8 x 15 = x % 16 := u8_and15 x hx'.1 hx'.2; have hne : ¬ w1.heap.size + 1 = tb := by omega
       go_upto_region 19 with fail
       go_region_held3 (fun w' => w'.cell? ⟨tb, tof + (p + 1), none⟩ = some (.int .u8 x) ∧ w'.cell? ⟨tb, tof + (p + 1) + 1, none⟩ = some (.int .u8 y)) (go_keep) (((go_at_call 129; refine (num1_any y _ _ _ (by first | assumption | go_simp) hy'.1 hy'.2).mono ?_; rintro e w3 ⟨rfl, rfl⟩)))
       all_goals go_wp2
       all_goals
        go_meet
        case rel =>
         rw [hIs.out]; exact ⟨by repeat (first | exact hBW | apply Below.drew | apply below_drewN | refine Below.setCell ?_ (by simp) _), by (try simp); exact hzW, by go_simp, by go_simp, by go_simp, by go_simp, by go_simp, by go_simp⟩
    · as_aux_lemma =>
       obtain rfl : l = false := by
        cases l
        · rfl
        · exact absurd (hkl rfl) (by omega)
       have hsz : sizeK k false = 3 := by unfold sizeK; rw [hs]; rfl
       obtain rfl : m = 2 := by omega
       obtain rfl := HA.out (by omega); have cx := HX.out (by omega); have cy := HY.out (by omega); have hcp1 : ¬ cp = 1 := by omega
       have hIs := hd' (show insOf k false x y z = ⟨k, x / 16, x % 16, y, 0, false⟩ by simp [insOf, hs]); have hwx : IntKind.i64.wrap x = x := by rw [IntKind.wrap_i64]; omega
       have hwd : IntKind.i64.wrap (x / 16) = x / 16 := by rw [IntKind.wrap_i64]; omega
       have hwm : IntKind.i64.wrap (x % 16) = x % 16 := by rw [IntKind.wrap_i64]; omega
       have hwy : IntKind.i64.wrap y = y := by rw [IntKind.wrap_i64]; omega
       rw [hs] at q2; clear hsz hm hkl HA HX HY HZ HL; have hx4 : bits BinOp.and IntKind.u8 x 15 = x % 16 := u8_and15 x hx'.1 hx'.2; have hne : ¬ w1.heap.size + 1 = tb := by omega
       go_upto_region 21 with fail
       go_region_held3 (fun w' => w'.cell? ⟨tb, tof + (p + 1), none⟩ = some (.int .u8 x) ∧ w'.cell? ⟨tb, tof + (p + 1) + 1, none⟩ = some (.int .u8 y)) (go_keep) ((fail))
       all_goals go_wp2
       all_goals
        go_meet
        case rel =>
         rw [hIs.out]; exact ⟨by repeat (first | exact hBW | apply Below.drew | apply below_drewN | refine Below.setCell ?_ (by simp) _), by (try simp); exact hzW, by go_simp, by go_simp, by go_simp, by go_simp, by go_simp, by go_simp⟩
    · as_aux_lemma =>
       obtain rfl : l = false := by
        cases l
        · rfl
        · exact absurd (hkl rfl) (by omega)
       have hsz : sizeK k false = 3 := by unfold sizeK; rw [hs]; rfl
       obtain rfl : m = 2 := by omega
       obtain rfl := HA.out (by omega); have cx := HX.out (by omega); have cy := HY.out (by omega); have hcp1 : ¬ cp = 1 := by omega
       have hIs := hd' (show insOf k false x y z = ⟨k, 0, x % 16, x / 16, num1 y, false⟩ by simp [insOf, hs]); have hwx : IntKind.i64.wrap x = x := by rw [IntKind.wrap_i64]; omega
       have hwd : IntKind.i64.wrap (x / 16) = x / 16 := by rw [IntKind.wrap_i64]; omega
       have hwm : IntKind.i64.wrap (x % 16) = x % 16 := by rw [IntKind.wrap_i64]; omega
       have hwy : IntKind.i64.wrap y = y := by rw [IntKind.wrap_i64]; omega
       rw [hs] at q2; clear hsz hm hkl HA HX HY HZ HL; have hx4 : bits BinOp.and IntKind.u8 x 15 = x % 16 := u8_and15 x hx'.1 hx'.2; have hne : ¬ w1.heap.size + 1 = tb := by omega
       go_upto_region 23 with fail
       go_region_held3 (fun w' => w'.cell? ⟨tb, tof + (p + 1), none⟩ = some (.int .u8 x) ∧ w'.cell? ⟨tb, tof + (p + 1) + 1, none⟩ = some (.int .u8 y)) (go_keep) (((go_at_call 129; refine (num1_any y _ _ _ (by first | assumption | go_simp) hy'.1 hy'.2).mono ?_; rintro e w3 ⟨rfl, rfl⟩)))
       all_goals go_wp2
       all_goals
        go_meet
        case rel =>
         rw [hIs.out]; exact ⟨by repeat (first | exact hBW | apply Below.drew | apply below_drewN | refine Below.setCell ?_ (by simp) _), by (try simp); exact hzW, by go_simp, by go_simp, by go_simp, by go_simp, by go_simp, by go_simp⟩
    · as_aux_lemma =>
       obtain rfl : l = false := by
        cases l
        · rfl
        · exact absurd (hkl rfl) (by omega)
       have hsz : sizeK k false = 2 := by unfold sizeK; rw [hs]; rfl
       obtain rfl : m = 1 := by omega
       obtain rfl := HA.out (by omega); have cx := HX.out (by omega); have hIs := hd' (show insOf k false x y z = ⟨k, x, 0, 0, 0, false⟩ by simp [insOf, hs]); have hwx : IntKind.i64.wrap x = x := by rw [IntKind.wrap_i64]; omega
       have hwd : IntKind.i64.wrap (x / 16) = x / 16 := by rw [IntKind.wrap_i64]; omega
       have hwm : IntKind.i64.wrap (x % 16) = x % 16 := by rw [IntKind.wrap_i64]; omega
       rw [hs] at q2; clear hsz hm hkl HA HX HY HZ HL
       go_wp2
       all_goals
        go_meet
        case rel =>
         rw [hIs.out]; exact ⟨by repeat (first | exact hBW | apply Below.drew | apply below_drewN | refine Below.setCell ?_ (by simp) _), by (try simp); exact hzW, by go_simp, by go_simp, by go_simp, by go_simp, by go_simp, by go_simp⟩
    · as_aux_lemma =>
       obtain rfl : l = false := by
        cases l
        · rfl
        · exact absurd (hkl rfl) (by omega)
       have hsz : sizeK k false = 2 := by unfold sizeK; rw [hs]; rfl
       obtain rfl : m = 1 := by omega
       obtain rfl := HA.out (by omega); have cx := HX.out (by omega); have hIs := hd' (show insOf k false x y z = ⟨k, 0, x, 0, 0, false⟩ by simp [insOf, hs]); have hwx : IntKind.i64.wrap x = x := by rw [IntKind.wrap_i64]; omega
       have hwd : IntKind.i64.wrap (x / 16) = x / 16 := by rw [IntKind.wrap_i64]; omega
       have hwm : IntKind.i64.wrap (x % 16) = x % 16 := by rw [IntKind.wrap_i64]; omega
       rw [hs] at q2; clear hsz hm hkl HA HX HY HZ HL
       go_wp2
       all_goals
        go_meet
        case rel =>
         rw [hIs.out]; exact ⟨by repeat (first | exact hBW | apply Below.drew | apply below_drewN | refine Below.setCell ?_ (by simp) _), by (try simp); exact hzW, by go_simp, by go_simp, by go_simp, by go_simp, by go_simp, by go_simp⟩
    · cases l
      · as_aux_lemma =>
         have hsz : sizeK k false = 3 := by unfold sizeK; rw [hs]; rfl
         obtain rfl : m = 2 := by omega
         obtain rfl := HA.out (by omega); have cx := HX.out (by omega); have cy := HY.out (by omega); have hcp1 : ¬ cp = 1 := by omega
         have hIs := hd' (show insOf k false x y z = ⟨k, 0, x / 16, x % 16, num1 y, false⟩ by simp [insOf, hs]); have hwx : IntKind.i64.wrap x = x := by rw [IntKind.wrap_i64]; omega
         have hwd : IntKind.i64.wrap (x / 16) = x / 16 := by rw [IntKind.wrap_i64]; omega
         have hwm : IntKind.i64.wrap (x % 16) = x % 16 := by rw [IntKind.wrap_i64]; omega
         have hwy : IntKind.i64.wrap y = y := by rw [IntKind.wrap_i64]; omega
         rw [hs] at q2; clear hsz hm hkl HA HX HY HZ HL; have hx4 : bits BinOp.and IntKind.u8 x 15 = x % 16 := u8_and15 x hx'.1 hx'.2; have hne : ¬ w1.heap.size + 1 = tb := by omega
         go_upto_region 29 with fail
         go_region_held3 (fun w' => w'.cell? ⟨tb, tof + (p + 1), none⟩ = some (.int .u8 x) ∧ w'.cell? ⟨tb, tof + (p + 1) + 1, none⟩ = some (.int .u8 y)) (go_keep) (((go_at_call 129; refine (num1_any y _ _ _ (by first | assumption | go_simp) hy'.1 hy'.2).mono ?_; rintro e w3 ⟨rfl, rfl⟩)))
         all_goals go_wp2
         all_goals
          go_meet
          case rel =>
           rw [hIs.out]; exact ⟨by repeat (first | exact hBW | apply Below.drew | apply below_drewN | refine Below.setCell ?_ (by simp) _), by (try simp); exact hzW, by go_simp, by go_simp, by go_simp, by go_simp, by go_simp, by go_simp⟩
      · as_aux_lemma =>
         have hsz : sizeK k true = 4 := by unfold sizeK; rw [hs]; rfl
         obtain rfl : m = 3 := by omega
         obtain rfl := HA.out (by omega); have cx := HX.out (by omega); have cy := HY.out (by omega); have hcp1 : ¬ cp = 1 := by omega
         have cz := HZ.out (by omega); have hIs := hd' (show insOf k true x y z = ⟨k, 0, x / 16, x % 16, num2 y z, true⟩ by simp [insOf, hs]); have hwx : IntKind.i64.wrap x = x := by rw [IntKind.wrap_i64]; omega
         have hwd : IntKind.i64.wrap (x / 16) = x / 16 := by rw [IntKind.wrap_i64]; omega
         have hwm : IntKind.i64.wrap (x % 16) = x % 16 := by rw [IntKind.wrap_i64]; omega
         have hwy : IntKind.i64.wrap y = y := by rw [IntKind.wrap_i64]; omega
         rw [hs] at q2; clear hsz hm hkl HA HX HY HZ HL; have hx4 : bits BinOp.and IntKind.u8 x 15 = x % 16 := u8_and15 x hx'.1 hx'.2; have hne : ¬ w1.heap.size + 1 = tb := by omega
         go_upto_region 29 with fail
         go_region_held3 (fun w' => w'.cell? ⟨tb, tof + (p + 1), none⟩ = some (.int .u8 x) ∧ w'.cell? ⟨tb, tof + (p + 1) + 1, none⟩ = some (.int .u8 y) ∧ w'.cell? ⟨tb, tof + (p + 1) + 2, none⟩ = some (.int .u8 z)) (go_keep) (((go_at_call 129; refine (num2_any y z _ _ _ _ (by first | assumption | go_simp) (by first | assumption | go_simp) hy'.1 hy'.2 hz'.1 hz'.2).mono ?_; rintro e w3 ⟨rfl, nq, rfl⟩)))
         all_goals go_wp2
         all_goals
          go_meet
          case rel =>
           rw [hIs.out]; exact ⟨by repeat (first | exact hBW | apply Below.drew | apply below_drewN | refine Below.setCell ?_ (by simp) _), by (try simp); exact hzW, by go_simp, by go_simp, by go_simp, by go_simp, by go_simp, by go_simp⟩
    · cases l
      · as_aux_lemma =>
         have hsz : sizeK k false = 2 := by unfold sizeK; rw [hs]; rfl
         obtain rfl : m = 1 := by omega
         obtain rfl := HA.out (by omega); have cx := HX.out (by omega); have hIs := hd' (show insOf k false x y z = ⟨k, 0, 0, 0, num1 x, false⟩ by simp [insOf, hs]); have hwx : IntKind.i64.wrap x = x := by rw [IntKind.wrap_i64]; omega
         have hwd : IntKind.i64.wrap (x / 16) = x / 16 := by rw [IntKind.wrap_i64]; omega
         have hwm : IntKind.i64.wrap (x % 16) = x % 16 := by rw [IntKind.wrap_i64]; omega
         rw [hs] at q2; clear hsz hm hkl HA HX HY HZ HL
         go_wp2_with (go_at_call 129; refine (num1_any x _ _ _ (by go_simp) hx'.1 hx'.2).mono ?_; rintro e w3 ⟨rfl, rfl⟩)
         all_goals
          go_meet
          case rel =>
           rw [hIs.out]; exact ⟨by repeat (first | exact hBW | apply Below.drew | apply below_drewN | refine Below.setCell ?_ (by simp) _), by (try simp); exact hzW, by go_simp, by go_simp, by go_simp, by go_simp, by go_simp, by go_simp⟩
      · as_aux_lemma =>
         have hsz : sizeK k true = 3 := by unfold sizeK; rw [hs]; rfl
         obtain rfl : m = 2 := by omega
         obtain rfl := HA.out (by omega); have cx := HX.out (by omega); have cy := HY.out (by omega); have hcp1 : ¬ cp = 1 := by omega
         have hIs := hd' (show insOf k true x y z = ⟨k, 0, 0, 0, num2 x y, true⟩ by simp [insOf, hs]); have hwx : IntKind.i64.wrap x = x := by rw [IntKind.wrap_i64]; omega
         have hwd : IntKind.i64.wrap (x / 16) = x / 16 := by rw [IntKind.wrap_i64]; omega
         have hwm : IntKind.i64.wrap (x % 16) = x % 16 := by rw [IntKind.wrap_i64]; omega
         have hwy : IntKind.i64.wrap y = y := by rw [IntKind.wrap_i64]; omega
         rw [hs] at q2; clear hsz hm hkl HA HX HY HZ HL
         go_wp2_with (go_at_call 129; refine (num2_any x y _ _ _ _ (by go_simp) (by go_simp) hx'.1 hx'.2 hy'.1 hy'.2).mono ?_; rintro e w3 ⟨rfl, nq, rfl⟩)
         all_goals
          go_meet
          case rel =>
           rw [hIs.out]; exact ⟨by repeat (first | exact hBW | apply Below.drew | apply below_drewN | refine Below.setCell ?_ (by simp) _), by (try simp); exact hzW, by go_simp, by go_simp, by go_simp, by go_simp, by go_simp, by go_simp⟩
    · as_aux_lemma =>
       obtain rfl : l = false := by
        cases l
        · rfl
        · exact absurd (hkl rfl) (by omega)
       have hsz : sizeK k false = 3 := by unfold sizeK; rw [hs]; rfl
       obtain rfl : m = 2 := by omega
       obtain rfl := HA.out (by omega); have cx := HX.out (by omega); have cy := HY.out (by omega); have hcp1 : ¬ cp = 1 := by omega
       have hIs := hd' (show insOf k false x y z = ⟨k, 0, 0, 0, num2 x y, false⟩ by simp [insOf, hs]); have hwx : IntKind.i64.wrap x = x := by rw [IntKind.wrap_i64]; omega
       have hwd : IntKind.i64.wrap (x / 16) = x / 16 := by rw [IntKind.wrap_i64]; omega
       have hwm : IntKind.i64.wrap (x % 16) = x % 16 := by rw [IntKind.wrap_i64]; omega
       have hwy : IntKind.i64.wrap y = y := by rw [IntKind.wrap_i64]; omega
       rw [hs] at q2; clear hsz hm hkl HA HX HY HZ HL
       go_wp2_with (go_at_call 129; refine (num2_any x y _ _ _ _ (by go_simp) (by go_simp) hx'.1 hx'.2 hy'.1 hy'.2).mono ?_; rintro e w3 ⟨rfl, nq, rfl⟩)
       all_goals
        go_meet
        case rel =>
         rw [hIs.out]; exact ⟨by repeat (first | exact hBW | apply Below.drew | apply below_drewN | refine Below.setCell ?_ (by simp) _), by (try simp); exact hzW, by go_simp, by go_simp, by go_simp, by go_simp, by go_simp, by go_simp⟩
    · as_aux_lemma =>
       obtain rfl : l = false := by
        cases l
        · rfl
        · exact absurd (hkl rfl) (by omega)
       have hsz : sizeK k false = 3 := by unfold sizeK; rw [hs]; rfl
       obtain rfl : m = 2 := by omega
       obtain rfl := HA.out (by omega); have cx := HX.out (by omega); have cy := HY.out (by omega); have hcp1 : ¬ cp = 1 := by omega
       have hIs := hd' (show insOf k false x y z = ⟨k, 0, x, 0, y, false⟩ by simp [insOf, hs]); have hwx : IntKind.i64.wrap x = x := by rw [IntKind.wrap_i64]; omega
       have hwd : IntKind.i64.wrap (x / 16) = x / 16 := by rw [IntKind.wrap_i64]; omega
       have hwm : IntKind.i64.wrap (x % 16) = x % 16 := by rw [IntKind.wrap_i64]; omega
       have hwy : IntKind.i64.wrap y = y := by rw [IntKind.wrap_i64]; omega
       rw [hs] at q2; clear hsz hm hkl HA HX HY HZ HL; have hne : ¬ w1.heap.size + 1 = tb := by omega
       go_upto_region 34 with fail
       go_region_held3 (fun w' => w'.cell? ⟨tb, tof + (p + 1), none⟩ = some (.int .u8 x) ∧ w'.cell? ⟨tb, tof + (p + 1) + 1, none⟩ = some (.int .u8 y)) (go_keep) ((fail))
       all_goals go_wp2
       all_goals
        go_meet
        case rel =>
         rw [hIs.out]; exact ⟨by repeat (first | exact hBW | apply Below.drew | apply below_drewN | refine Below.setCell ?_ (by simp) _), by (try simp); exact hzW, by go_simp, by go_simp, by go_simp, by go_simp, by go_simp, by go_simp⟩
   case rest =>
    obtain ⟨hBx, hzx, d0, d1, d2, d3, d4, d5⟩ := hcut; obtain ⟨hIk, hIl⟩ := insOf_kl k l x y z; obtain ⟨I, hI⟩ : ∃ I, I = insOf k l x y z := ⟨_, rfl⟩
    rw [← hI] at hIk hIl d1 d2 d3 d4; have HI := hd' hI; clear hI; have hchk : I.chk = chk k I.d I.a I.b I.n l := by unfold Ins.chk; rw [hIk, hIl]
    have hcells : I.cells = #[.int .i64 k, .int .i64 I.d, .int .i64 I.a, .int .i64 I.b, .int .i64 I.n, .bool l] := by unfold Ins.cells; rw [hIk, hIl]
    clear hIk hIl q2 e0 e1 e2 e3 e4 e5 ef; have HC := hd' hchk; have HE := hd' hcells; clear hchk hcells; have hTx := hT2.out.below hBx
    go_wp2_with fail
    refine (check_any k I.d I.a I.b I.n l _ hTx).mono ?_; rintro e w2 ⟨rfl, hb2⟩; have hB2 : Below w1.heap.size w1 w2 := hBx.trans (hb2.mono (by omega)); have hB3 : Below w.heap.size w w2 := hB1.trans (hB2.mono (by omega)); obtain ⟨hc2, hf2⟩ := bcell hb2; have z0 : w2.cell? ⟨w.heap.size, 0, none⟩ = some (.int .i64 0) := (hB2.cell (p := ⟨w.heap.size, 0, none⟩) hlt).trans (H4.out 0 _ rfl); have z1 : w2.cell? ⟨w.heap.size, 1, none⟩ = some (.int .i64 0) := (hB2.cell (p := ⟨w.heap.size, 1, none⟩) hlt).trans (H4.out 1 _ rfl)
    have z2 : w2.cell? ⟨w.heap.size, 2, none⟩ = some (.int .i64 0) := (hB2.cell (p := ⟨w.heap.size, 2, none⟩) hlt).trans (H4.out 2 _ rfl); have z3 : w2.cell? ⟨w.heap.size, 3, none⟩ = some (.int .i64 0) := (hB2.cell (p := ⟨w.heap.size, 3, none⟩) hlt).trans (H4.out 3 _ rfl); have z4 : w2.cell? ⟨w.heap.size, 4, none⟩ = some (.int .i64 0) := (hB2.cell (p := ⟨w.heap.size, 4, none⟩) hlt).trans (H4.out 4 _ rfl); have z5 : w2.cell? ⟨w.heap.size, 5, none⟩ = some (.bool false) := (hB2.cell (p := ⟨w.heap.size, 5, none⟩) hlt).trans (H4.out 5 _ rfl)
    have zf : ∀ j, w2.frozen? ⟨w.heap.size, j, none⟩ = false := fun j => (hB2.frozen (p := ⟨w.heap.size, j, none⟩) hlt).trans (H5.out j)
    have f0 : w2.cell? ⟨w1.heap.size + 1, 0, none⟩ = some (.int .i64 k) := by rw [hc2 _ _ hzx]; exact d0
    have f1 : w2.cell? ⟨w1.heap.size + 1, 1, none⟩ = some (.int .i64 I.d) := by rw [hc2 _ _ hzx]; exact d1
    have f2 : w2.cell? ⟨w1.heap.size + 1, 2, none⟩ = some (.int .i64 I.a) := by rw [hc2 _ _ hzx]; exact d2
    have f3 : w2.cell? ⟨w1.heap.size + 1, 3, none⟩ = some (.int .i64 I.b) := by rw [hc2 _ _ hzx]; exact d3
    have f4 : w2.cell? ⟨w1.heap.size + 1, 4, none⟩ = some (.int .i64 I.n) := by rw [hc2 _ _ hzx]; exact d4
    have f5 : w2.cell? ⟨w1.heap.size + 1, 5, none⟩ = some (.bool l) := by rw [hc2 _ _ hzx]; exact d5
    clear hc2 hf2 hb2 hBx hTx hT2 H4 H5 d0 d1 d2 d3 d4 d5 hB2 hB1; have hfin : ∀ v0 v1 v2 v3 v4 v5, Below w.heap.size w ((((((w2.setCell ⟨w.heap.size, 0, none⟩ v0).setCell ⟨w.heap.size, 1, none⟩ v1).setCell ⟨w.heap.size, 2, none⟩ v2).setCell ⟨w.heap.size, 3, none⟩ v3).setCell ⟨w.heap.size, 4, none⟩ v4).setCell ⟨w.heap.size, 5, none⟩ v5) := fun _ _ _ _ _ _ => (((((hB3.setCell lr' _).setCell lr' _).setCell lr' _).setCell lr' _).setCell lr' _).setCell lr' _
    by_cases hchk : chk k I.d I.a I.b I.n l = 0
    · have hc0 : (chk k I.d I.a I.b I.n l != 0) = false := by simpa using hchk
      have HK := hd' hchk; clear hchk
      go_wp2
      refine bodyPost_ret (v := .tuple #[.agg #[.int .i64 k, .int .i64 I.d, .int .i64 I.a, .int .i64 I.b, .int .i64 I.n, .bool l], .int .i64 (sizeK k l), .int .i64 0]) (by simp [results, Tryz.results83, go_sem, *]) rfl ⟨?_, hfin _ _ _ _ _ _⟩; rw [← HI.out, decAns, if_pos (by rw [HC.out]; exact HK.out), HE.out]
    · have hc0 : (chk k I.d I.a I.b I.n l != 0) = true := by simpa using hchk
      have HK := hd' hchk; clear hchk
      go_wp2
      refine bodyPost_ret (v := .tuple #[.agg #[.int .i64 0, .int .i64 0, .int .i64 0, .int .i64 0, .int .i64 0, .bool false], .int .i64 0, .int .i64 4]) (by simp [results, Tryz.results83, go_sem, *]) rfl ⟨?_, hfin _ _ _ _ _ _⟩; rw [← HI.out, decAns, if_neg (by rw [HC.out]; exact HK.out)]
      rfl
end Go.Proofs.YtcdlgjhdbmmomaaGreatDoor
