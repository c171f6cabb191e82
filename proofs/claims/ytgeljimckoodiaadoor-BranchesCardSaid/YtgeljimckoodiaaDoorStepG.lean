/- step: (*machine).do, walked: all but memory. -/
import Derived.Test.YtgeljimckoodiaaDoorStepF
import Derived.Deep.AppendLies
import Derived.Deep.RegionHeld3
namespace Go.Proofs.YtgeljimckoodiaaDoor
open Go.RowKit
/-- one instruction that is followed by the next one -/
def doS (s : MSt) (k d a b n : Int) : MSt × Int :=
  if k = 4 then (s, 0)
  else if k = 5 then ({ s with regs := s.regs.set d.toNat (n, false) }, 0)
  else if k = 6 then (if (regAt s a).2 = true then (s, 4) else ({ s with regs := s.regs.set d.toNat (bal ((regAt s a).1 + n), false) }, 0))
  else if k = 14 ∨ k = 15 then memS s k d a b n
  else if k = 16 then ({ s with inp := s.inp.tail, regs := s.regs.set d.toNat (s.inp.headD 0, false) }, 0)
  else if k = 17 then (if (regAt s a).2 = true then (s, 4) else ({ s with told := s.told ++ [(regAt s a).1] }, 0))
  else if (regAt s a).2 = true ∨ (regAt s b).2 = true then (s, 4) else ({ s with regs := s.regs.set d.toNat (arithN k (regAt s a).1 (regAt s b).1, false) }, 0)
set_option maxHeartbeats 4000000 in
set_option maxRecDepth 100000 in
theorem do_nop {X B : Nat} {iv : List Value} {s : MSt} {d : MAd} (dd a b n : Int) (l : Bool) (w : World) (h : MInv w B X iv s d) :
    Calls Tryd.prog 36 #[.pointer (some ⟨X, 0, none⟩), .agg #[.int .i64 4, .int .i64 dd, .int .i64 a, .int .i64 b, .int .i64 n, .bool l]] w (DoPost w B X iv s (.int .i64 0)) := by
  have hBw : B ≤ w.heap.size := by have := h.bx; have := h.blk.lt; omega
  have H := Lib.hid h
  have hfin : ∀ O, Below B w (w.alloc O) := fun O => (Below.refl _ _).alloc hBw O
  clear h
  go_enter Tryd.func36, Tryd.ntmps36
  go_wp2
  go_ret
  exact ⟨rfl, hfin _, _, H.out.alloc _⟩
set_option maxHeartbeats 4000000 in
set_option maxRecDepth 100000 in
theorem do_li {X B : Nat} {iv : List Value} {s : MSt} {d : MAd} (dd a b n : Int) (l : Bool) (w : World) (h : MInv w B X iv s d) (hd : 0 ≤ dd ∧ dd < 8) (hn : -32768 ≤ n ∧ n ≤ 32767) :
    Calls Tryd.prog 36 #[.pointer (some ⟨X, 0, none⟩), .agg #[.int .i64 5, .int .i64 dd, .int .i64 a, .int .i64 b, .int .i64 n, .bool l]] w (DoPost w B X iv { s with regs := s.regs.set dd.toNat (n, false) } (.int .i64 0)) := by
  have hBw : B ≤ w.heap.size := by have := h.bx; have := h.blk.lt; omega
  have H := Lib.hid h
  have hlt := h.blk.lt
  have hnN : N41 n := ⟨by omega, by omega⟩
  have hfin : ∀ O, Below B w ((((w.alloc O).setCell ⟨X, 6 + dd.toNat * 2, none⟩ (.int .i64 n)).setCell ⟨X, 6 + dd.toNat * 2 + 1, none⟩ (.bool false)).drew) := fun O => (gb_to_below (gb_drew (gb_setCell (gb_setCell (gb_alloc (gb_refl _ _) O) _ _) _ _)) h.bx hBw)
  have hM : ∀ O, MInv ((((w.alloc O).setCell ⟨X, 6 + dd.toNat * 2, none⟩ (.int .i64 n)).setCell ⟨X, 6 + dd.toNat * 2 + 1, none⟩ (.bool false)).drew) B X iv { s with regs := s.regs.set dd.toNat (n, false) } d := fun O => ((h.alloc O).setReg dd.toNat (by omega) (n, false) hnN).drew
  obtain ⟨rd1, rd2⟩ := h.blk.reg (regAt_get h.blk hd.1 hd.2)
  have fzX : ∀ j, w.frozen? ⟨X, j, none⟩ = false := fun j => frozen_of_row _ _ _ _ _ h.blk.blk
  have HF := Lib.hid hfin
  have HM := Lib.hid hM
  clear h hfin hM
  go_enter Tryd.func36, Tryd.ntmps36
  go_wp2
  obtain ⟨W, hW⟩ : ∃ W, w.alloc (.cells #[.int .i64 5, .int .i64 dd, .int .i64 a, .int .i64 b, .int .i64 n, .bool l] 27) = W := ⟨_, rfl⟩
  have HF2 := HF.out (.cells #[.int .i64 5, .int .i64 dd, .int .i64 a, .int .i64 b, .int .i64 n, .bool l] 27)
  have HM2 := HM.out (.cells #[.int .i64 5, .int .i64 dd, .int .i64 a, .int .i64 b, .int .i64 n, .bool l] 27)
  have hbl : Below w.heap.size w W := by rw [← hW]; exact (Below.refl _ _).alloc (Nat.le_refl _) _
  have hbx : W.heap[w.heap.size]? = some (.cells #[.int .i64 5, .int .i64 dd, .int .i64 a, .int .i64 b, .int .i64 n, .bool l] 27 (0, 0)) := by rw [← hW]; exact heap_alloc_new w _
  rw [hW] at HF2 HM2 ⊢
  have HF3 := Lib.hid HF2
  have HM3 := Lib.hid HM2
  have x1 : W.cell? ⟨w.heap.size, 1, none⟩ = some (.int .i64 dd) := cell_of_row _ _ 1 _ _ _ hbx
  have x4 : W.cell? ⟨w.heap.size, 4, none⟩ = some (.int .i64 n) := cell_of_row _ _ 4 _ _ _ hbx
  have z0 : W.cell? ⟨X, 6 + dd.toNat * 2, none⟩ = some (.int .i64 (regAt s dd).1) := (hbl.cell (p := ⟨X, 6 + dd.toNat * 2, none⟩) hlt).trans rd1
  have z1 : W.cell? ⟨X, 6 + dd.toNat * 2 + 1, none⟩ = some (.bool (regAt s dd).2) := (hbl.cell (p := ⟨X, 6 + dd.toNat * 2 + 1, none⟩) hlt).trans rd2
  have zf : ∀ j, W.frozen? ⟨X, j, none⟩ = false := fun j => (hbl.frozen (p := ⟨X, j, none⟩) hlt).trans (fzX j)
  clear hW HF2 HM2 hbl hbx rd1 rd2 fzX HF HM
  go_still_tail 9, (by kernel_rfl)
  change wpList _ _ _ _ _ W.drew
  go_wp2
  go_ret
  exact ⟨rfl, HF3.out, _, HM3.out⟩
set_option maxHeartbeats 4000000 in
set_option maxRecDepth 100000 in
theorem do_addi {X B : Nat} {iv : List Value} {s : MSt} {d : MAd} (dd a b n : Int) (l : Bool) (w : World) (h : MInv w B X iv s d) (hd : 0 ≤ dd ∧ dd < 8) (ha : 0 ≤ a ∧ a < 8) (hn : -32768 ≤ n ∧ n ≤ 32767) :
    Calls Tryd.prog 36 #[.pointer (some ⟨X, 0, none⟩), .agg #[.int .i64 6, .int .i64 dd, .int .i64 a, .int .i64 b, .int .i64 n, .bool l]] w (DoPost w B X iv (if (regAt s a).2 = true then s else { s with regs := s.regs.set dd.toNat (bal ((regAt s a).1 + n), false) }) (.int .i64 (if (regAt s a).2 = true then 4 else 0))) := by
  have hBw : B ≤ w.heap.size := by have := h.bx; have := h.blk.lt; omega
  have H := Lib.hid h
  have hlt := h.blk.lt
  obtain ⟨rd1, rd2⟩ := h.blk.reg (regAt_get h.blk hd.1 hd.2)
  have fzX : ∀ j, w.frozen? ⟨X, j, none⟩ = false := fun j => frozen_of_row _ _ _ _ _ h.blk.blk
  have hra := regAt_bd h.rb a
  have HA := fun w h => number_any (X := X) (iv := iv) (s := s) (d := d) a w h ha.1 ha.2
  have HA' := Lib.hid HA
  have hvb := bal_bd ((regAt s a).1 + n)
  have HV := Lib.hid hvb
  clear h HA hvb
  obtain ⟨r1, r2⟩ := hra
  obtain ⟨x, hx⟩ : ∃ x, (regAt s a).1 = x := ⟨_, rfl⟩
  obtain ⟨c, hc⟩ : ∃ c, (regAt s a).2 = c := ⟨_, rfl⟩
  rw [hx] at r1 r2 HV HA' ⊢
  rw [hc] at HA' ⊢
  clear hx hc
  cases c
  case true =>
    go_enter Tryd.func36, Tryd.ntmps36
    go_wp2_with fail
    refine (HA'.out _ (H.out.blk.below ((Below.refl _ _).alloc (Nat.le_refl _) _))).mono ?_
    rintro e w1 ⟨rfl, m1, rfl⟩
    have HF := Lib.hid (gb_to_below (gb_drewN (gb_alloc (gb_refl w (some X)) (.cells #[.int .i64 6, .int .i64 dd, .int .i64 a, .int .i64 b, .int .i64 n, .bool l] 27)) m1) H.out.bx hBw)
    have HM := Lib.hid ((H.out.alloc (.cells #[.int .i64 6, .int .i64 dd, .int .i64 a, .int .i64 b, .int .i64 n, .bool l] 27)).drewN m1)
    go_wp2
    go_ret
    exact ⟨rfl, HF.out, _, HM.out⟩
  go_enter Tryd.func36, Tryd.ntmps36
  go_wp2_with fail
  refine (HA'.out _ (H.out.blk.below ((Below.refl _ _).alloc (Nat.le_refl _) _))).mono ?_
  rintro e w1 ⟨rfl, m1, rfl⟩
  go_wp2
  have e1 : IntKind.i64.wrap (x + n) = x + n := by rw [IntKind.wrap_i64]; omega
  obtain ⟨W, hW⟩ : ∃ W, (w.alloc (.cells #[.int .i64 6, .int .i64 dd, .int .i64 a, .int .i64 b, .int .i64 n, .bool l] 27)).drewN m1 = W := ⟨_, rfl⟩
  have hbl : Below w.heap.size w W := by rw [← hW]; exact below_dN ((Below.refl _ _).alloc (Nat.le_refl _) _) _
  have hgr : w.grownBy W (some X) := by rw [← hW]; exact gb_drewN (gb_alloc (gb_refl _ _) _) _
  have hbx : W.heap[w.heap.size]? = some (.cells #[.int .i64 6, .int .i64 dd, .int .i64 a, .int .i64 b, .int .i64 n, .bool l] 27 (0, 0)) := by rw [← hW]; exact heap_alloc_new w _
  rw [hW]
  have hMW : MInv W B X iv s d := H.out.gb hgr (H.out.blk.below hbl) H.out.rb rfl rfl rfl (Int.le_refl _)
  have HF3 := Lib.hid (gb_to_below (gb_drew (gb_setCell (gb_setCell hgr (6 + dd.toNat * 2) (.int .i64 (bal (x + n)))) (6 + dd.toNat * 2 + 1) (.bool false))) H.out.bx hBw)
  have HM3 := Lib.hid (hMW.setReg dd.toNat (by omega) (bal (x + n), false) HV.out).drew
  have x0 : W.cell? ⟨w.heap.size, 0, none⟩ = some (.int .i64 6) := cell_of_row _ _ 0 _ _ _ hbx
  have x1 : W.cell? ⟨w.heap.size, 1, none⟩ = some (.int .i64 dd) := cell_of_row _ _ 1 _ _ _ hbx
  have x4 : W.cell? ⟨w.heap.size, 4, none⟩ = some (.int .i64 n) := cell_of_row _ _ 4 _ _ _ hbx
  have z0 : W.cell? ⟨X, 6 + dd.toNat * 2, none⟩ = some (.int .i64 (regAt s dd).1) := (hbl.cell (p := ⟨X, 6 + dd.toNat * 2, none⟩) hlt).trans rd1
  have z1 : W.cell? ⟨X, 6 + dd.toNat * 2 + 1, none⟩ = some (.bool (regAt s dd).2) := (hbl.cell (p := ⟨X, 6 + dd.toNat * 2 + 1, none⟩) hlt).trans rd2
  have zf : ∀ j, W.frozen? ⟨X, j, none⟩ = false := fun j => (hbl.frozen (p := ⟨X, j, none⟩) hlt).trans (fzX j)
  have hne : ¬ X = w.heap.size := by omega
  clear hW hbl hbx rd1 rd2 fzX hgr hMW
  go_region_held3 (fun w' => w'.cell? ⟨w.heap.size, 0, none⟩ = some (.int .i64 6) ∧ w'.cell? ⟨w.heap.size, 1, none⟩ = some (.int .i64 dd) ∧ w'.cell? ⟨w.heap.size, 4, none⟩ = some (.int .i64 n)) (go_keep) ((go_at_call 60; refine (fold_any _ (by omega) (by omega) _).mono ?_; rintro e w3 ⟨rfl, rfl⟩))
  go_wp2
  go_ret
  exact ⟨rfl, HF3.out, _, HM3.out⟩
set_option maxHeartbeats 4000000 in
set_option maxRecDepth 100000 in
theorem do_arith {X B : Nat} {iv : List Value} {s : MSt} {d : MAd} (k : Int) (dd a b n : Int) (l : Bool) (w : World) (h : MInv w B X iv s d) (hd : 0 ≤ dd ∧ dd < 8) (ha : 0 ≤ a ∧ a < 8) (hb : 0 ≤ b ∧ b < 8) (_hn : -32768 ≤ n ∧ n ≤ 32767) (hk : 7 ≤ k ∧ k ≤ 13) :
    Calls Tryd.prog 36 #[.pointer (some ⟨X, 0, none⟩), .agg #[.int .i64 k, .int .i64 dd, .int .i64 a, .int .i64 b, .int .i64 n, .bool l]] w (DoPost w B X iv (if (regAt s a).2 = true ∨ (regAt s b).2 = true then s else { s with regs := s.regs.set dd.toNat (arithN k (regAt s a).1 (regAt s b).1, false) }) (.int .i64 (if (regAt s a).2 = true ∨ (regAt s b).2 = true then 4 else 0))) := by
  have hBw : B ≤ w.heap.size := by have := h.bx; have := h.blk.lt; omega
  have H := Lib.hid h
  have hlt := h.blk.lt
  obtain ⟨rd1, rd2⟩ := h.blk.reg (regAt_get h.blk hd.1 hd.2)
  have fzX : ∀ j, w.frozen? ⟨X, j, none⟩ = false := fun j => frozen_of_row _ _ _ _ _ h.blk.blk
  have hra := regAt_bd h.rb a
  have hrb := regAt_bd h.rb b
  have HA := fun w h => numbers_any (X := X) (iv := iv) (s := s) (d := d) a b w h ha.1 ha.2 hb.1 hb.2
  have HA' := Lib.hid HA
  have hvb := arithN_bd k (regAt s a).1 (regAt s b).1
  have HV := Lib.hid hvb
  have hAr := fun w => arith_any k (regAt s a).1 (regAt s b).1 hra hrb w
  have HAR := Lib.hid hAr
  clear h HA hvb hAr hra hrb
  obtain ⟨k1, k2⟩ := hk
  have g4 : (k == 4) = false := by simp; omega
  have g5 : (k == 5) = false := by simp; omega
  have g6 : (k == 6) = false := by simp; omega
  have g14 : (k == 14) = false := by simp; omega
  have g15 : (k == 15) = false := by simp; omega
  have g16 : (k == 16) = false := by simp; omega
  have g17 : (k == 17) = false := by simp; omega
  obtain ⟨q, hq⟩ : ∃ q, (!(regAt s a).2 && !(regAt s b).2) = q := ⟨_, rfl⟩
  rw [hq] at HA'
  go_enter Tryd.func36, Tryd.ntmps36
  cases q
  case false =>
    have hor : (regAt s a).2 = true ∨ (regAt s b).2 = true := by
      cases h1 : (regAt s a).2
      · cases h2 : (regAt s b).2
        · rw [h1, h2] at hq; cases hq
        · exact .inr rfl
      · exact .inl rfl
    rw [if_pos hor, if_pos hor]
    clear hq hor
    go_wp2_with fail
    refine (HA'.out _ (H.out.blk.below ((Below.refl _ _).alloc (Nat.le_refl _) _))).mono ?_
    rintro e w1 ⟨rfl, m1, rfl⟩
    have HF := Lib.hid (gb_to_below (gb_drewN (gb_alloc (gb_refl w (some X)) (.cells #[.int .i64 k, .int .i64 dd, .int .i64 a, .int .i64 b, .int .i64 n, .bool l] 27)) m1) H.out.bx hBw)
    have HM := Lib.hid ((H.out.alloc (.cells #[.int .i64 k, .int .i64 dd, .int .i64 a, .int .i64 b, .int .i64 n, .bool l] 27)).drewN m1)
    go_wp2
    go_ret
    exact ⟨rfl, HF.out, _, HM.out⟩
  have hor : ¬ ((regAt s a).2 = true ∨ (regAt s b).2 = true) := by
    cases h1 : (regAt s a).2 <;> cases h2 : (regAt s b).2 <;> rw [h1, h2] at hq <;> simp at hq ⊢
  rw [if_neg hor, if_neg hor]
  clear hq hor
  go_wp2_with fail
  refine (HA'.out _ (H.out.blk.below ((Below.refl _ _).alloc (Nat.le_refl _) _))).mono ?_
  rintro e w1 ⟨rfl, m1, rfl⟩
  go_wp2
  generalize hrr : arithN k (regAt s a).1 (regAt s b).1 = z at *
  clear hrr
  obtain ⟨W, hW⟩ : ∃ W, (w.alloc (.cells #[.int .i64 k, .int .i64 dd, .int .i64 a, .int .i64 b, .int .i64 n, .bool l] 27)).drewN m1 = W := ⟨_, rfl⟩
  have hbl : Below w.heap.size w W := by rw [← hW]; exact below_dN ((Below.refl _ _).alloc (Nat.le_refl _) _) _
  have hgr : w.grownBy W (some X) := by rw [← hW]; exact gb_drewN (gb_alloc (gb_refl _ _) _) _
  have hbx : W.heap[w.heap.size]? = some (.cells #[.int .i64 k, .int .i64 dd, .int .i64 a, .int .i64 b, .int .i64 n, .bool l] 27 (0, 0)) := by rw [← hW]; exact heap_alloc_new w _
  rw [hW]
  have hMW : MInv W B X iv s d := H.out.gb hgr (H.out.blk.below hbl) H.out.rb rfl rfl rfl (Int.le_refl _)
  have HF3 := Lib.hid (gb_to_below (gb_drew (gb_setCell (gb_setCell hgr (6 + dd.toNat * 2) (.int .i64 (z))) (6 + dd.toNat * 2 + 1) (.bool false))) H.out.bx hBw)
  have HM3 := Lib.hid (hMW.setReg dd.toNat (by omega) (z, false) HV.out).drew
  have x0 : W.cell? ⟨w.heap.size, 0, none⟩ = some (.int .i64 k) := cell_of_row _ _ 0 _ _ _ hbx
  have x1 : W.cell? ⟨w.heap.size, 1, none⟩ = some (.int .i64 dd) := cell_of_row _ _ 1 _ _ _ hbx
  have x4 : W.cell? ⟨w.heap.size, 4, none⟩ = some (.int .i64 n) := cell_of_row _ _ 4 _ _ _ hbx
  have z0 : W.cell? ⟨X, 6 + dd.toNat * 2, none⟩ = some (.int .i64 (regAt s dd).1) := (hbl.cell (p := ⟨X, 6 + dd.toNat * 2, none⟩) hlt).trans rd1
  have z1 : W.cell? ⟨X, 6 + dd.toNat * 2 + 1, none⟩ = some (.bool (regAt s dd).2) := (hbl.cell (p := ⟨X, 6 + dd.toNat * 2 + 1, none⟩) hlt).trans rd2
  have zf : ∀ j, W.frozen? ⟨X, j, none⟩ = false := fun j => (hbl.frozen (p := ⟨X, j, none⟩) hlt).trans (fzX j)
  have hne : ¬ X = w.heap.size := by omega
  clear hW hbl hbx rd1 rd2 fzX hgr hMW
  go_region_held3 (fun w' => w'.cell? ⟨w.heap.size, 0, none⟩ = some (.int .i64 k) ∧ w'.cell? ⟨w.heap.size, 1, none⟩ = some (.int .i64 dd) ∧ w'.cell? ⟨w.heap.size, 4, none⟩ = some (.int .i64 n)) (go_keep) ((go_at_call 62; refine (HAR.out _).mono ?_; rintro e w3 ⟨rfl, rfl⟩))
  go_wp2
  go_ret
  exact ⟨rfl, HF3.out, _, HM3.out⟩
end Go.Proofs.YtgeljimckoodiaaDoor
