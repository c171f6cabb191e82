/- step: (*machine).do, walked: all but memory. step: (*machine).do, walked: memory, inputs, outputs; the whole. -/
import Derived.Test.YtlekjnnofhjgjaaDoorStepF
import Derived.Deep.AppendLies
import Derived.Deep.RegionHeld3
import Derived.Test.YtlekjnnofhjgjaaDoorAppG
namespace Go.Proofs.YtlekjnnofhjgjaaDoor
open Go.RowKit
/-- one instruction that is followed by the next one -/
def doS (s : MSt) (k d a b n : Int) : MSt × Int :=
  if k = 4 then (s, 0)
  else if k = 5 then ({ s with regs := s.regs.set d.toNat (n, false) }, 0)
  else if k = 6 then (if (regAt s a).2 = true then (s, 4) else ({ s with regs := s.regs.set d.toNat (bal ((regAt s a).1 + n), false) }, 0))
  else if k = 14 ∨ k = 15 then memS s k d a b n
  else if k = 16 then ({ s with inp := s.inp.tail, regs := s.regs.set d.toNat (s.inp.headD 0, false) }, 0)
  else if k = 17 then (if (regAt s a).2 = true then (s, 4) else ({ s with told := s.told ++ [(regAt s a).1] }, 0))
  else if (regAt s a).2 = true ∨ (regAt s b).2 = true then (s, 4) else ({ s with regs := s.regs.set d.toNat (arithN k (regAt s a).1 (regAt s b).1, false) }, 0)
set_option maxHeartbeats 4000000 in
set_option maxRecDepth 100000 in
theorem do_nop {X B : Nat} {iv : List Value} {s : MSt} {d : MAd} (dd a b n : Int) (l : Bool) (w : World) (h : MInv w B X iv s d) :
    Calls Tryd.prog 39 #[.pointer (some ⟨X, 0, none⟩), .agg #[.int .i64 4, .int .i64 dd, .int .i64 a, .int .i64 b, .int .i64 n, .bool l]] w (DoPost w B X iv s (.int .i64 0)) := by
  have hBw : B ≤ w.heap.size := by have := h.bx; have := h.blk.lt; omega
  have H := Lib.hid h
  have hfin : ∀ O, Below B w (w.alloc O) := fun O => (Below.refl _ _).alloc hBw O
  clear h
  go_enter Tryd.func39, Tryd.ntmps39
  go_wp2
  go_ret
  exact ⟨rfl, hfin _, _, H.out.alloc _⟩
set_option maxHeartbeats 4000000 in
set_option maxRecDepth 100000 in
theorem do_li {X B : Nat} {iv : List Value} {s : MSt} {d : MAd} (dd a b n : Int) (l : Bool) (w : World) (h : MInv w B X iv s d) (hd : 0 ≤ dd ∧ dd < 8) (hn : -32768 ≤ n ∧ n ≤ 32767) :
    Calls Tryd.prog 39 #[.pointer (some ⟨X, 0, none⟩), .agg #[.int .i64 5, .int .i64 dd, .int .i64 a, .int .i64 b, .int .i64 n, .bool l]] w (DoPost w B X iv { s with regs := s.regs.set dd.toNat (n, false) } (.int .i64 0)) := by
  have hBw : B ≤ w.heap.size := by have := h.bx; have := h.blk.lt; omega
  have H := Lib.hid h
  have hlt := h.blk.lt
  have hnN : N41 n := ⟨by omega, by omega⟩
  have hfin : ∀ O, Below B w ((((w.alloc O).setCell ⟨X, 6 + dd.toNat * 2, none⟩ (.int .i64 n)).setCell ⟨X, 6 + dd.toNat * 2 + 1, none⟩ (.bool false)).drew) := fun O => (gb_to_below (gb_drew (gb_setCell (gb_setCell (gb_alloc (gb_refl _ _) O) _ _) _ _)) h.bx hBw)
  have hM : ∀ O, MInv ((((w.alloc O).setCell ⟨X, 6 + dd.toNat * 2, none⟩ (.int .i64 n)).setCell ⟨X, 6 + dd.toNat * 2 + 1, none⟩ (.bool false)).drew) B X iv { s with regs := s.regs.set dd.toNat (n, false) } d := fun O => ((h.alloc O).setReg dd.toNat (by omega) (n, false) hnN).drew
  obtain ⟨rd1, rd2⟩ := h.blk.reg (regAt_get h.blk hd.1 hd.2)
  have fzX : ∀ j, w.frozen? ⟨X, j, none⟩ = false := fun j => frozen_of_row _ _ _ _ _ h.blk.blk
  have HF := Lib.hid hfin
  have HM := Lib.hid hM
  clear h hfin hM
  go_enter Tryd.func39, Tryd.ntmps39
  go_wp2
  obtain ⟨W, hW⟩ : ∃ W, w.alloc (.cells #[.int .i64 5, .int .i64 dd, .int .i64 a, .int .i64 b, .int .i64 n, .bool l] 47) = W := ⟨_, rfl⟩
  have HF2 := HF.out (.cells #[.int .i64 5, .int .i64 dd, .int .i64 a, .int .i64 b, .int .i64 n, .bool l] 47)
  have HM2 := HM.out (.cells #[.int .i64 5, .int .i64 dd, .int .i64 a, .int .i64 b, .int .i64 n, .bool l] 47)
  have hbl : Below w.heap.size w W := by rw [← hW]; exact (Below.refl _ _).alloc (Nat.le_refl _) _
  have hbx : W.heap[w.heap.size]? = some (.cells #[.int .i64 5, .int .i64 dd, .int .i64 a, .int .i64 b, .int .i64 n, .bool l] 47 (0, 0)) := by rw [← hW]; exact heap_alloc_new w _
  rw [hW] at HF2 HM2 ⊢
  have HF3 := Lib.hid HF2
  have HM3 := Lib.hid HM2
  have x1 : W.cell? ⟨w.heap.size, 1, none⟩ = some (.int .i64 dd) := cell_of_row _ _ 1 _ _ _ hbx
  have x4 : W.cell? ⟨w.heap.size, 4, none⟩ = some (.int .i64 n) := cell_of_row _ _ 4 _ _ _ hbx
  have z0 : W.cell? ⟨X, 6 + dd.toNat * 2, none⟩ = some (.int .i64 (regAt s dd).1) := (hbl.cell (p := ⟨X, 6 + dd.toNat * 2, none⟩) hlt).trans rd1
  have z1 : W.cell? ⟨X, 6 + dd.toNat * 2 + 1, none⟩ = some (.bool (regAt s dd).2) := (hbl.cell (p := ⟨X, 6 + dd.toNat * 2 + 1, none⟩) hlt).trans rd2
  have zf : ∀ j, W.frozen? ⟨X, j, none⟩ = false := fun j => (hbl.frozen (p := ⟨X, j, none⟩) hlt).trans (fzX j)
  clear hW HF2 HM2 hbl hbx rd1 rd2 fzX HF HM
  go_still_tail 9, (by kernel_rfl)
  change wpList _ _ _ _ _ W.drew
  go_wp2
  go_ret
  exact ⟨rfl, HF3.out, _, HM3.out⟩
set_option maxHeartbeats 4000000 in
set_option maxRecDepth 100000 in
theorem do_addi {X B : Nat} {iv : List Value} {s : MSt} {d : MAd} (dd a b n : Int) (l : Bool) (w : World) (h : MInv w B X iv s d) (hd : 0 ≤ dd ∧ dd < 8) (ha : 0 ≤ a ∧ a < 8) (hn : -32768 ≤ n ∧ n ≤ 32767) :
    Calls Tryd.prog 39 #[.pointer (some ⟨X, 0, none⟩), .agg #[.int .i64 6, .int .i64 dd, .int .i64 a, .int .i64 b, .int .i64 n, .bool l]] w (DoPost w B X iv (if (regAt s a).2 = true then s else { s with regs := s.regs.set dd.toNat (bal ((regAt s a).1 + n), false) }) (.int .i64 (if (regAt s a).2 = true then 4 else 0))) := by
  have hBw : B ≤ w.heap.size := by have := h.bx; have := h.blk.lt; omega
  have H := Lib.hid h
  have hlt := h.blk.lt
  obtain ⟨rd1, rd2⟩ := h.blk.reg (regAt_get h.blk hd.1 hd.2)
  have fzX : ∀ j, w.frozen? ⟨X, j, none⟩ = false := fun j => frozen_of_row _ _ _ _ _ h.blk.blk
  have hra := regAt_bd h.rb a
  have HA := fun w h => number_any (X := X) (iv := iv) (s := s) (d := d) a w h ha.1 ha.2
  have HA' := Lib.hid HA
  have hvb := bal_bd ((regAt s a).1 + n)
  have HV := Lib.hid hvb
  clear h HA hvb
  obtain ⟨r1, r2⟩ := hra
  obtain ⟨x, hx⟩ : ∃ x, (regAt s a).1 = x := ⟨_, rfl⟩
  obtain ⟨c, hc⟩ : ∃ c, (regAt s a).2 = c := ⟨_, rfl⟩
  rw [hx] at r1 r2 HV HA' ⊢
  rw [hc] at HA' ⊢
  clear hx hc
  cases c
  case true =>
    go_enter Tryd.func39, Tryd.ntmps39
    go_wp2_with fail
    refine (HA'.out _ (H.out.blk.below ((Below.refl _ _).alloc (Nat.le_refl _) _))).mono ?_
    rintro e w1 ⟨rfl, m1, rfl⟩
    have HF := Lib.hid (gb_to_below (gb_drewN (gb_alloc (gb_refl w (some X)) (.cells #[.int .i64 6, .int .i64 dd, .int .i64 a, .int .i64 b, .int .i64 n, .bool l] 47)) m1) H.out.bx hBw)
    have HM := Lib.hid ((H.out.alloc (.cells #[.int .i64 6, .int .i64 dd, .int .i64 a, .int .i64 b, .int .i64 n, .bool l] 47)).drewN m1)
    go_wp2
    go_ret
    exact ⟨rfl, HF.out, _, HM.out⟩
  go_enter Tryd.func39, Tryd.ntmps39
  go_wp2_with fail
  refine (HA'.out _ (H.out.blk.below ((Below.refl _ _).alloc (Nat.le_refl _) _))).mono ?_
  rintro e w1 ⟨rfl, m1, rfl⟩
  go_wp2
  have e1 : IntKind.i64.wrap (x + n) = x + n := by rw [IntKind.wrap_i64]; omega
  obtain ⟨W, hW⟩ : ∃ W, (w.alloc (.cells #[.int .i64 6, .int .i64 dd, .int .i64 a, .int .i64 b, .int .i64 n, .bool l] 47)).drewN m1 = W := ⟨_, rfl⟩
  have hbl : Below w.heap.size w W := by rw [← hW]; exact below_dN ((Below.refl _ _).alloc (Nat.le_refl _) _) _
  have hgr : w.grownBy W (some X) := by rw [← hW]; exact gb_drewN (gb_alloc (gb_refl _ _) _) _
  have hbx : W.heap[w.heap.size]? = some (.cells #[.int .i64 6, .int .i64 dd, .int .i64 a, .int .i64 b, .int .i64 n, .bool l] 47 (0, 0)) := by rw [← hW]; exact heap_alloc_new w _
  rw [hW]
  have hMW : MInv W B X iv s d := H.out.gb hgr (H.out.blk.below hbl) H.out.rb rfl rfl rfl (Int.le_refl _)
  have HF3 := Lib.hid (gb_to_below (gb_drew (gb_setCell (gb_setCell hgr (6 + dd.toNat * 2) (.int .i64 (bal (x + n)))) (6 + dd.toNat * 2 + 1) (.bool false))) H.out.bx hBw)
  have HM3 := Lib.hid (hMW.setReg dd.toNat (by omega) (bal (x + n), false) HV.out).drew
  have x0 : W.cell? ⟨w.heap.size, 0, none⟩ = some (.int .i64 6) := cell_of_row _ _ 0 _ _ _ hbx
  have x1 : W.cell? ⟨w.heap.size, 1, none⟩ = some (.int .i64 dd) := cell_of_row _ _ 1 _ _ _ hbx
  have x4 : W.cell? ⟨w.heap.size, 4, none⟩ = some (.int .i64 n) := cell_of_row _ _ 4 _ _ _ hbx
  have z0 : W.cell? ⟨X, 6 + dd.toNat * 2, none⟩ = some (.int .i64 (regAt s dd).1) := (hbl.cell (p := ⟨X, 6 + dd.toNat * 2, none⟩) hlt).trans rd1
  have z1 : W.cell? ⟨X, 6 + dd.toNat * 2 + 1, none⟩ = some (.bool (regAt s dd).2) := (hbl.cell (p := ⟨X, 6 + dd.toNat * 2 + 1, none⟩) hlt).trans rd2
  have zf : ∀ j, W.frozen? ⟨X, j, none⟩ = false := fun j => (hbl.frozen (p := ⟨X, j, none⟩) hlt).trans (fzX j)
  have hne : ¬ X = w.heap.size := by omega
  clear hW hbl hbx rd1 rd2 fzX hgr hMW
  go_region_held3 (fun w' => w'.cell? ⟨w.heap.size, 0, none⟩ = some (.int .i64 6) ∧ w'.cell? ⟨w.heap.size, 1, none⟩ = some (.int .i64 dd) ∧ w'.cell? ⟨w.heap.size, 4, none⟩ = some (.int .i64 n)) (go_keep) ((go_at_call 68; refine (fold_any _ (by omega) (by omega) _).mono ?_; rintro e w3 ⟨rfl, rfl⟩))
  go_wp2
  go_ret
  exact ⟨rfl, HF3.out, _, HM3.out⟩
set_option maxHeartbeats 4000000 in
set_option maxRecDepth 100000 in
theorem do_arith {X B : Nat} {iv : List Value} {s : MSt} {d : MAd} (k : Int) (dd a b n : Int) (l : Bool) (w : World) (h : MInv w B X iv s d) (hd : 0 ≤ dd ∧ dd < 8) (ha : 0 ≤ a ∧ a < 8) (hb : 0 ≤ b ∧ b < 8) (_hn : -32768 ≤ n ∧ n ≤ 32767) (hk : 7 ≤ k ∧ k ≤ 13) :
    Calls Tryd.prog 39 #[.pointer (some ⟨X, 0, none⟩), .agg #[.int .i64 k, .int .i64 dd, .int .i64 a, .int .i64 b, .int .i64 n, .bool l]] w (DoPost w B X iv (if (regAt s a).2 = true ∨ (regAt s b).2 = true then s else { s with regs := s.regs.set dd.toNat (arithN k (regAt s a).1 (regAt s b).1, false) }) (.int .i64 (if (regAt s a).2 = true ∨ (regAt s b).2 = true then 4 else 0))) := by
  have hBw : B ≤ w.heap.size := by have := h.bx; have := h.blk.lt; omega
  have H := Lib.hid h
  have hlt := h.blk.lt
  obtain ⟨rd1, rd2⟩ := h.blk.reg (regAt_get h.blk hd.1 hd.2)
  have fzX : ∀ j, w.frozen? ⟨X, j, none⟩ = false := fun j => frozen_of_row _ _ _ _ _ h.blk.blk
  have hra := regAt_bd h.rb a
  have hrb := regAt_bd h.rb b
  have HA := fun w h => numbers_any (X := X) (iv := iv) (s := s) (d := d) a b w h ha.1 ha.2 hb.1 hb.2
  have HA' := Lib.hid HA
  have hvb := arithN_bd k (regAt s a).1 (regAt s b).1
  have HV := Lib.hid hvb
  have hAr := fun w => arith_any k (regAt s a).1 (regAt s b).1 hra hrb w
  have HAR := Lib.hid hAr
  clear h HA hvb hAr hra hrb
  obtain ⟨k1, k2⟩ := hk
  have g4 : (k == 4) = false := by simp; omega
  have g5 : (k == 5) = false := by simp; omega
  have g6 : (k == 6) = false := by simp; omega
  have g14 : (k == 14) = false := by simp; omega
  have g15 : (k == 15) = false := by simp; omega
  have g16 : (k == 16) = false := by simp; omega
  have g17 : (k == 17) = false := by simp; omega
  obtain ⟨q, hq⟩ : ∃ q, (!(regAt s a).2 && !(regAt s b).2) = q := ⟨_, rfl⟩
  rw [hq] at HA'
  go_enter Tryd.func39, Tryd.ntmps39
  cases q
  case false =>
    have hor : (regAt s a).2 = true ∨ (regAt s b).2 = true := by
      cases h1 : (regAt s a).2
      · cases h2 : (regAt s b).2
        · rw [h1, h2] at hq; cases hq
        · exact .inr rfl
      · exact .inl rfl
    rw [if_pos hor, if_pos hor]
    clear hq hor
    go_wp2_with fail
    refine (HA'.out _ (H.out.blk.below ((Below.refl _ _).alloc (Nat.le_refl _) _))).mono ?_
    rintro e w1 ⟨rfl, m1, rfl⟩
    have HF := Lib.hid (gb_to_below (gb_drewN (gb_alloc (gb_refl w (some X)) (.cells #[.int .i64 k, .int .i64 dd, .int .i64 a, .int .i64 b, .int .i64 n, .bool l] 47)) m1) H.out.bx hBw)
    have HM := Lib.hid ((H.out.alloc (.cells #[.int .i64 k, .int .i64 dd, .int .i64 a, .int .i64 b, .int .i64 n, .bool l] 47)).drewN m1)
    go_wp2
    go_ret
    exact ⟨rfl, HF.out, _, HM.out⟩
  have hor : ¬ ((regAt s a).2 = true ∨ (regAt s b).2 = true) := by
    cases h1 : (regAt s a).2 <;> cases h2 : (regAt s b).2 <;> rw [h1, h2] at hq <;> simp at hq ⊢
  rw [if_neg hor, if_neg hor]
  clear hq hor
  go_wp2_with fail
  refine (HA'.out _ (H.out.blk.below ((Below.refl _ _).alloc (Nat.le_refl _) _))).mono ?_
  rintro e w1 ⟨rfl, m1, rfl⟩
  go_wp2
  generalize hrr : arithN k (regAt s a).1 (regAt s b).1 = z at *
  clear hrr
  obtain ⟨W, hW⟩ : ∃ W, (w.alloc (.cells #[.int .i64 k, .int .i64 dd, .int .i64 a, .int .i64 b, .int .i64 n, .bool l] 47)).drewN m1 = W := ⟨_, rfl⟩
  have hbl : Below w.heap.size w W := by rw [← hW]; exact below_dN ((Below.refl _ _).alloc (Nat.le_refl _) _) _
  have hgr : w.grownBy W (some X) := by rw [← hW]; exact gb_drewN (gb_alloc (gb_refl _ _) _) _
  have hbx : W.heap[w.heap.size]? = some (.cells #[.int .i64 k, .int .i64 dd, .int .i64 a, .int .i64 b, .int .i64 n, .bool l] 47 (0, 0)) := by rw [← hW]; exact heap_alloc_new w _
  rw [hW]
  have hMW : MInv W B X iv s d := H.out.gb hgr (H.out.blk.below hbl) H.out.rb rfl rfl rfl (Int.le_refl _)
  have HF3 := Lib.hid (gb_to_below (gb_drew (gb_setCell (gb_setCell hgr (6 + dd.toNat * 2) (.int .i64 (z))) (6 + dd.toNat * 2 + 1) (.bool false))) H.out.bx hBw)
  have HM3 := Lib.hid (hMW.setReg dd.toNat (by omega) (z, false) HV.out).drew
  have x0 : W.cell? ⟨w.heap.size, 0, none⟩ = some (.int .i64 k) := cell_of_row _ _ 0 _ _ _ hbx
  have x1 : W.cell? ⟨w.heap.size, 1, none⟩ = some (.int .i64 dd) := cell_of_row _ _ 1 _ _ _ hbx
  have x4 : W.cell? ⟨w.heap.size, 4, none⟩ = some (.int .i64 n) := cell_of_row _ _ 4 _ _ _ hbx
  have z0 : W.cell? ⟨X, 6 + dd.toNat * 2, none⟩ = some (.int .i64 (regAt s dd).1) := (hbl.cell (p := ⟨X, 6 + dd.toNat * 2, none⟩) hlt).trans rd1
  have z1 : W.cell? ⟨X, 6 + dd.toNat * 2 + 1, none⟩ = some (.bool (regAt s dd).2) := (hbl.cell (p := ⟨X, 6 + dd.toNat * 2 + 1, none⟩) hlt).trans rd2
  have zf : ∀ j, W.frozen? ⟨X, j, none⟩ = false := fun j => (hbl.frozen (p := ⟨X, j, none⟩) hlt).trans (fzX j)
  have hne : ¬ X = w.heap.size := by omega
  clear hW hbl hbx rd1 rd2 fzX hgr hMW
  go_region_held3 (fun w' => w'.cell? ⟨w.heap.size, 0, none⟩ = some (.int .i64 k) ∧ w'.cell? ⟨w.heap.size, 1, none⟩ = some (.int .i64 dd) ∧ w'.cell? ⟨w.heap.size, 4, none⟩ = some (.int .i64 n)) (go_keep) ((go_at_call 70; refine (HAR.out _).mono ?_; rintro e w3 ⟨rfl, rfl⟩))
  go_wp2
  go_ret
  exact ⟨rfl, HF3.out, _, HM3.out⟩
end Go.Proofs.YtlekjnnofhjgjaaDoor
namespace Go.Proofs.YtlekjnnofhjgjaaDoor
open Go.RowKit
set_option maxHeartbeats 4000000 in
set_option maxRecDepth 100000 in
theorem do_mem {X B : Nat} {iv : List Value} {s : MSt} {d : MAd} (k dd a b n : Int) (l : Bool) (w : World) (h : MInv w B X iv s d) (hk : k = 14 ∨ k = 15) (hd : 0 ≤ dd ∧ dd < 8) (ha : 0 ≤ a ∧ a < 8) (hb : 0 ≤ b ∧ b < 8) (hn : -32768 ≤ n ∧ n ≤ 32767) :
    Calls Tryd.prog 39 #[.pointer (some ⟨X, 0, none⟩), .agg #[.int .i64 k, .int .i64 dd, .int .i64 a, .int .i64 b, .int .i64 n, .bool l]] w (DoPost w B X iv (memS s k dd a b n).1 (.int .i64 (memS s k dd a b n).2)) := by
  have hBw : B ≤ w.heap.size := by have := h.bx; have := h.blk.lt; omega
  have hm := memory_any (X := X) (B := B) (iv := iv) (s := s) (d := d) k dd a b n l
  have HM := Lib.hid (hm (w.alloc (.cells #[.int .i64 k, .int .i64 dd, .int .i64 a, .int .i64 b, .int .i64 n, .bool l] 47)) (h.alloc _) hd ha hb hn)
  have HB := Lib.hid (show Below B w (w.alloc (.cells #[.int .i64 k, .int .i64 dd, .int .i64 a, .int .i64 b, .int .i64 n, .bool l] 47)) from (Below.refl _ _).alloc hBw _)
  clear h hm
  rcases hk with rfl | rfl
  all_goals
    go_enter Tryd.func39, Tryd.ntmps39
    go_wp2_with fail
    refine HM.out.mono ?_
    rintro e w1 ⟨rfl, hb1, d', hM1⟩
    have hbb := HB.out.trans hb1
    have HMM := Lib.hid hM1
    clear hM1 hb1
    go_wp2
    go_ret
    exact ⟨rfl, hbb, _, HMM.out⟩
theorem inp_tail {w : World} {B : Nat} {A : Option Addr} {x : Int} {r : List Int} {c : Nat} (h : RdG w B A (intsV .i64 (x :: r))) (_hc : r.length + 1 ≤ c) : ∃ b o, A = some ⟨b, o, none⟩ ∧ b < B ∧ w.cell? ⟨b, o, none⟩ = some (.int .i64 x) ∧ (c ≠ 1 → RdG w B (some ⟨b, o + 1, none⟩) (intsV .i64 r)) := by
  obtain ⟨b, o, e, hb, hcell⟩ := h (by simp [intsV])
  refine ⟨b, o, e, hb, hcell 0 _ rfl, fun _ hn => ⟨b, o + 1, rfl, hb, fun j v hv => ?_⟩⟩
  have := hcell (j + 1) v (by simpa [intsV] using hv)
  rw [show o + 1 + j = o + (j + 1) by omega]
  exact this
theorem MInv.setInp {w : World} {B X : Nat} {iv : List Value} {s : MSt} {d : MAd} (h : MInv w B X iv s d) (L : List Int) (A : Option Addr) (c : Nat) (hL : RdG w B A (intsV .i64 L)) (hc : L.length ≤ c) (hb : ∀ x ∈ L, N41 x) (hl : L.length ≤ 1000000) :
    MInv (w.setCell ⟨X, 23, none⟩ (.slice A L.length c)) B X iv { s with inp := L } { d with iA := A, ic := c } := by
  have hg : w.grownBy (w.setCell ⟨X, 23, none⟩ (.slice A L.length c)) (some X) := gb_setCell (gb_refl _ _) _ _
  have hB := gb_to_below hg h.bx (by have := h.blk.lt; have := h.bx; omega)
  exact ⟨h.blk.setInp L A c, h.bx, own_gb h.data hg h.s1, own_gb h.told hg h.s2, hL.below hB, hc, h.s1, h.s2, h.s3, h.rb, h.db, hb, h.dl, h.tl, hl⟩
set_option maxHeartbeats 4000000 in
set_option maxRecDepth 100000 in
theorem do_in {X B : Nat} {iv : List Value} {s : MSt} {d : MAd} (dd a b n : Int) (l : Bool) (w : World) (h : MInv w B X iv s d) (hd : 0 ≤ dd ∧ dd < 8) :
    Calls Tryd.prog 39 #[.pointer (some ⟨X, 0, none⟩), .agg #[.int .i64 16, .int .i64 dd, .int .i64 a, .int .i64 b, .int .i64 n, .bool l]] w (DoPost w B X iv { s with inp := s.inp.tail, regs := s.regs.set dd.toNat (s.inp.headD 0, false) } (.int .i64 0)) := by
  have hBw : B ≤ w.heap.size := by have := h.bx; have := h.blk.lt; omega
  have H := Lib.hid h
  have hlt := h.blk.lt
  have c23 : w.cell? ⟨X, 23, none⟩ = some (.slice d.iA s.inp.length d.ic) := h.blk.rest 1
  have fzX : ∀ j, w.frozen? ⟨X, j, none⟩ = false := fun j => frozen_of_row _ _ _ _ _ h.blk.blk
  have fz23 := fzX 23
  have hinc := h.inc
  have hil := h.il
  obtain ⟨W0, hW0⟩ : ∃ W0, w.alloc (.cells #[.int .i64 16, .int .i64 dd, .int .i64 a, .int .i64 b, .int .i64 n, .bool l] 47) = W0 := ⟨_, rfl⟩
  have hM0 : MInv W0 B X iv s d := by rw [← hW0]; exact h.alloc _
  have hB0 : Below B w W0 := by rw [← hW0]; exact (Below.refl _ _).alloc hBw _
  have HM0 := Lib.hid hM0
  have HB0 := Lib.hid hB0
  have HW0 := Lib.hid hW0
  clear h fzX hM0 hB0 hW0
  obtain ⟨regs, data, inp, pc, told, en, steps⟩ := s
  simp only at *
  cases inp with
  | nil =>
    simp only [List.tail_nil, List.headD_nil, List.length_nil] at *
    go_enter Tryd.func39, Tryd.ntmps39
    go_wp2
    rw [HW0.out]
    have hbx0 : W0.heap[w.heap.size]? = some (.cells #[.int .i64 16, .int .i64 dd, .int .i64 a, .int .i64 b, .int .i64 n, .bool l] 47 (0, 0)) := by rw [← HW0.out]; exact heap_alloc_new w _
    have HBX := Lib.hid hbx0
    have HMW := Lib.hid HM0.out
    have HBW := Lib.hid HB0.out
    clear hbx0 HW0 HM0 HB0
    generalize W0 = W at *
    have hMW := HMW.out
    have hbx := HBX.out
    obtain ⟨rd1, rd2⟩ := hMW.blk.reg (regAt_get hMW.blk hd.1 hd.2)
    have zf : ∀ j, W.frozen? ⟨X, j, none⟩ = false := fun j => frozen_of_row _ _ _ _ _ hMW.blk.blk
    have x1 : W.cell? ⟨w.heap.size, 1, none⟩ = some (.int .i64 dd) := cell_of_row _ _ 1 _ _ _ hbx
    have hne : ¬ X = w.heap.size := by omega
    have HM3 := Lib.hid (hMW.setReg dd.toNat (by omega) (0, false) ⟨by decide, by decide⟩).drew
    have HF3 := Lib.hid (gb_to_below (gb_drew (gb_setCell (gb_setCell (gb_refl W (some X)) (6 + dd.toNat * 2) (.int .i64 0)) (6 + dd.toNat * 2 + 1) (.bool false))) hMW.bx (by have := hMW.blk.lt; have := hMW.bx; omega))
    clear hMW hbx
    go_still_tail 8, (by kernel_rfl)
    change wpList _ _ _ _ _ W.drew
    go_wp2
    go_ret
    exact ⟨rfl, HBW.out.trans HF3.out, _, HM3.out⟩
  | cons x r =>
    simp only [List.tail_cons, List.headD_cons, List.length_cons] at *
    obtain ⟨ib, io, hiA, hib, hic, hrest⟩ := inp_tail H.out.inp hinc
    have hxb : N41 x := H.out.ib x (by simp)
    have hrb : ∀ y ∈ r, N41 y := fun y hy => H.out.ib y (by simp [hy])
    have hibw : ib < w.heap.size := by omega
    rw [hiA] at c23
    have HX := Lib.hid hxb
    have HRB := Lib.hid hrb
    have HREST := Lib.hid hrest
    obtain ⟨dA, dc, iA, ic, tA, tc⟩ := d
    simp only at *
    have hrl : (0 : Int) < (r.length : Int) + 1 := by omega
    clear hiA hxb hrb hrest HM0 HB0 HW0
    by_cases h1 : ic = 1
    · subst h1
      have hr0 : r = [] := List.eq_nil_of_length_eq_zero (by omega)
      subst hr0
      go_enter Tryd.func39, Tryd.ntmps39
      go_wp2
      obtain ⟨W, hW⟩ : ∃ W, (w.setCell ⟨X, 23, none⟩ (.slice (some ⟨ib, io, none⟩) 0 0)).alloc (.cells #[.int .i64 16, .int .i64 dd, .int .i64 a, .int .i64 b, .int .i64 n, .bool l] 47) = W := ⟨_, rfl⟩
      rw [hW]
      have hbx0 : W.heap[w.heap.size]? = some (.cells #[.int .i64 16, .int .i64 dd, .int .i64 a, .int .i64 b, .int .i64 n, .bool l] 47 (0, 0)) := by
        rw [← hW]
        have := heap_alloc_new (w.setCell ⟨X, 23, none⟩ (.slice (some ⟨ib, io, none⟩) 0 0)) (.cells #[.int .i64 16, .int .i64 dd, .int .i64 a, .int .i64 b, .int .i64 n, .bool l] 47)
        simpa [World.setCell] using this
      have HBX := Lib.hid hbx0
      have HMW := Lib.hid (show MInv W B X iv _ _ by rw [← hW]; exact ((H.out.setInp [] (some ⟨ib, io, none⟩) 0 (RdG.nil _ _ _) (Nat.le_refl _) (by simp) (by simp)).alloc (.cells #[.int .i64 16, .int .i64 dd, .int .i64 a, .int .i64 b, .int .i64 n, .bool l] 47)))
      have HBW := Lib.hid (show Below B w W by rw [← hW]; exact gb_to_below (gb_alloc (gb_setCell (gb_refl _ _) _ _) _) H.out.bx hBw)
      clear hbx0 hW
      have hMW := HMW.out
      have hbx := HBX.out
      obtain ⟨rd1, rd2⟩ := hMW.blk.reg (regAt_get hMW.blk hd.1 hd.2)
      have zf : ∀ j, W.frozen? ⟨X, j, none⟩ = false := fun j => frozen_of_row _ _ _ _ _ hMW.blk.blk
      have x1 : W.cell? ⟨w.heap.size, 1, none⟩ = some (.int .i64 dd) := cell_of_row _ _ 1 _ _ _ hbx
      have hne : ¬ X = w.heap.size := by omega
      have HM3 := Lib.hid (hMW.setReg dd.toNat (by omega) (x, false) HX.out).drew
      have HF3 := Lib.hid (gb_to_below (gb_drew (gb_setCell (gb_setCell (gb_refl W (some X)) (6 + dd.toNat * 2) (.int .i64 x)) (6 + dd.toNat * 2 + 1) (.bool false))) hMW.bx (by have := hMW.blk.lt; have := hMW.bx; omega))
      clear hMW hbx
      go_still_tail 8, (by kernel_rfl)
      change wpList _ _ _ _ _ W.drew
      go_wp2
      go_ret
      exact ⟨rfl, HBW.out.trans HF3.out, _, HM3.out⟩
    · go_enter Tryd.func39, Tryd.ntmps39
      go_wp2
      obtain ⟨W, hW⟩ : ∃ W, (w.setCell ⟨X, 23, none⟩ (.slice (some ⟨ib, io + 1, none⟩) r.length (ic - 1))).alloc (.cells #[.int .i64 16, .int .i64 dd, .int .i64 a, .int .i64 b, .int .i64 n, .bool l] 47) = W := ⟨_, rfl⟩
      rw [hW]
      have hbx0 : W.heap[w.heap.size]? = some (.cells #[.int .i64 16, .int .i64 dd, .int .i64 a, .int .i64 b, .int .i64 n, .bool l] 47 (0, 0)) := by
        rw [← hW]
        have := heap_alloc_new (w.setCell ⟨X, 23, none⟩ (.slice (some ⟨ib, io + 1, none⟩) r.length (ic - 1))) (.cells #[.int .i64 16, .int .i64 dd, .int .i64 a, .int .i64 b, .int .i64 n, .bool l] 47)
        simpa [World.setCell] using this
      have HBX := Lib.hid hbx0
      have HMW := Lib.hid (show MInv W B X iv _ _ by rw [← hW]; exact ((H.out.setInp r (some ⟨ib, io + 1, none⟩) (ic - 1) (HREST.out h1) (by omega) HRB.out (by omega)).alloc (.cells #[.int .i64 16, .int .i64 dd, .int .i64 a, .int .i64 b, .int .i64 n, .bool l] 47)))
      have HBW := Lib.hid (show Below B w W by rw [← hW]; exact gb_to_below (gb_alloc (gb_setCell (gb_refl _ _) _ _) _) H.out.bx hBw)
      clear hbx0 hW
      have hMW := HMW.out
      have hbx := HBX.out
      obtain ⟨rd1, rd2⟩ := hMW.blk.reg (regAt_get hMW.blk hd.1 hd.2)
      have zf : ∀ j, W.frozen? ⟨X, j, none⟩ = false := fun j => frozen_of_row _ _ _ _ _ hMW.blk.blk
      have x1 : W.cell? ⟨w.heap.size, 1, none⟩ = some (.int .i64 dd) := cell_of_row _ _ 1 _ _ _ hbx
      have hne : ¬ X = w.heap.size := by omega
      have HM3 := Lib.hid (hMW.setReg dd.toNat (by omega) (x, false) HX.out).drew
      have HF3 := Lib.hid (gb_to_below (gb_drew (gb_setCell (gb_setCell (gb_refl W (some X)) (6 + dd.toNat * 2) (.int .i64 x)) (6 + dd.toNat * 2 + 1) (.bool false))) hMW.bx (by have := hMW.blk.lt; have := hMW.bx; omega))
      clear hMW hbx
      go_still_tail 8, (by kernel_rfl)
      change wpList _ _ _ _ _ W.drew
      go_wp2
      go_ret
      exact ⟨rfl, HBW.out.trans HF3.out, _, HM3.out⟩
theorem infoInt : (Tryd.prog.info? 3).map (fun i => (i.zero, i.size, i.bytes)) = some (some (.int .i64 0), 1, 8) := by kernel_rfl
theorem app_int_lies {w : World} {ops : Array Oper} {rest : List Oper} {o : Oper} {a : Act} {Q : Exit → Act → World → Prop} (hgd : o.guard = none) (s x : Operand)
    (ho : o.op = .call { callee := .builtin .append, args := #[s, x], argTypes := #[28, 28] }) (base : Nat) (v : Value) (n : Nat) (L : List Int) (hs : a.eval s = v) (hown : w.ownsRow base 3 1 v n (intsV .i64 L))
    (g c : Nat) (hx : a.eval x = .slice (some ⟨g, 0, none⟩) 1 c) (z : Int) (fr : Nat × Nat) (hb : w.heap[g]? = some (.cells #[.int .i64 z] 3 fr)) (hn : n ≤ 1000000000000) (hbase : base ≤ w.heap.size)
    (h : ∀ g' cap' w', w'.ownsRow base 3 1 (.slice (some ⟨g', 0, none⟩) (n + 1) cap') (n + 1) (intsV .i64 (L ++ [z])) → w.grownBy w' v.ownBlock → (v.ownBlock = some g' ∨ g' = w.heap.size) → g' < w'.heap.size → wpList Tryd.prog ops Q rest (a.put o.dst (.slice (some ⟨g', 0, none⟩) (n + 1) cap')) w') : wpList Tryd.prog ops Q (o :: rest) a w := by
  obtain ⟨i0, hi, hz0, hz1, hz2⟩ := info_parts infoInt
  refine wpList_append_lies w hgd s x 28 ho base 3 i0 _ 1 8 Tryd.underlying28 hi hz0 hz1 hz2 rfl (by decide) v _ _ hs hown ⟨g, 0, none⟩ 1 c [.int .i64 z] hx rfl (World.news_of_block hb) (by simp [Value.oneCell']) (by decide) (by unfold maxLen; omega) (by omega) hbase _ rfl (fun g' c' w' h1 => h g' c' w' ?_)
  simpa [intsV] using h1
set_option maxHeartbeats 4000000 in
set_option maxRecDepth 100000 in
theorem do_out {X B : Nat} {iv : List Value} {s : MSt} {d : MAd} (dd a b n : Int) (l : Bool) (w : World) (h : MInv w B X iv s d) (ha : 0 ≤ a ∧ a < 8) (htl : (s.told.length : Int) ≤ s.steps) (hst : s.steps ≤ 1000000) :
    Calls Tryd.prog 39 #[.pointer (some ⟨X, 0, none⟩), .agg #[.int .i64 17, .int .i64 dd, .int .i64 a, .int .i64 b, .int .i64 n, .bool l]] w (DoPost w B X iv (if (regAt s a).2 = true then s else { s with told := s.told ++ [(regAt s a).1] }) (.int .i64 (if (regAt s a).2 = true then 4 else 0))) := by
  have hBw : B ≤ w.heap.size := by have := h.bx; have := h.blk.lt; omega
  have H := Lib.hid h
  have hlt := h.blk.lt
  have HA := fun w h => number_any (X := X) (iv := iv) (s := s) (d := d) a w h ha.1 ha.2
  have HA' := Lib.hid HA
  have fz25 : w.frozen? ⟨X, 25, none⟩ = false := frozen_of_row _ _ _ _ _ h.blk.blk
  have c25 : w.cell? ⟨X, 25, none⟩ = some (.slice d.tA s.told.length d.tc) := h.blk.rest 3
  clear HA h
  obtain ⟨x, hx⟩ : ∃ x, (regAt s a).1 = x := ⟨_, rfl⟩
  obtain ⟨c, hc⟩ : ∃ c, (regAt s a).2 = c := ⟨_, rfl⟩
  rw [hx, hc] at HA'
  rw [hx, hc]
  clear hx hc
  cases c
  case true =>
    go_enter Tryd.func39, Tryd.ntmps39
    go_wp2_with fail
    refine (HA'.out _ (H.out.blk.below ((Below.refl _ _).alloc (Nat.le_refl _) _))).mono ?_
    rintro e w1 ⟨rfl, m1, rfl⟩
    have HF := Lib.hid (gb_to_below (gb_drewN (gb_alloc (gb_refl w (some X)) (.cells #[.int .i64 17, .int .i64 dd, .int .i64 a, .int .i64 b, .int .i64 n, .bool l] 47)) m1) H.out.bx hBw)
    have HM := Lib.hid ((H.out.alloc (.cells #[.int .i64 17, .int .i64 dd, .int .i64 a, .int .i64 b, .int .i64 n, .bool l] 47)).drewN m1)
    go_wp2
    go_ret
    exact ⟨rfl, HF.out, _, HM.out⟩
  go_enter Tryd.func39, Tryd.ntmps39
  go_wp2_with fail
  refine (HA'.out _ (H.out.blk.below ((Below.refl _ _).alloc (Nat.le_refl _) _))).mono ?_
  rintro e w1 ⟨rfl, m1, rfl⟩
  have HF := Lib.hid (gb_to_below (gb_drewN (gb_alloc (gb_refl w (some X)) (.cells #[.int .i64 17, .int .i64 dd, .int .i64 a, .int .i64 b, .int .i64 n, .bool l] 47)) m1) H.out.bx hBw)
  have HM := Lib.hid ((H.out.alloc (.cells #[.int .i64 17, .int .i64 dd, .int .i64 a, .int .i64 b, .int .i64 n, .bool l] 47)).drewN m1)
  generalize (w.alloc (.cells #[.int .i64 17, .int .i64 dd, .int .i64 a, .int .i64 b, .int .i64 n, .bool l] 47)).drewN m1 = W at *
  have hkk : s.told.length ≤ 1000000000000 := by omega
  have c25' : W.cell? ⟨X, 25, none⟩ = some (.slice d.tA s.told.length d.tc) := HM.out.blk.rest 3
  have fz25' : W.frozen? ⟨X, 25, none⟩ = false := frozen_of_row _ _ _ _ _ HM.out.blk.blk
  have hltW := HM.out.blk.lt
  have hbW : B ≤ W.heap.size := by have := HF.out.size; omega
  clear c25 fz25
  go_wp2_with (first | (refine app_int_lies rfl _ _ rfl B _ s.told.length s.told rfl (HM.out.told.alloc _) W.heap.size 1 rfl x _ (heap_alloc_new W _) hkk (by simp; omega) ?a1))
  case a1 =>
    rintro g' c' w4 ho4 hgr4 hat4 hlt4
    have hMA := HM.out.alloc (.cells #[.int .i64 x] 3)
    have hXne : ∀ q, (Value.slice d.tA s.told.length d.tc).ownBlock = some q → q ≠ X := fun q hq e => hMA.s2 (by rw [hq, e])
    have hblk : MBlk w4 X iv s d := ⟨(hgr4.block X (by simp; omega) (fun e => hMA.s2 e.symm)).trans hMA.blk.blk, hMA.blk.ivl, hMA.blk.rl⟩
    have hgX : g' ≠ X := by
      rcases hat4 with e | e
      · exact hXne _ e
      · have e' : g' = W.heap.size + 1 := by simpa using e
        omega
    have hB4 : Below B W w4 := ((Below.refl _ _).alloc hbW _).grown hgr4 (by simp; omega) (fun k hk => (World.ownsRow.lt hMA.told k hk).1)
    have hg5 : w4.grownBy (w4.setCell ⟨X, 25, none⟩ (.slice (some ⟨g', 0, none⟩) (s.told.length + 1) c')) (some X) := gb_setCell (gb_refl _ _) _ _
    have hB5 : Below B w (w4.setCell ⟨X, 25, none⟩ (.slice (some ⟨g', 0, none⟩) (s.told.length + 1) c')) := (HF.out.trans hB4).trans (gb_to_below hg5 H.out.bx (by have := hB4.size; omega))
    have hdo := own_other hMA.data hgr4 hMA.s3
    have hM5 : MInv (w4.setCell ⟨X, 25, none⟩ (.slice (some ⟨g', 0, none⟩) (s.told.length + 1) c')) B X iv { s with told := s.told ++ [x] } { d with tA := some ⟨g', 0, none⟩, tc := c' } := by
      have hl1 : (s.told ++ [x]).length = s.told.length + 1 := by simp
      have hst := hblk.setTold (s.told ++ [x]) (some ⟨g', 0, none⟩) c'
      rw [hl1] at hst
      refine ⟨hst, H.out.bx, own_gb hdo hg5 hMA.s1, ?_, (H.out.inp.below hB5), hMA.inc, hMA.s1, ?_, ?_, hMA.rb, hMA.db, hMA.ib, hMA.dl, ?_, hMA.il⟩
      · simp only [hl1]
        exact own_gb ho4 hg5 (fun e => hgX (by injection e))
      · intro e
        exact hgX (by injection e)
      · cases hdb : (Value.slice d.dA s.data.length d.dc).ownBlock with
        | none => exact .inl rfl
        | some q =>
          right
          intro e
          have hq : q = g' := by injection e
          subst hq
          rcases hat4 with e2 | e2
          · rcases hMA.s3 with e3 | e3
            · rw [hdb] at e3; cases e3
            · exact e3 (hdb.trans e2.symm)
          · have := (World.ownsRow.lt HM.out.data q hdb).2
            have e' : q = W.heap.size + 1 := by simpa using e2
            omega
      · simp only [hl1]
        omega
    have HB5 := Lib.hid hB5
    have HM5 := Lib.hid hM5
    have z25 : w4.cell? ⟨X, 25, none⟩ = some (.slice d.tA s.told.length d.tc) := hblk.rest 3
    have zf : w4.frozen? ⟨X, 25, none⟩ = false := frozen_of_row _ _ _ _ _ hblk.blk
    clear hMA hXne hblk hgX hB4 hg5 hB5 hdo hM5 ho4 hgr4 hat4
    go_wp2
    go_ret
    exact ⟨rfl, HB5.out, _, HM5.out⟩
theorem do_any {X B : Nat} {iv : List Value} {s : MSt} {d : MAd} (k dd a b n : Int) (l : Bool) (w : World) (h : MInv w B X iv s d) (hk : 4 ≤ k ∧ k ≤ 17) (hd : 0 ≤ dd ∧ dd < 8) (ha : 0 ≤ a ∧ a < 8) (hb : 0 ≤ b ∧ b < 8) (hn : -32768 ≤ n ∧ n ≤ 32767)
    (htl : (s.told.length : Int) ≤ s.steps) (hst : s.steps ≤ 1000000) :
    Calls Tryd.prog 39 #[.pointer (some ⟨X, 0, none⟩), .agg #[.int .i64 k, .int .i64 dd, .int .i64 a, .int .i64 b, .int .i64 n, .bool l]] w (DoPost w B X iv (doS s k dd a b n).1 (.int .i64 (doS s k dd a b n).2)) := by
  unfold doS
  by_cases h4 : k = 4
  · subst h4
    rw [if_pos rfl]
    exact do_nop dd a b n l w h
  rw [if_neg h4]
  by_cases h5 : k = 5
  · subst h5
    rw [if_pos rfl]
    exact do_li dd a b n l w h hd hn
  rw [if_neg h5]
  by_cases h6 : k = 6
  · subst h6
    rw [if_pos rfl]
    have := do_addi dd a b n l w h hd ha hn
    split at this <;> simp_all
  rw [if_neg h6]
  by_cases h14 : k = 14 ∨ k = 15
  · rw [if_pos h14]
    exact do_mem k dd a b n l w h h14 hd ha hb hn
  rw [if_neg h14]
  by_cases h16 : k = 16
  · subst h16
    rw [if_pos rfl]
    exact do_in dd a b n l w h hd
  rw [if_neg h16]
  by_cases h17 : k = 17
  · subst h17
    rw [if_pos rfl]
    have := do_out dd a b n l w h ha htl hst
    split at this <;> simp_all
  rw [if_neg h17]
  have := do_arith k dd a b n l w h hd ha hb hn (by omega)
  split at this <;> simp_all
end Go.Proofs.YtlekjnnofhjgjaaDoor
