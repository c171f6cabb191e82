/- step: the machine in memory; number, numbers, address, walked. step: what writes to the machine's block leaves alone. -/
import Derived.Test.YtgeljimckoodiaaDoorAppG
import Derived.Test.YtgeljimckoodiaaDoorStepA
import Derived.Test.YtgeljimckoodiaaDoorImgA
import Derived.Deep.QuietTactic
import Derived.BigQuiet
namespace Go.Proofs.YtgeljimckoodiaaDoor
open Go.RowKit
def valC (v : Int × Bool) : List Value := [.int .i64 v.1, .bool v.2]
def valsC (L : List (Int × Bool)) : List Value := L.flatMap valC
/-- a machine -/
structure MSt where
  regs : List (Int × Bool)
  data : List (Int × Bool)
  inp : List Int
  pc : Int
  told : List Int
  en : Int
  steps : Int
/-- where its lists lie -/
structure MAd where
  dA : Option Addr
  dc : Nat
  iA : Option Addr
  ic : Nat
  tA : Option Addr
  tc : Nat
def machC (iv : List Value) (s : MSt) (d : MAd) : List Value :=
  iv ++ valsC s.regs ++ [.slice d.dA s.data.length d.dc, .slice d.iA s.inp.length d.ic, .int .i64 s.pc, .slice d.tA s.told.length d.tc, .int .i64 s.en, .int .i64 s.steps, .int .i64 0]
/-- block X holds the machine -/
structure MBlk (w : World) (X : Nat) (iv : List Value) (s : MSt) (d : MAd) : Prop where
  blk : w.heap[X]? = some (.cells (machC iv s d).toArray 84 (0, 0))
  ivl : iv.length = 6
  rl : s.regs.length = 8
theorem valsC_len (L : List (Int × Bool)) : (valsC L).length = L.length * 2 := flat_len valC 2 (fun _ => rfl) L
theorem MBlk.lt {w : World} {X : Nat} {iv : List Value} {s : MSt} {d : MAd} (h : MBlk w X iv s d) : X < w.heap.size := (Array.getElem?_eq_some_iff.1 h.blk).1
theorem MBlk.cell {w : World} {X : Nat} {iv : List Value} {s : MSt} {d : MAd} (h : MBlk w X iv s d) (j : Nat) : w.cell? ⟨X, j, none⟩ = (machC iv s d)[j]? := by
  rw [cell_of_row w X j _ _ _ h.blk]
  simp
theorem MBlk.drewN {w : World} {X : Nat} {iv : List Value} {s : MSt} {d : MAd} (h : MBlk w X iv s d) (n : Nat) : MBlk (w.drewN n) X iv s d := ⟨h.blk, h.ivl, h.rl⟩
theorem MBlk.below {w w' : World} {X : Nat} {iv : List Value} {s : MSt} {d : MAd} (h : MBlk w X iv s d) (hb : Below w.heap.size w w') : MBlk w' X iv s d := ⟨(hb.block X h.lt).trans h.blk, h.ivl, h.rl⟩
theorem MBlk.img {w : World} {X : Nat} {iv : List Value} {s : MSt} {d : MAd} (h : MBlk w X iv s d) {j : Nat} {v : Value} (hj : iv[j]? = some v) : w.cell? ⟨X, j, none⟩ = some v := by
  have hl := (List.getElem?_eq_some_iff.1 hj).1
  rw [h.cell, machC, List.append_assoc, List.getElem?_append_left hl]
  exact hj
theorem MBlk.reg {w : World} {X : Nat} {iv : List Value} {s : MSt} {d : MAd} (h : MBlk w X iv s d) {r : Nat} {v : Int × Bool} (hr : s.regs[r]? = some v) : w.cell? ⟨X, 6 + r * 2, none⟩ = some (.int .i64 v.1) ∧ w.cell? ⟨X, 6 + r * 2 + 1, none⟩ = some (.bool v.2) := by
  have hl := (List.getElem?_eq_some_iff.1 hr).1
  have h0 := flat_at valC 2 (fun _ => rfl) s.regs r v hr 0 _ (by decide) rfl
  have h1 := flat_at valC 2 (fun _ => rfl) s.regs r v hr 1 _ (by decide) rfl
  have hv := valsC_len s.regs
  have e : ∀ q, q < (valsC s.regs).length → (machC iv s d)[6 + q]? = (valsC s.regs)[q]? := fun q hq => by
    rw [machC, List.append_assoc, List.getElem?_append_right (by rw [h.ivl]; omega), h.ivl, show 6 + q - 6 = q by omega, List.getElem?_append_left hq]
  refine ⟨?_, ?_⟩
  · rw [h.cell, e _ (by omega)]
    exact h0
  · rw [h.cell, Nat.add_assoc, e _ (by omega)]
    exact h1
theorem MBlk.rest {w : World} {X : Nat} {iv : List Value} {s : MSt} {d : MAd} (h : MBlk w X iv s d) (q : Nat) : w.cell? ⟨X, 22 + q, none⟩ = [Value.slice d.dA s.data.length d.dc, .slice d.iA s.inp.length d.ic, .int .i64 s.pc, .slice d.tA s.told.length d.tc, .int .i64 s.en, .int .i64 s.steps, .int .i64 0][q]? := by
  have hv := valsC_len s.regs
  have hr := h.rl
  rw [h.cell, machC, List.getElem?_append_right (by rw [List.length_append, h.ivl]; omega), List.length_append, h.ivl, hv, hr, show 22 + q - (6 + 8 * 2) = q by omega]
def regAt (s : MSt) (r : Int) : Int × Bool := s.regs.getD r.toNat (0, false)
theorem regAt_get {w : World} {X : Nat} {iv : List Value} {s : MSt} {d : MAd} (h : MBlk w X iv s d) {r : Int} (h0 : 0 ≤ r) (h1 : r < 8) : s.regs[r.toNat]? = some (regAt s r) := by
  have := h.rl
  have hl : r.toNat < s.regs.length := by omega
  simp [regAt, List.getD, List.getElem?_eq_getElem hl]
theorem number_any {X : Nat} {iv : List Value} {s : MSt} {d : MAd} (r : Int) (w : World) (h : MBlk w X iv s d) (h0 : 0 ≤ r) (h1 : r < 8) :
    Calls Tryd.prog 57 #[.pointer (some ⟨X, 0, none⟩), .int .i64 r] w fun e w' => e = .returned (.tuple #[.int .i64 (regAt s r).1, .bool (!(regAt s r).2)]) ∧ ∃ n, w' = w.drewN n := by
  obtain ⟨c0, c1⟩ := h.reg (regAt_get h h0 h1)
  generalize regAt s r = v at *
  obtain ⟨n, c⟩ := v
  simp only at c0 c1 ⊢
  clear h
  go_enter Tryd.func57, Tryd.ntmps57
  go_wp2
  go_quiet (fail)
  go_wp2
  go_ret2
  exact ⟨rfl, _, rfl⟩
theorem drewN_add (w : World) (a b : Nat) : (w.drewN a).drewN b = w.drewN (a + b) := World.drewN_drewN w a b
theorem numbers_any {X : Nat} {iv : List Value} {s : MSt} {d : MAd} (a b : Int) (w : World) (h : MBlk w X iv s d) (h0 : 0 ≤ a) (h1 : a < 8) (h2 : 0 ≤ b) (h3 : b < 8) :
    Calls Tryd.prog 58 #[.pointer (some ⟨X, 0, none⟩), .int .i64 a, .int .i64 b] w fun e w' => e = .returned (.tuple #[.int .i64 (regAt s a).1, .int .i64 (regAt s b).1, .bool (!(regAt s a).2 && !(regAt s b).2)]) ∧ ∃ n, w' = w.drewN n := by
  have H := Lib.hid h
  have HA := fun w h => number_any (X := X) (iv := iv) (s := s) (d := d) a w h h0 h1
  have HB := fun w h => number_any (X := X) (iv := iv) (s := s) (d := d) b w h h2 h3
  have HA' := Lib.hid HA
  have HB' := Lib.hid HB
  clear h HA HB
  generalize regAt s a = u at *
  generalize regAt s b = v at *
  obtain ⟨n, p⟩ := u
  obtain ⟨m, q⟩ := v
  go_enter Tryd.func58, Tryd.ntmps58
  go_wp2_with fail
  refine (HA'.out _ H.out).mono ?_
  rintro e w1 ⟨rfl, n1, rfl⟩
  go_wp2_with fail
  refine (HB'.out _ (H.out.drewN _)).mono ?_
  rintro e w2 ⟨rfl, n2, rfl⟩
  cases p
  all_goals
    go_wp2
    go_ret3
    exact ⟨by simp, _, rfl⟩
theorem address_any {X : Nat} {iv : List Value} {s : MSt} {d : MAd} (r n : Int) (w : World) (h : MBlk w X iv s d) (h0 : 0 ≤ r) (h1 : r < 8) (hb : N41 (regAt s r).1) (n1 : -1099511627776 ≤ n) (n2 : n ≤ 1099511627776) (_hd : s.data.length ≤ 140737488355328) :
    Calls Tryd.prog 85 #[.pointer (some ⟨X, 0, none⟩), .int .i64 r, .int .i64 n] w fun e w' => e = .returned (.tuple #[.int .i64 ((regAt s r).1 + n), .bool (decide (0 ≤ (regAt s r).1 + n) && decide ((regAt s r).1 + n < s.data.length))]) ∧ ∃ n, w' = w.drewN n := by
  have H := Lib.hid h
  have HA := fun w h => number_any (X := X) (iv := iv) (s := s) (d := d) r w h h0 h1
  have HA' := Lib.hid HA
  have c22 : w.cell? ⟨X, 22, none⟩ = some (.slice d.dA s.data.length d.dc) := h.rest 0
  clear h HA
  generalize regAt s r = u at *
  obtain ⟨a, p⟩ := u
  obtain ⟨a1, a2⟩ := hb
  simp only at a1 a2 ⊢
  by_cases hz : 0 ≤ a + n
  · go_enter Tryd.func85, Tryd.ntmps85
    go_wp2_with fail
    refine (HA'.out _ H.out).mono ?_
    rintro e w1 ⟨rfl, n1, rfl⟩
    go_wp2
    have e1 : IntKind.i64.wrap (a + n) = a + n := by rw [IntKind.wrap_i64]; omega
    go_quiet (fail)
    go_wp2
    go_ret2
    exact ⟨by simp [hz], _, drewN_add _ _ _⟩
  · have hz' : decide (0 ≤ a + n) = false := by simpa using hz
    go_enter Tryd.func85, Tryd.ntmps85
    go_wp2_with fail
    refine (HA'.out _ H.out).mono ?_
    rintro e w1 ⟨rfl, n1, rfl⟩
    go_wp2
    have e1 : IntKind.i64.wrap (a + n) = a + n := by rw [IntKind.wrap_i64]; omega
    go_quiet (fail)
    go_wp2
    go_ret2
    exact ⟨by simp [hz'], _, drewN_add _ _ _⟩
end Go.Proofs.YtgeljimckoodiaaDoor
namespace Go.Proofs.YtgeljimckoodiaaDoor
open Go.RowKit
theorem valsC_set : ∀ (L : List (Int × Bool)) (r : Nat) (v : Int × Bool), valsC (L.set r v) = ((valsC L).set (r * 2) (.int .i64 v.1)).set (r * 2 + 1) (.bool v.2)
  | [], r, v => by simp [valsC]
  | u :: L, 0, v => by simp [valsC, valC]
  | u :: L, r + 1, v => by
    have ih := valsC_set L r v
    have e : ∀ L' : List (Int × Bool), valsC (u :: L') = .int .i64 u.1 :: .bool u.2 :: valsC L' := fun L' => rfl
    rw [List.set_cons_succ, e, e, ih, show (r + 1) * 2 = r * 2 + 1 + 1 by omega]
    rfl
theorem set_mid (a m r : List Value) (j : Nat) (v : Value) (h : j < m.length) : (a ++ m ++ r).set (a.length + j) v = a ++ m.set j v ++ r := by
  rw [List.append_assoc, List.set_append_right _ _ (Nat.le_add_right _ _), Nat.add_sub_cancel_left, List.set_append_left _ _ h, List.append_assoc]
theorem machC_reg (iv : List Value) (s : MSt) (d : MAd) (hi : iv.length = 6) (hr : s.regs.length = 8) (r : Nat) (h : r < 8) (v : Int × Bool) :
    ((machC iv s d).set (6 + r * 2) (.int .i64 v.1)).set (6 + r * 2 + 1) (.bool v.2) = machC iv { s with regs := s.regs.set r v } d := by
  have hv := valsC_len s.regs
  unfold machC
  rw [valsC_set]
  have h1 := set_mid iv (valsC s.regs) [Value.slice d.dA s.data.length d.dc, .slice d.iA s.inp.length d.ic, .int .i64 s.pc, .slice d.tA s.told.length d.tc, .int .i64 s.en, .int .i64 s.steps, .int .i64 0] (r * 2) (.int .i64 v.1) (by omega)
  have h2 := set_mid iv ((valsC s.regs).set (r * 2) (.int .i64 v.1)) [Value.slice d.dA s.data.length d.dc, .slice d.iA s.inp.length d.ic, .int .i64 s.pc, .slice d.tA s.told.length d.tc, .int .i64 s.en, .int .i64 s.steps, .int .i64 0] (r * 2 + 1) (.bool v.2) (by rw [List.length_set]; omega)
  rw [hi] at h1 h2
  rw [h1, Nat.add_assoc, h2]
theorem MBlk.setReg {w : World} {X : Nat} {iv : List Value} {s : MSt} {d : MAd} (h : MBlk w X iv s d) (r : Nat) (hr : r < 8) (v : Int × Bool) :
    MBlk ((w.setCell ⟨X, 6 + r * 2, none⟩ (.int .i64 v.1)).setCell ⟨X, 6 + r * 2 + 1, none⟩ (.bool v.2)) X iv { s with regs := s.regs.set r v } d := by
  refine ⟨?_, h.ivl, by simpa using h.rl⟩
  rw [← machC_reg iv s d h.ivl h.rl r hr v]
  exact blk_set (blk_set h.blk _ _) _ _
theorem machC_rest (iv : List Value) (s : MSt) (d : MAd) (hi : iv.length = 6) (hr : s.regs.length = 8) (q : Nat) (v : Value) :
    (machC iv s d).set (22 + q) v = iv ++ valsC s.regs ++ [Value.slice d.dA s.data.length d.dc, .slice d.iA s.inp.length d.ic, .int .i64 s.pc, .slice d.tA s.told.length d.tc, .int .i64 s.en, .int .i64 s.steps, .int .i64 0].set q v := by
  have hv := valsC_len s.regs
  unfold machC
  rw [List.set_append_right _ _ (by rw [List.length_append]; omega), List.length_append, hi, hv, hr, show 22 + q - (6 + 8 * 2) = q by omega]
theorem MBlk.setPc {w : World} {X : Nat} {iv : List Value} {s : MSt} {d : MAd} (h : MBlk w X iv s d) (n : Int) : MBlk (w.setCell ⟨X, 24, none⟩ (.int .i64 n)) X iv { s with pc := n } d :=
  ⟨by rw [blk_set h.blk 24 _, machC_rest iv s d h.ivl h.rl 2]; rfl, h.ivl, h.rl⟩
theorem MBlk.setEn {w : World} {X : Nat} {iv : List Value} {s : MSt} {d : MAd} (h : MBlk w X iv s d) (n : Int) : MBlk (w.setCell ⟨X, 26, none⟩ (.int .i64 n)) X iv { s with en := n } d :=
  ⟨by rw [blk_set h.blk 26 _, machC_rest iv s d h.ivl h.rl 4]; rfl, h.ivl, h.rl⟩
theorem MBlk.setSteps {w : World} {X : Nat} {iv : List Value} {s : MSt} {d : MAd} (h : MBlk w X iv s d) (n : Int) : MBlk (w.setCell ⟨X, 27, none⟩ (.int .i64 n)) X iv { s with steps := n } d :=
  ⟨by rw [blk_set h.blk 27 _, machC_rest iv s d h.ivl h.rl 5]; rfl, h.ivl, h.rl⟩
theorem MBlk.setInp {w : World} {X : Nat} {iv : List Value} {s : MSt} {d : MAd} (h : MBlk w X iv s d) (L : List Int) (A : Option Addr) (c : Nat) : MBlk (w.setCell ⟨X, 23, none⟩ (.slice A L.length c)) X iv { s with inp := L } { d with iA := A, ic := c } :=
  ⟨by rw [blk_set h.blk 23 _, machC_rest iv s d h.ivl h.rl 1]; rfl, h.ivl, h.rl⟩
theorem MBlk.setTold {w : World} {X : Nat} {iv : List Value} {s : MSt} {d : MAd} (h : MBlk w X iv s d) (L : List Int) (A : Option Addr) (c : Nat) : MBlk (w.setCell ⟨X, 25, none⟩ (.slice A L.length c)) X iv { s with told := L } { d with tA := A, tc := c } :=
  ⟨by rw [blk_set h.blk 25 _, machC_rest iv s d h.ivl h.rl 3]; rfl, h.ivl, h.rl⟩
theorem MBlk.setData {w : World} {X : Nat} {iv : List Value} {s : MSt} {d : MAd} (h : MBlk w X iv s d) (L : List (Int × Bool)) (A : Option Addr) (c : Nat) : MBlk (w.setCell ⟨X, 22, none⟩ (.slice A L.length c)) X iv { s with data := L } { d with dA := A, dc := c } :=
  ⟨by rw [blk_set h.blk 22 _, machC_rest iv s d h.ivl h.rl 0]; rfl, h.ivl, h.rl⟩
theorem MBlk.gb {w w' : World} {X Y : Nat} {iv : List Value} {s : MSt} {d : MAd} (h : MBlk w X iv s d) (hg : w.grownBy w' (some Y)) (hne : X ≠ Y) : MBlk w' X iv s d :=
  ⟨(hg.block X h.lt (fun e => hne (by injection e))).trans h.blk, h.ivl, h.rl⟩
end Go.Proofs.YtgeljimckoodiaaDoor
