/- step: the machine in memory; number, numbers, address, walked. step: what writes to the machine's block leaves alone. step: (*machine).flow, walked. -/
import Derived.Test.YtlekjnnofhjgjaaDoorAppG
import Derived.Test.YtlekjnnofhjgjaaDoorStepA
import Derived.Test.YtlekjnnofhjgjaaDoorImgC
import Derived.Deep.QuietTactic
import Derived.BigQuiet
namespace Go.Proofs.YtlekjnnofhjgjaaDoor
open Go.RowKit
def valC (v : Int × Bool) : List Value := [.int .i64 v.1, .bool v.2]
def valsC (L : List (Int × Bool)) : List Value := L.flatMap valC
/-- a machine -/
structure MSt where
  regs : List (Int × Bool)
  data : List (Int × Bool)
  inp : List Int
  pc : Int
  told : List Int
  en : Int
  steps : Int
/-- where its lists lie -/
structure MAd where
  dA : Option Addr
  dc : Nat
  iA : Option Addr
  ic : Nat
  tA : Option Addr
  tc : Nat
def machC (iv : List Value) (s : MSt) (d : MAd) : List Value :=
  iv ++ valsC s.regs ++ [.slice d.dA s.data.length d.dc, .slice d.iA s.inp.length d.ic, .int .i64 s.pc, .slice d.tA s.told.length d.tc, .int .i64 s.en, .int .i64 s.steps, .int .i64 0]
/-- block X holds the machine -/
structure MBlk (w : World) (X : Nat) (iv : List Value) (s : MSt) (d : MAd) : Prop where
  blk : w.heap[X]? = some (.cells (machC iv s d).toArray 92 (0, 0))
  ivl : iv.length = 6
  rl : s.regs.length = 8
theorem valsC_len (L : List (Int × Bool)) : (valsC L).length = L.length * 2 := flat_len valC 2 (fun _ => rfl) L
theorem MBlk.lt {w : World} {X : Nat} {iv : List Value} {s : MSt} {d : MAd} (h : MBlk w X iv s d) : X < w.heap.size := (Array.getElem?_eq_some_iff.1 h.blk).1
theorem MBlk.cell {w : World} {X : Nat} {iv : List Value} {s : MSt} {d : MAd} (h : MBlk w X iv s d) (j : Nat) : w.cell? ⟨X, j, none⟩ = (machC iv s d)[j]? := by
  rw [cell_of_row w X j _ _ _ h.blk]
  simp
theorem MBlk.drewN {w : World} {X : Nat} {iv : List Value} {s : MSt} {d : MAd} (h : MBlk w X iv s d) (n : Nat) : MBlk (w.drewN n) X iv s d := ⟨h.blk, h.ivl, h.rl⟩
theorem MBlk.below {w w' : World} {X : Nat} {iv : List Value} {s : MSt} {d : MAd} (h : MBlk w X iv s d) (hb : Below w.heap.size w w') : MBlk w' X iv s d := ⟨(hb.block X h.lt).trans h.blk, h.ivl, h.rl⟩
theorem MBlk.img {w : World} {X : Nat} {iv : List Value} {s : MSt} {d : MAd} (h : MBlk w X iv s d) {j : Nat} {v : Value} (hj : iv[j]? = some v) : w.cell? ⟨X, j, none⟩ = some v := by
  have hl := (List.getElem?_eq_some_iff.1 hj).1
  rw [h.cell, machC, List.append_assoc, List.getElem?_append_left hl]
  exact hj
theorem MBlk.reg {w : World} {X : Nat} {iv : List Value} {s : MSt} {d : MAd} (h : MBlk w X iv s d) {r : Nat} {v : Int × Bool} (hr : s.regs[r]? = some v) : w.cell? ⟨X, 6 + r * 2, none⟩ = some (.int .i64 v.1) ∧ w.cell? ⟨X, 6 + r * 2 + 1, none⟩ = some (.bool v.2) := by
  have hl := (List.getElem?_eq_some_iff.1 hr).1
  have h0 := flat_at valC 2 (fun _ => rfl) s.regs r v hr 0 _ (by decide) rfl
  have h1 := flat_at valC 2 (fun _ => rfl) s.regs r v hr 1 _ (by decide) rfl
  have hv := valsC_len s.regs
  have e : ∀ q, q < (valsC s.regs).length → (machC iv s d)[6 + q]? = (valsC s.regs)[q]? := fun q hq => by
    rw [machC, List.append_assoc, List.getElem?_append_right (by rw [h.ivl]; omega), h.ivl, show 6 + q - 6 = q by omega, List.getElem?_append_left hq]
  refine ⟨?_, ?_⟩
  · rw [h.cell, e _ (by omega)]
    exact h0
  · rw [h.cell, Nat.add_assoc, e _ (by omega)]
    exact h1
theorem MBlk.rest {w : World} {X : Nat} {iv : List Value} {s : MSt} {d : MAd} (h : MBlk w X iv s d) (q : Nat) : w.cell? ⟨X, 22 + q, none⟩ = [Value.slice d.dA s.data.length d.dc, .slice d.iA s.inp.length d.ic, .int .i64 s.pc, .slice d.tA s.told.length d.tc, .int .i64 s.en, .int .i64 s.steps, .int .i64 0][q]? := by
  have hv := valsC_len s.regs
  have hr := h.rl
  rw [h.cell, machC, List.getElem?_append_right (by rw [List.length_append, h.ivl]; omega), List.length_append, h.ivl, hv, hr, show 22 + q - (6 + 8 * 2) = q by omega]
def regAt (s : MSt) (r : Int) : Int × Bool := s.regs.getD r.toNat (0, false)
theorem regAt_get {w : World} {X : Nat} {iv : List Value} {s : MSt} {d : MAd} (h : MBlk w X iv s d) {r : Int} (h0 : 0 ≤ r) (h1 : r < 8) : s.regs[r.toNat]? = some (regAt s r) := by
  have := h.rl
  have hl : r.toNat < s.regs.length := by omega
  simp [regAt, List.getD, List.getElem?_eq_getElem hl]
theorem number_any {X : Nat} {iv : List Value} {s : MSt} {d : MAd} (r : Int) (w : World) (h : MBlk w X iv s d) (h0 : 0 ≤ r) (h1 : r < 8) :
    Calls Tryd.prog 65 #[.pointer (some ⟨X, 0, none⟩), .int .i64 r] w fun e w' => e = .returned (.tuple #[.int .i64 (regAt s r).1, .bool (!(regAt s r).2)]) ∧ ∃ n, w' = w.drewN n := by
  obtain ⟨c0, c1⟩ := h.reg (regAt_get h h0 h1)
  generalize regAt s r = v at *
  obtain ⟨n, c⟩ := v
  simp only at c0 c1 ⊢
  clear h
  go_enter Tryd.func65, Tryd.ntmps65
  go_wp2
  go_quiet (fail)
  go_wp2
  go_ret2
  exact ⟨rfl, _, rfl⟩
theorem drewN_add (w : World) (a b : Nat) : (w.drewN a).drewN b = w.drewN (a + b) := World.drewN_drewN w a b
theorem numbers_any {X : Nat} {iv : List Value} {s : MSt} {d : MAd} (a b : Int) (w : World) (h : MBlk w X iv s d) (h0 : 0 ≤ a) (h1 : a < 8) (h2 : 0 ≤ b) (h3 : b < 8) :
    Calls Tryd.prog 66 #[.pointer (some ⟨X, 0, none⟩), .int .i64 a, .int .i64 b] w fun e w' => e = .returned (.tuple #[.int .i64 (regAt s a).1, .int .i64 (regAt s b).1, .bool (!(regAt s a).2 && !(regAt s b).2)]) ∧ ∃ n, w' = w.drewN n := by
  have H := Lib.hid h
  have HA := fun w h => number_any (X := X) (iv := iv) (s := s) (d := d) a w h h0 h1
  have HB := fun w h => number_any (X := X) (iv := iv) (s := s) (d := d) b w h h2 h3
  have HA' := Lib.hid HA
  have HB' := Lib.hid HB
  clear h HA HB
  generalize regAt s a = u at *
  generalize regAt s b = v at *
  obtain ⟨n, p⟩ := u
  obtain ⟨m, q⟩ := v
  go_enter Tryd.func66, Tryd.ntmps66
  go_wp2_with fail
  refine (HA'.out _ H.out).mono ?_
  rintro e w1 ⟨rfl, n1, rfl⟩
  go_wp2_with fail
  refine (HB'.out _ (H.out.drewN _)).mono ?_
  rintro e w2 ⟨rfl, n2, rfl⟩
  cases p
  all_goals
    go_wp2
    go_ret3
    exact ⟨by simp, _, rfl⟩
theorem address_any {X : Nat} {iv : List Value} {s : MSt} {d : MAd} (r n : Int) (w : World) (h : MBlk w X iv s d) (h0 : 0 ≤ r) (h1 : r < 8) (hb : N41 (regAt s r).1) (n1 : -1099511627776 ≤ n) (n2 : n ≤ 1099511627776) (_hd : s.data.length ≤ 140737488355328) :
    Calls Tryd.prog 95 #[.pointer (some ⟨X, 0, none⟩), .int .i64 r, .int .i64 n] w fun e w' => e = .returned (.tuple #[.int .i64 ((regAt s r).1 + n), .bool (decide (0 ≤ (regAt s r).1 + n) && decide ((regAt s r).1 + n < s.data.length))]) ∧ ∃ n, w' = w.drewN n := by
  have H := Lib.hid h
  have HA := fun w h => number_any (X := X) (iv := iv) (s := s) (d := d) r w h h0 h1
  have HA' := Lib.hid HA
  have c22 : w.cell? ⟨X, 22, none⟩ = some (.slice d.dA s.data.length d.dc) := h.rest 0
  clear h HA
  generalize regAt s r = u at *
  obtain ⟨a, p⟩ := u
  obtain ⟨a1, a2⟩ := hb
  simp only at a1 a2 ⊢
  by_cases hz : 0 ≤ a + n
  · go_enter Tryd.func95, Tryd.ntmps95
    go_wp2_with fail
    refine (HA'.out _ H.out).mono ?_
    rintro e w1 ⟨rfl, n1, rfl⟩
    go_wp2
    have e1 : IntKind.i64.wrap (a + n) = a + n := by rw [IntKind.wrap_i64]; omega
    go_quiet (fail)
    go_wp2
    go_ret2
    exact ⟨by simp [hz], _, drewN_add _ _ _⟩
  · have hz' : decide (0 ≤ a + n) = false := by simpa using hz
    go_enter Tryd.func95, Tryd.ntmps95
    go_wp2_with fail
    refine (HA'.out _ H.out).mono ?_
    rintro e w1 ⟨rfl, n1, rfl⟩
    go_wp2
    have e1 : IntKind.i64.wrap (a + n) = a + n := by rw [IntKind.wrap_i64]; omega
    go_quiet (fail)
    go_wp2
    go_ret2
    exact ⟨by simp [hz'], _, drewN_add _ _ _⟩
end Go.Proofs.YtlekjnnofhjgjaaDoor
namespace Go.Proofs.YtlekjnnofhjgjaaDoor
open Go.RowKit
theorem valsC_set : ∀ (L : List (Int × Bool)) (r : Nat) (v : Int × Bool), valsC (L.set r v) = ((valsC L).set (r * 2) (.int .i64 v.1)).set (r * 2 + 1) (.bool v.2)
  | [], r, v => by simp [valsC]
  | u :: L, 0, v => by simp [valsC, valC]
  | u :: L, r + 1, v => by
    have ih := valsC_set L r v
    have e : ∀ L' : List (Int × Bool), valsC (u :: L') = .int .i64 u.1 :: .bool u.2 :: valsC L' := fun L' => rfl
    rw [List.set_cons_succ, e, e, ih, show (r + 1) * 2 = r * 2 + 1 + 1 by omega]
    rfl
theorem set_mid (a m r : List Value) (j : Nat) (v : Value) (h : j < m.length) : (a ++ m ++ r).set (a.length + j) v = a ++ m.set j v ++ r := by
  rw [List.append_assoc, List.set_append_right _ _ (Nat.le_add_right _ _), Nat.add_sub_cancel_left, List.set_append_left _ _ h, List.append_assoc]
theorem machC_reg (iv : List Value) (s : MSt) (d : MAd) (hi : iv.length = 6) (hr : s.regs.length = 8) (r : Nat) (h : r < 8) (v : Int × Bool) :
    ((machC iv s d).set (6 + r * 2) (.int .i64 v.1)).set (6 + r * 2 + 1) (.bool v.2) = machC iv { s with regs := s.regs.set r v } d := by
  have hv := valsC_len s.regs
  unfold machC
  rw [valsC_set]
  have h1 := set_mid iv (valsC s.regs) [Value.slice d.dA s.data.length d.dc, .slice d.iA s.inp.length d.ic, .int .i64 s.pc, .slice d.tA s.told.length d.tc, .int .i64 s.en, .int .i64 s.steps, .int .i64 0] (r * 2) (.int .i64 v.1) (by omega)
  have h2 := set_mid iv ((valsC s.regs).set (r * 2) (.int .i64 v.1)) [Value.slice d.dA s.data.length d.dc, .slice d.iA s.inp.length d.ic, .int .i64 s.pc, .slice d.tA s.told.length d.tc, .int .i64 s.en, .int .i64 s.steps, .int .i64 0] (r * 2 + 1) (.bool v.2) (by rw [List.length_set]; omega)
  rw [hi] at h1 h2
  rw [h1, Nat.add_assoc, h2]
theorem MBlk.setReg {w : World} {X : Nat} {iv : List Value} {s : MSt} {d : MAd} (h : MBlk w X iv s d) (r : Nat) (hr : r < 8) (v : Int × Bool) :
    MBlk ((w.setCell ⟨X, 6 + r * 2, none⟩ (.int .i64 v.1)).setCell ⟨X, 6 + r * 2 + 1, none⟩ (.bool v.2)) X iv { s with regs := s.regs.set r v } d := by
  refine ⟨?_, h.ivl, by simpa using h.rl⟩
  rw [← machC_reg iv s d h.ivl h.rl r hr v]
  exact blk_set (blk_set h.blk _ _) _ _
theorem machC_rest (iv : List Value) (s : MSt) (d : MAd) (hi : iv.length = 6) (hr : s.regs.length = 8) (q : Nat) (v : Value) :
    (machC iv s d).set (22 + q) v = iv ++ valsC s.regs ++ [Value.slice d.dA s.data.length d.dc, .slice d.iA s.inp.length d.ic, .int .i64 s.pc, .slice d.tA s.told.length d.tc, .int .i64 s.en, .int .i64 s.steps, .int .i64 0].set q v := by
  have hv := valsC_len s.regs
  unfold machC
  rw [List.set_append_right _ _ (by rw [List.length_append]; omega), List.length_append, hi, hv, hr, show 22 + q - (6 + 8 * 2) = q by omega]
theorem MBlk.setPc {w : World} {X : Nat} {iv : List Value} {s : MSt} {d : MAd} (h : MBlk w X iv s d) (n : Int) : MBlk (w.setCell ⟨X, 24, none⟩ (.int .i64 n)) X iv { s with pc := n } d :=
  ⟨by rw [blk_set h.blk 24 _, machC_rest iv s d h.ivl h.rl 2]; rfl, h.ivl, h.rl⟩
theorem MBlk.setEn {w : World} {X : Nat} {iv : List Value} {s : MSt} {d : MAd} (h : MBlk w X iv s d) (n : Int) : MBlk (w.setCell ⟨X, 26, none⟩ (.int .i64 n)) X iv { s with en := n } d :=
  ⟨by rw [blk_set h.blk 26 _, machC_rest iv s d h.ivl h.rl 4]; rfl, h.ivl, h.rl⟩
theorem MBlk.setSteps {w : World} {X : Nat} {iv : List Value} {s : MSt} {d : MAd} (h : MBlk w X iv s d) (n : Int) : MBlk (w.setCell ⟨X, 27, none⟩ (.int .i64 n)) X iv { s with steps := n } d :=
  ⟨by rw [blk_set h.blk 27 _, machC_rest iv s d h.ivl h.rl 5]; rfl, h.ivl, h.rl⟩
theorem MBlk.setInp {w : World} {X : Nat} {iv : List Value} {s : MSt} {d : MAd} (h : MBlk w X iv s d) (L : List Int) (A : Option Addr) (c : Nat) : MBlk (w.setCell ⟨X, 23, none⟩ (.slice A L.length c)) X iv { s with inp := L } { d with iA := A, ic := c } :=
  ⟨by rw [blk_set h.blk 23 _, machC_rest iv s d h.ivl h.rl 1]; rfl, h.ivl, h.rl⟩
theorem MBlk.setTold {w : World} {X : Nat} {iv : List Value} {s : MSt} {d : MAd} (h : MBlk w X iv s d) (L : List Int) (A : Option Addr) (c : Nat) : MBlk (w.setCell ⟨X, 25, none⟩ (.slice A L.length c)) X iv { s with told := L } { d with tA := A, tc := c } :=
  ⟨by rw [blk_set h.blk 25 _, machC_rest iv s d h.ivl h.rl 3]; rfl, h.ivl, h.rl⟩
theorem MBlk.setData {w : World} {X : Nat} {iv : List Value} {s : MSt} {d : MAd} (h : MBlk w X iv s d) (L : List (Int × Bool)) (A : Option Addr) (c : Nat) : MBlk (w.setCell ⟨X, 22, none⟩ (.slice A L.length c)) X iv { s with data := L } { d with dA := A, dc := c } :=
  ⟨by rw [blk_set h.blk 22 _, machC_rest iv s d h.ivl h.rl 0]; rfl, h.ivl, h.rl⟩
theorem MBlk.gb {w w' : World} {X Y : Nat} {iv : List Value} {s : MSt} {d : MAd} (h : MBlk w X iv s d) (hg : w.grownBy w' (some Y)) (hne : X ≠ Y) : MBlk w' X iv s d :=
  ⟨(hg.block X h.lt (fun e => hne (by injection e))).trans h.blk, h.ivl, h.rl⟩
end Go.Proofs.YtlekjnnofhjgjaaDoor
namespace Go.Proofs.YtlekjnnofhjgjaaDoor
open Go.RowKit
/-- an instruction's parts -/
def insV (k d a b n : Int) (l : Bool) : Value := .agg #[.int .i64 k, .int .i64 d, .int .i64 a, .int .i64 b, .int .i64 n, .bool l]
/-- where a run goes on: the machine, how it ends, where -/
def flowS (ts : List (List Int)) (s : MSt) (k a b n next : Int) : MSt × Int × Int :=
  if k = 1 then (s, 1, next) else if k = 2 then (s, 2, next)
  else if k = 3 then (if (regAt s 7).2 = false then (s, 4, next) else (s, 0, (regAt s 7).1))
  else if k = 22 then (s, 0, s.pc + n)
  else if k = 23 then ({ s with regs := s.regs.set 7 (next, true) }, 0, s.pc + n)
  else if k = 24 then (if (regAt s a).2 = true then (s, 4, next) else if (ts.length : Int) ≤ n ∨ (regAt s a).1 < 0 ∨ ((ts.getD n.toNat []).length : Int) ≤ (regAt s a).1 then (s, 2, next) else (s, 0, (ts.getD n.toNat []).getD (regAt s a).1.toNat 0))
  else if (regAt s a).2 = true ∨ (regAt s b).2 = true then (s, 4, next) else if takenB k (regAt s a).1 (regAt s b).1 = true then (s, 0, s.pc + n) else (s, 0, next)
def StepPost (w : World) (X : Nat) (iv : List Value) (d : MAd) (s' : MSt) (v : Value) (e : Ending) (w' : World) : Prop := e = .returned v ∧ w.grownBy w' (some X) ∧ MBlk w' X iv s' d
set_option maxHeartbeats 4000000 in
set_option maxRecDepth 100000 in
theorem flow_any {X B : Nat} {iv : List Value} {s : MSt} {d : MAd} (ts : List (List Int)) (bA : Option Addr) (bc : Nat) (k dd a b n next : Int) (l : Bool) (w : World) (h : MBlk w X iv s d) (hiv : iv[2]? = some (.slice bA ts.length bc)) (hB : B ≤ X) (hT : RdT w B bA ts)
    (hk : (1 ≤ k ∧ k ≤ 3) ∨ (18 ≤ k ∧ k ≤ 24)) (ha : 0 ≤ a ∧ a < 8) (hb : 0 ≤ b ∧ b < 8) (hn : -32768 ≤ n ∧ n ≤ 32767) (hp : -4611686018427387904 ≤ s.pc ∧ s.pc ≤ 4611686018427387904) (h24 : k = 24 → 0 ≤ n) :
    Calls Tryd.prog 38 #[.pointer (some ⟨X, 0, none⟩), .agg #[.int .i64 k, .int .i64 dd, .int .i64 a, .int .i64 b, .int .i64 n, .bool l], .int .i64 next] w
      (StepPost w X iv d (flowS ts s k a b n next).1 (.tuple #[.int .i64 (flowS ts s k a b n next).2.1, .int .i64 (flowS ts s k a b n next).2.2])) := by
  obtain ⟨n1, n2⟩ := hn
  obtain ⟨p1, p2⟩ := hp
  have hlt := h.lt
  have H := Lib.hid h
  have fin0 : ∀ O m, w.grownBy ((w.alloc O).drewN m) (some X) ∧ MBlk ((w.alloc O).drewN m) X iv s d := fun O m => ⟨gb_drewN (gb_alloc (gb_refl _ _) _) _, (H.out.below ((Below.refl _ _).alloc (Nat.le_refl _) _)).drewN _⟩
  have fin3 : ∀ O m m', w.grownBy (((w.alloc O).drewN m).drewN m') (some X) ∧ MBlk (((w.alloc O).drewN m).drewN m') X iv s d := fun O m m' => ⟨gb_drewN (fin0 O m).1 _, (fin0 O m).2.drewN _⟩
  have fin4 : ∀ O m m' m'', w.grownBy ((((w.alloc O).drewN m).drewN m').drewN m'') (some X) ∧ MBlk ((((w.alloc O).drewN m).drewN m').drewN m'') X iv s d := fun O m m' m'' => ⟨gb_drewN (fin3 O m m').1 _, (fin3 O m m').2.drewN _⟩
  have fin1 : ∀ O, w.grownBy (w.alloc O) (some X) ∧ MBlk (w.alloc O) X iv s d := fun O => ⟨gb_alloc (gb_refl _ _) _, H.out.below ((Below.refl _ _).alloc (Nat.le_refl _) _)⟩
  have c24 : w.cell? ⟨X, 24, none⟩ = some (.int .i64 s.pc) := h.rest 2
  have r7 := h.reg (regAt_get h (r := 7) (by decide) (by decide))
  obtain ⟨r71, r72⟩ := r7
  have r71' : w.cell? ⟨X, 20, none⟩ = some (.int .i64 (regAt s 7).1) := r71
  have r72' : w.cell? ⟨X, 21, none⟩ = some (.bool (regAt s 7).2) := r72
  have fz : ∀ j, w.frozen? ⟨X, j, none⟩ = false := fun j => frozen_of_row _ _ _ _ _ h.blk
  have fz20 := fz 20
  have fz21 := fz 21
  have hrl := h.rl
  have RIV := Lib.hid (h.img hiv)
  clear h r71 r72 fz
  by_cases k1 : k = 1
  · subst k1
    unfold flowS StepPost
    simp only [if_true]
    go_enter Tryd.func38, Tryd.ntmps38
    go_wp2
    go_ret2
    exact ⟨rfl, fin1 _⟩
  by_cases k2 : k = 2
  · subst k2
    unfold flowS StepPost
    simp only [show ¬ (2 : Int) = 1 by decide, if_false, if_true]
    go_enter Tryd.func38, Tryd.ntmps38
    go_wp2
    go_ret2
    exact ⟨rfl, fin1 _⟩
  by_cases k3 : k = 3
  · subst k3
    unfold flowS StepPost
    simp only [show ¬ (3 : Int) = 1 by decide, show ¬ (3 : Int) = 2 by decide, if_false, if_true]
    generalize regAt s 7 = v at *
    obtain ⟨x, c⟩ := v
    simp only at *
    cases c
    · go_enter Tryd.func38, Tryd.ntmps38
      go_wp2
      go_ret2
      exact ⟨rfl, fin1 _⟩
    · go_enter Tryd.func38, Tryd.ntmps38
      go_wp2
      go_quiet (fail)
      go_wp2
      go_ret2
      exact ⟨rfl, fin0 _ _⟩
  by_cases k22 : k = 22
  · subst k22
    unfold flowS StepPost
    simp only [show ¬ (22 : Int) = 1 by decide, show ¬ (22 : Int) = 2 by decide, show ¬ (22 : Int) = 3 by decide, if_false, if_true]
    have e1 : IntKind.i64.wrap (s.pc + n) = s.pc + n := by rw [IntKind.wrap_i64]; omega
    go_enter Tryd.func38, Tryd.ntmps38
    go_wp2
    go_quiet (fail)
    go_wp2
    go_ret2
    exact ⟨rfl, fin0 _ _⟩
  by_cases k23 : k = 23
  · subst k23
    unfold flowS StepPost
    simp only [show ¬ (23 : Int) = 1 by decide, show ¬ (23 : Int) = 2 by decide, show ¬ (23 : Int) = 3 by decide, show ¬ (23 : Int) = 22 by decide, if_false, if_true]
    go_enter Tryd.func38, Tryd.ntmps38
    go_wp2
    have e1 : IntKind.i64.wrap (s.pc + n) = s.pc + n := by rw [IntKind.wrap_i64]; omega
    have fin2 : ∀ O m, w.grownBy ((((w.setCell ⟨X, 20, none⟩ (.int .i64 next)).setCell ⟨X, 21, none⟩ (.bool true)).alloc O).drewN m) (some X) ∧ MBlk ((((w.setCell ⟨X, 20, none⟩ (.int .i64 next)).setCell ⟨X, 21, none⟩ (.bool true)).alloc O).drewN m) X iv { s with regs := s.regs.set 7 (next, true) } d :=
      fun O m => ⟨gb_drewN (gb_alloc (gb_setCell (gb_setCell (gb_refl _ _) _ _) _ _) _) _, ((H.out.setReg 7 (by decide) (next, true)).below ((Below.refl _ _).alloc (Nat.le_refl _) _)).drewN _⟩
    have d24 : (((w.setCell ⟨X, 20, none⟩ (.int .i64 next)).setCell ⟨X, 21, none⟩ (.bool true))).cell? ⟨X, 24, none⟩ = some (.int .i64 s.pc) := (H.out.setReg 7 (by decide) (next, true)).rest 2
    have hsz : X < (((w.setCell ⟨X, 20, none⟩ (.int .i64 next)).setCell ⟨X, 21, none⟩ (.bool true))).heap.size := (H.out.setReg 7 (by decide) (next, true)).lt
    have hws : (((w.setCell ⟨X, 20, none⟩ (.int .i64 next)).setCell ⟨X, 21, none⟩ (.bool true))).heap.size = w.heap.size := by simp [World.setCell]
    generalize (((w.setCell ⟨X, 20, none⟩ (.int .i64 next)).setCell ⟨X, 21, none⟩ (.bool true))) = W at *
    rw [← hws]
    clear c24 r71' r72' fz20 fz21 hws
    go_quiet (fail)
    go_wp2
    go_ret2
    exact ⟨rfl, fin2 _ _⟩
  by_cases k24 : k = 24
  · subst k24
    have hn0 := h24 rfl
    unfold flowS StepPost
    simp only [show ¬ (24 : Int) = 1 by decide, show ¬ (24 : Int) = 2 by decide, show ¬ (24 : Int) = 3 by decide, show ¬ (24 : Int) = 22 by decide, show ¬ (24 : Int) = 23 by decide, if_false, if_true]
    have HA := fun w h => number_any (X := X) (iv := iv) (s := s) (d := d) a w h ha.1 ha.2
    have HA' := Lib.hid HA
    clear HA
    generalize regAt s a = u at *
    obtain ⟨x, c⟩ := u
    simp only at *
    cases c
    · have riv := RIV.out
      by_cases q1 : (ts.length : Int) ≤ n
      · rw [if_neg (by decide), if_pos (.inl q1)]
        go_enter Tryd.func38, Tryd.ntmps38
        go_wp2_with fail
        refine (HA'.out _ (H.out.below ((Below.refl _ _).alloc (Nat.le_refl _) _))).mono ?_
        rintro e w1 ⟨rfl, m1, rfl⟩
        go_wp2
        go_quiet (fail)
        go_wp2
        go_ret2
        first | exact ⟨rfl, fin3 _ _ _⟩ | exact ⟨rfl, fin4 _ _ _ _⟩ | exact ⟨rfl, fin0 _ _⟩
      · by_cases q2 : x < 0
        · rw [if_neg (by decide), if_pos (.inr (.inl q2))]
          have q1' : decide ((ts.length : Int) ≤ n) = false := by simpa using q1
          go_enter Tryd.func38, Tryd.ntmps38
          go_wp2_with fail
          refine (HA'.out _ (H.out.below ((Below.refl _ _).alloc (Nat.le_refl _) _))).mono ?_
          rintro e w1 ⟨rfl, m1, rfl⟩
          go_wp2
          go_quiet (fail)
          go_wp2
          go_ret2
          first | exact ⟨rfl, fin3 _ _ _⟩ | exact ⟨rfl, fin4 _ _ _ _⟩ | exact ⟨rfl, fin0 _ _⟩
        · obtain ⟨vs, hvl, hvr, hvs⟩ := hT
          have htl : n.toNat < ts.length := by omega
          have ht : ts[n.toNat]? = some (ts[n.toNat]'htl) := List.getElem?_eq_getElem htl
          have hgd : ts.getD n.toNat [] = ts[n.toNat]'htl := by simp [List.getD, ht]
          rw [hgd]
          obtain ⟨t, htt⟩ : ∃ t, ts[n.toNat]'htl = t := ⟨_, rfl⟩
          rw [htt] at ht ⊢
          obtain ⟨a', c', hva, hac, _, htb, hra⟩ := hvs _ t ht
          obtain ⟨bb, bo, rfl, hbb, hbc⟩ := hvr.at hva
          have hbw : bb < w.heap.size := by omega
          have hn' : n < (ts.length : Int) := by omega
          have q1' : decide ((ts.length : Int) ≤ n) = false := by simpa using q1
          have q2' : decide (x < 0) = false := by simpa using q2
          clear ht hgd htt hvl hvr hvs hva
          by_cases q3 : (t.length : Int) ≤ x
          · rw [if_neg (by decide), if_pos (.inr (.inr q3))]
            go_enter Tryd.func38, Tryd.ntmps38
            go_wp2_with fail
            refine (HA'.out _ (H.out.below ((Below.refl _ _).alloc (Nat.le_refl _) _))).mono ?_
            rintro e w1 ⟨rfl, m1, rfl⟩
            go_wp2
            go_quiet (fail)
            go_wp2
            go_ret2
            first | exact ⟨rfl, fin3 _ _ _⟩ | exact ⟨rfl, fin4 _ _ _ _⟩ | exact ⟨rfl, fin0 _ _⟩
          · rw [if_neg (by decide), if_neg (by omega)]
            have hxl : x.toNat < t.length := by omega
            have hx : t[x.toNat]? = some (t[x.toNat]'hxl) := List.getElem?_eq_getElem hxl
            have hxg : t.getD x.toNat 0 = t[x.toNat]'hxl := by simp [List.getD, hx]
            rw [hxg]
            obtain ⟨z, hzz⟩ : ∃ z, t[x.toNat]'hxl = z := ⟨_, rfl⟩
            rw [hzz] at hx ⊢
            obtain ⟨cb, co, rfl, hcb, hcc⟩ := hra.at (intsV_at .i64 hx)
            have hcw : cb < w.heap.size := by omega
            have q3' : decide ((t.length : Int) ≤ x) = false := by simpa using q3
            have hx0 : 0 ≤ x := by omega
            have hxt : x < (t.length : Int) := by omega
            clear hx hxg hzz hra
            go_enter Tryd.func38, Tryd.ntmps38
            go_wp2_with fail
            refine (HA'.out _ (H.out.below ((Below.refl _ _).alloc (Nat.le_refl _) _))).mono ?_
            rintro e w1 ⟨rfl, m1, rfl⟩
            go_wp2
            go_quiet (fail)
            go_wp2
            go_quiet (fail)
            go_wp2
            go_ret2
            first | exact ⟨rfl, fin3 _ _ _⟩ | exact ⟨rfl, fin4 _ _ _ _⟩ | exact ⟨rfl, fin0 _ _⟩
    · go_enter Tryd.func38, Tryd.ntmps38
      go_wp2_with fail
      refine (HA'.out _ (H.out.below ((Below.refl _ _).alloc (Nat.le_refl _) _))).mono ?_
      rintro e w1 ⟨rfl, m1, rfl⟩
      go_wp2
      go_ret2
      exact ⟨rfl, fin0 _ _⟩
  · have g1 : (k == 1) = false := by simpa using k1
    have g2 : (k == 2) = false := by simpa using k2
    have g3 : (k == 3) = false := by simpa using k3
    have g22 : (k == 22) = false := by simpa using k22
    have g23 : (k == 23) = false := by simpa using k23
    have g24 : (k == 24) = false := by simpa using k24
    unfold flowS StepPost
    rw [if_neg k1, if_neg k2, if_neg k3, if_neg k22, if_neg k23, if_neg k24]
    have HA := fun w h => numbers_any (X := X) (iv := iv) (s := s) (d := d) a b w h ha.1 ha.2 hb.1 hb.2
    have HA' := Lib.hid HA
    clear HA k1 k2 k3 k22 k23 k24 h24
    generalize regAt s a = u at *
    generalize regAt s b = v at *
    obtain ⟨x, c⟩ := u
    obtain ⟨y, c'⟩ := v
    simp only at *
    by_cases q : c = true ∨ c' = true
    · rw [if_pos q]
      have q' : (!c && !c') = false := by rcases q with q | q <;> simp [q]
      have Q := Lib.hid q'
      clear q q'
      go_enter Tryd.func38, Tryd.ntmps38
      go_wp2_with fail
      refine (HA'.out _ (H.out.below ((Below.refl _ _).alloc (Nat.le_refl _) _))).mono ?_
      rintro e w1 ⟨rfl, m1, rfl⟩
      rw [Q.out]
      go_wp2
      go_ret2
      exact ⟨rfl, fin0 _ _⟩
    · rw [if_neg q]
      have q' : (!c && !c') = true := by cases c <;> cases c' <;> simp at q ⊢
      have Q := Lib.hid q'
      clear q q'
      by_cases t : takenB k x y = true
      · rw [if_pos t]
        have T := Lib.hid t
        clear t
        have e1 : IntKind.i64.wrap (s.pc + n) = s.pc + n := by rw [IntKind.wrap_i64]; omega
        go_enter Tryd.func38, Tryd.ntmps38
        go_wp2_with fail
        refine (HA'.out _ (H.out.below ((Below.refl _ _).alloc (Nat.le_refl _) _))).mono ?_
        rintro e w1 ⟨rfl, m1, rfl⟩
        rw [Q.out]
        go_wp2_with fail
        refine (taken_any _ _ _ _).mono ?_
        rintro e w2 ⟨rfl, rfl⟩
        rw [T.out]
        go_wp2
        go_quiet (fail)
        go_wp2
        go_ret2
        exact ⟨rfl, fin3 _ _ _⟩
      · rw [if_neg t]
        rw [Bool.not_eq_true] at t
        have T := Lib.hid t
        clear t
        go_enter Tryd.func38, Tryd.ntmps38
        go_wp2_with fail
        refine (HA'.out _ (H.out.below ((Below.refl _ _).alloc (Nat.le_refl _) _))).mono ?_
        rintro e w1 ⟨rfl, m1, rfl⟩
        rw [Q.out]
        go_wp2_with fail
        refine (taken_any _ _ _ _).mono ?_
        rintro e w2 ⟨rfl, rfl⟩
        rw [T.out]
        go_wp2
        go_ret2
        exact ⟨rfl, fin0 _ _⟩
end Go.Proofs.YtlekjnnofhjgjaaDoor
