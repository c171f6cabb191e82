/- step: (*machine).flow, walked. -/
import Derived.Test.YtgeljimckoodiaaDoorStepC
import Derived.Test.YtgeljimckoodiaaDoorImgC
namespace Go.Proofs.YtgeljimckoodiaaDoor
open Go.RowKit
/-- an instruction's parts -/
def insV (k d a b n : Int) (l : Bool) : Value := .agg #[.int .i64 k, .int .i64 d, .int .i64 a, .int .i64 b, .int .i64 n, .bool l]
/-- where a run goes on: the machine, how it ends, where -/
def flowS (ts : List (List Int)) (s : MSt) (k a b n next : Int) : MSt × Int × Int :=
  if k = 1 then (s, 1, next) else if k = 2 then (s, 2, next)
  else if k = 3 then (if (regAt s 7).2 = false then (s, 4, next) else (s, 0, (regAt s 7).1))
  else if k = 22 then (s, 0, s.pc + n)
  else if k = 23 then ({ s with regs := s.regs.set 7 (next, true) }, 0, s.pc + n)
  else if k = 24 then (if (regAt s a).2 = true then (s, 4, next) else if (ts.length : Int) ≤ n ∨ (regAt s a).1 < 0 ∨ ((ts.getD n.toNat []).length : Int) ≤ (regAt s a).1 then (s, 2, next) else (s, 0, (ts.getD n.toNat []).getD (regAt s a).1.toNat 0))
  else if (regAt s a).2 = true ∨ (regAt s b).2 = true then (s, 4, next) else if takenB k (regAt s a).1 (regAt s b).1 = true then (s, 0, s.pc + n) else (s, 0, next)
def StepPost (w : World) (X : Nat) (iv : List Value) (d : MAd) (s' : MSt) (v : Value) (e : Ending) (w' : World) : Prop := e = .returned v ∧ w.grownBy w' (some X) ∧ MBlk w' X iv s' d
set_option maxHeartbeats 4000000 in
set_option maxRecDepth 100000 in
theorem flow_any {X B : Nat} {iv : List Value} {s : MSt} {d : MAd} (ts : List (List Int)) (bA : Option Addr) (bc : Nat) (k dd a b n next : Int) (l : Bool) (w : World) (h : MBlk w X iv s d) (hiv : iv[2]? = some (.slice bA ts.length bc)) (hB : B ≤ X) (hT : RdT w B bA ts)
    (hk : (1 ≤ k ∧ k ≤ 3) ∨ (18 ≤ k ∧ k ≤ 24)) (ha : 0 ≤ a ∧ a < 8) (hb : 0 ≤ b ∧ b < 8) (hn : -32768 ≤ n ∧ n ≤ 32767) (hp : -4611686018427387904 ≤ s.pc ∧ s.pc ≤ 4611686018427387904) (h24 : k = 24 → 0 ≤ n) :
    Calls Tryd.prog 35 #[.pointer (some ⟨X, 0, none⟩), .agg #[.int .i64 k, .int .i64 dd, .int .i64 a, .int .i64 b, .int .i64 n, .bool l], .int .i64 next] w
      (StepPost w X iv d (flowS ts s k a b n next).1 (.tuple #[.int .i64 (flowS ts s k a b n next).2.1, .int .i64 (flowS ts s k a b n next).2.2])) := by
  obtain ⟨n1, n2⟩ := hn
  obtain ⟨p1, p2⟩ := hp
  have hlt := h.lt
  have H := Lib.hid h
  have fin0 : ∀ O m, w.grownBy ((w.alloc O).drewN m) (some X) ∧ MBlk ((w.alloc O).drewN m) X iv s d := fun O m => ⟨gb_drewN (gb_alloc (gb_refl _ _) _) _, (H.out.below ((Below.refl _ _).alloc (Nat.le_refl _) _)).drewN _⟩
  have fin3 : ∀ O m m', w.grownBy (((w.alloc O).drewN m).drewN m') (some X) ∧ MBlk (((w.alloc O).drewN m).drewN m') X iv s d := fun O m m' => ⟨gb_drewN (fin0 O m).1 _, (fin0 O m).2.drewN _⟩
  have fin4 : ∀ O m m' m'', w.grownBy ((((w.alloc O).drewN m).drewN m').drewN m'') (some X) ∧ MBlk ((((w.alloc O).drewN m).drewN m').drewN m'') X iv s d := fun O m m' m'' => ⟨gb_drewN (fin3 O m m').1 _, (fin3 O m m').2.drewN _⟩
  have fin1 : ∀ O, w.grownBy (w.alloc O) (some X) ∧ MBlk (w.alloc O) X iv s d := fun O => ⟨gb_alloc (gb_refl _ _) _, H.out.below ((Below.refl _ _).alloc (Nat.le_refl _) _)⟩
  have c24 : w.cell? ⟨X, 24, none⟩ = some (.int .i64 s.pc) := h.rest 2
  have r7 := h.reg (regAt_get h (r := 7) (by decide) (by decide))
  obtain ⟨r71, r72⟩ := r7
  have r71' : w.cell? ⟨X, 20, none⟩ = some (.int .i64 (regAt s 7).1) := r71
  have r72' : w.cell? ⟨X, 21, none⟩ = some (.bool (regAt s 7).2) := r72
  have fz : ∀ j, w.frozen? ⟨X, j, none⟩ = false := fun j => frozen_of_row _ _ _ _ _ h.blk
  have fz20 := fz 20
  have fz21 := fz 21
  have hrl := h.rl
  have RIV := Lib.hid (h.img hiv)
  clear h r71 r72 fz
  by_cases k1 : k = 1
  · subst k1
    unfold flowS StepPost
    simp only [if_true]
    go_enter Tryd.func35, Tryd.ntmps35
    go_wp2
    go_ret2
    exact ⟨rfl, fin1 _⟩
  by_cases k2 : k = 2
  · subst k2
    unfold flowS StepPost
    simp only [show ¬ (2 : Int) = 1 by decide, if_false, if_true]
    go_enter Tryd.func35, Tryd.ntmps35
    go_wp2
    go_ret2
    exact ⟨rfl, fin1 _⟩
  by_cases k3 : k = 3
  · subst k3
    unfold flowS StepPost
    simp only [show ¬ (3 : Int) = 1 by decide, show ¬ (3 : Int) = 2 by decide, if_false, if_true]
    generalize regAt s 7 = v at *
    obtain ⟨x, c⟩ := v
    simp only at *
    cases c
    · go_enter Tryd.func35, Tryd.ntmps35
      go_wp2
      go_ret2
      exact ⟨rfl, fin1 _⟩
    · go_enter Tryd.func35, Tryd.ntmps35
      go_wp2
      go_quiet (fail)
      go_wp2
      go_ret2
      exact ⟨rfl, fin0 _ _⟩
  by_cases k22 : k = 22
  · subst k22
    unfold flowS StepPost
    simp only [show ¬ (22 : Int) = 1 by decide, show ¬ (22 : Int) = 2 by decide, show ¬ (22 : Int) = 3 by decide, if_false, if_true]
    have e1 : IntKind.i64.wrap (s.pc + n) = s.pc + n := by rw [IntKind.wrap_i64]; omega
    go_enter Tryd.func35, Tryd.ntmps35
    go_wp2
    go_quiet (fail)
    go_wp2
    go_ret2
    exact ⟨rfl, fin0 _ _⟩
  by_cases k23 : k = 23
  · subst k23
    unfold flowS StepPost
    simp only [show ¬ (23 : Int) = 1 by decide, show ¬ (23 : Int) = 2 by decide, show ¬ (23 : Int) = 3 by decide, show ¬ (23 : Int) = 22 by decide, if_false, if_true]
    go_enter Tryd.func35, Tryd.ntmps35
    go_wp2
    have e1 : IntKind.i64.wrap (s.pc + n) = s.pc + n := by rw [IntKind.wrap_i64]; omega
    have fin2 : ∀ O m, w.grownBy ((((w.setCell ⟨X, 20, none⟩ (.int .i64 next)).setCell ⟨X, 21, none⟩ (.bool true)).alloc O).drewN m) (some X) ∧ MBlk ((((w.setCell ⟨X, 20, none⟩ (.int .i64 next)).setCell ⟨X, 21, none⟩ (.bool true)).alloc O).drewN m) X iv { s with regs := s.regs.set 7 (next, true) } d :=
      fun O m => ⟨gb_drewN (gb_alloc (gb_setCell (gb_setCell (gb_refl _ _) _ _) _ _) _) _, ((H.out.setReg 7 (by decide) (next, true)).below ((Below.refl _ _).alloc (Nat.le_refl _) _)).drewN _⟩
    have d24 : (((w.setCell ⟨X, 20, none⟩ (.int .i64 next)).setCell ⟨X, 21, none⟩ (.bool true))).cell? ⟨X, 24, none⟩ = some (.int .i64 s.pc) := (H.out.setReg 7 (by decide) (next, true)).rest 2
    have hsz : X < (((w.setCell ⟨X, 20, none⟩ (.int .i64 next)).setCell ⟨X, 21, none⟩ (.bool true))).heap.size := (H.out.setReg 7 (by decide) (next, true)).lt
    have hws : (((w.setCell ⟨X, 20, none⟩ (.int .i64 next)).setCell ⟨X, 21, none⟩ (.bool true))).heap.size = w.heap.size := by simp [World.setCell]
    generalize (((w.setCell ⟨X, 20, none⟩ (.int .i64 next)).setCell ⟨X, 21, none⟩ (.bool true))) = W at *
    rw [← hws]
    clear c24 r71' r72' fz20 fz21 hws
    go_quiet (fail)
    go_wp2
    go_ret2
    exact ⟨rfl, fin2 _ _⟩
  by_cases k24 : k = 24
  · subst k24
    have hn0 := h24 rfl
    unfold flowS StepPost
    simp only [show ¬ (24 : Int) = 1 by decide, show ¬ (24 : Int) = 2 by decide, show ¬ (24 : Int) = 3 by decide, show ¬ (24 : Int) = 22 by decide, show ¬ (24 : Int) = 23 by decide, if_false, if_true]
    have HA := fun w h => number_any (X := X) (iv := iv) (s := s) (d := d) a w h ha.1 ha.2
    have HA' := Lib.hid HA
    clear HA
    generalize regAt s a = u at *
    obtain ⟨x, c⟩ := u
    simp only at *
    cases c
    · have riv := RIV.out
      by_cases q1 : (ts.length : Int) ≤ n
      · rw [if_neg (by decide), if_pos (.inl q1)]
        go_enter Tryd.func35, Tryd.ntmps35
        go_wp2_with fail
        refine (HA'.out _ (H.out.below ((Below.refl _ _).alloc (Nat.le_refl _) _))).mono ?_
        rintro e w1 ⟨rfl, m1, rfl⟩
        go_wp2
        go_quiet (fail)
        go_wp2
        go_ret2
        first | exact ⟨rfl, fin3 _ _ _⟩ | exact ⟨rfl, fin4 _ _ _ _⟩ | exact ⟨rfl, fin0 _ _⟩
      · by_cases q2 : x < 0
        · rw [if_neg (by decide), if_pos (.inr (.inl q2))]
          have q1' : decide ((ts.length : Int) ≤ n) = false := by simpa using q1
          go_enter Tryd.func35, Tryd.ntmps35
          go_wp2_with fail
          refine (HA'.out _ (H.out.below ((Below.refl _ _).alloc (Nat.le_refl _) _))).mono ?_
          rintro e w1 ⟨rfl, m1, rfl⟩
          go_wp2
          go_quiet (fail)
          go_wp2
          go_ret2
          first | exact ⟨rfl, fin3 _ _ _⟩ | exact ⟨rfl, fin4 _ _ _ _⟩ | exact ⟨rfl, fin0 _ _⟩
        · obtain ⟨vs, hvl, hvr, hvs⟩ := hT
          have htl : n.toNat < ts.length := by omega
          have ht : ts[n.toNat]? = some (ts[n.toNat]'htl) := List.getElem?_eq_getElem htl
          have hgd : ts.getD n.toNat [] = ts[n.toNat]'htl := by simp [List.getD, ht]
          rw [hgd]
          obtain ⟨t, htt⟩ : ∃ t, ts[n.toNat]'htl = t := ⟨_, rfl⟩
          rw [htt] at ht ⊢
          obtain ⟨a', c', hva, hac, _, htb, hra⟩ := hvs _ t ht
          obtain ⟨bb, bo, rfl, hbb, hbc⟩ := hvr.at hva
          have hbw : bb < w.heap.size := by omega
          have hn' : n < (ts.length : Int) := by omega
          have q1' : decide ((ts.length : Int) ≤ n) = false := by simpa using q1
          have q2' : decide (x < 0) = false := by simpa using q2
          clear ht hgd htt hvl hvr hvs hva
          by_cases q3 : (t.length : Int) ≤ x
          · rw [if_neg (by decide), if_pos (.inr (.inr q3))]
            go_enter Tryd.func35, Tryd.ntmps35
            go_wp2_with fail
            refine (HA'.out _ (H.out.below ((Below.refl _ _).alloc (Nat.le_refl _) _))).mono ?_
            rintro e w1 ⟨rfl, m1, rfl⟩
            go_wp2
            go_quiet (fail)
            go_wp2
            go_ret2
            first | exact ⟨rfl, fin3 _ _ _⟩ | exact ⟨rfl, fin4 _ _ _ _⟩ | exact ⟨rfl, fin0 _ _⟩
          · rw [if_neg (by decide), if_neg (by omega)]
            have hxl : x.toNat < t.length := by omega
            have hx : t[x.toNat]? = some (t[x.toNat]'hxl) := List.getElem?_eq_getElem hxl
            have hxg : t.getD x.toNat 0 = t[x.toNat]'hxl := by simp [List.getD, hx]
            rw [hxg]
            obtain ⟨z, hzz⟩ : ∃ z, t[x.toNat]'hxl = z := ⟨_, rfl⟩
            rw [hzz] at hx ⊢
            obtain ⟨cb, co, rfl, hcb, hcc⟩ := hra.at (intsV_at .i64 hx)
            have hcw : cb < w.heap.size := by omega
            have q3' : decide ((t.length : Int) ≤ x) = false := by simpa using q3
            have hx0 : 0 ≤ x := by omega
            have hxt : x < (t.length : Int) := by omega
            clear hx hxg hzz hra
            go_enter Tryd.func35, Tryd.ntmps35
            go_wp2_with fail
            refine (HA'.out _ (H.out.below ((Below.refl _ _).alloc (Nat.le_refl _) _))).mono ?_
            rintro e w1 ⟨rfl, m1, rfl⟩
            go_wp2
            go_quiet (fail)
            go_wp2
            go_quiet (fail)
            go_wp2
            go_ret2
            first | exact ⟨rfl, fin3 _ _ _⟩ | exact ⟨rfl, fin4 _ _ _ _⟩ | exact ⟨rfl, fin0 _ _⟩
    · go_enter Tryd.func35, Tryd.ntmps35
      go_wp2_with fail
      refine (HA'.out _ (H.out.below ((Below.refl _ _).alloc (Nat.le_refl _) _))).mono ?_
      rintro e w1 ⟨rfl, m1, rfl⟩
      go_wp2
      go_ret2
      exact ⟨rfl, fin0 _ _⟩
  · have g1 : (k == 1) = false := by simpa using k1
    have g2 : (k == 2) = false := by simpa using k2
    have g3 : (k == 3) = false := by simpa using k3
    have g22 : (k == 22) = false := by simpa using k22
    have g23 : (k == 23) = false := by simpa using k23
    have g24 : (k == 24) = false := by simpa using k24
    unfold flowS StepPost
    rw [if_neg k1, if_neg k2, if_neg k3, if_neg k22, if_neg k23, if_neg k24]
    have HA := fun w h => numbers_any (X := X) (iv := iv) (s := s) (d := d) a b w h ha.1 ha.2 hb.1 hb.2
    have HA' := Lib.hid HA
    clear HA k1 k2 k3 k22 k23 k24 h24
    generalize regAt s a = u at *
    generalize regAt s b = v at *
    obtain ⟨x, c⟩ := u
    obtain ⟨y, c'⟩ := v
    simp only at *
    by_cases q : c = true ∨ c' = true
    · rw [if_pos q]
      have q' : (!c && !c') = false := by rcases q with q | q <;> simp [q]
      have Q := Lib.hid q'
      clear q q'
      go_enter Tryd.func35, Tryd.ntmps35
      go_wp2_with fail
      refine (HA'.out _ (H.out.below ((Below.refl _ _).alloc (Nat.le_refl _) _))).mono ?_
      rintro e w1 ⟨rfl, m1, rfl⟩
      rw [Q.out]
      go_wp2
      go_ret2
      exact ⟨rfl, fin0 _ _⟩
    · rw [if_neg q]
      have q' : (!c && !c') = true := by cases c <;> cases c' <;> simp at q ⊢
      have Q := Lib.hid q'
      clear q q'
      by_cases t : takenB k x y = true
      · rw [if_pos t]
        have T := Lib.hid t
        clear t
        have e1 : IntKind.i64.wrap (s.pc + n) = s.pc + n := by rw [IntKind.wrap_i64]; omega
        go_enter Tryd.func35, Tryd.ntmps35
        go_wp2_with fail
        refine (HA'.out _ (H.out.below ((Below.refl _ _).alloc (Nat.le_refl _) _))).mono ?_
        rintro e w1 ⟨rfl, m1, rfl⟩
        rw [Q.out]
        go_wp2_with fail
        refine (taken_any _ _ _ _).mono ?_
        rintro e w2 ⟨rfl, rfl⟩
        rw [T.out]
        go_wp2
        go_quiet (fail)
        go_wp2
        go_ret2
        exact ⟨rfl, fin3 _ _ _⟩
      · rw [if_neg t]
        rw [Bool.not_eq_true] at t
        have T := Lib.hid t
        clear t
        go_enter Tryd.func35, Tryd.ntmps35
        go_wp2_with fail
        refine (HA'.out _ (H.out.below ((Below.refl _ _).alloc (Nat.le_refl _) _))).mono ?_
        rintro e w1 ⟨rfl, m1, rfl⟩
        rw [Q.out]
        go_wp2_with fail
        refine (taken_any _ _ _ _).mono ?_
        rintro e w2 ⟨rfl, rfl⟩
        rw [T.out]
        go_wp2
        go_ret2
        exact ⟨rfl, fin0 _ _⟩
end Go.Proofs.YtgeljimckoodiaaDoor
