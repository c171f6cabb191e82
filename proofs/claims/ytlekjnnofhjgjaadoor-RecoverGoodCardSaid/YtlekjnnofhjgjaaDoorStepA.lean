/- step: fold, product, taken, flows, arithmetic, walked. step.arithmetic, walked. -/
import Derived.Test.YtlekjnnofhjgjaaDoorStepP
import Derived.WalkLawsBesides
import Derived.Outline
namespace Go.Proofs.YtlekjnnofhjgjaaDoor
open Go.RowKit
theorem fold_any (n : Int) (h1 : -4611686018427387904 ≤ n) (h2 : n ≤ 4611686018427387904) (w : World) : Calls Tryd.prog 68 #[.int .i64 n] w fun e w' => e = .returned (.int .i64 (bal n)) ∧ w = w' := by
  obtain ⟨r, hr⟩ : ∃ r, bal n = r := ⟨_, rfl⟩
  rw [hr]
  by_cases h : 0 ≤ n + 1099511627776
  · have hb : (n + 1099511627776) % 2199023255553 - 1099511627776 = r := hr
    have HR := Lib.hid hb
    clear hr hb
    go_enter Tryd.func68, Tryd.ntmps68
    go_wp2
    go_ret
    exact ⟨by rw [← HR.out]; rfl, rfl⟩
  · have h : n + 1099511627776 < 0 := by omega
    obtain ⟨T, hT⟩ : ∃ T, (n + 1099511627776).tmod 2199023255553 = T := ⟨_, rfl⟩
    have hT2 : T = -((-(n + 1099511627776)) % 2199023255553) := by
      rw [← hT, ← Int.tmod_eq_emod_of_nonneg (by omega), Int.neg_tmod, Int.neg_neg]
    have hb : (n + 1099511627776) % 2199023255553 - 1099511627776 = r := hr
    by_cases h0 : T < 0
    · have hr2 : T + 2199023255553 - 1099511627776 = r := by omega
      have HR := Lib.hid hr2
      have t1 : -2199023255553 < T := by omega
      clear hr hb hr2 hT2
      go_enter Tryd.func68, Tryd.ntmps68
      go_wp2
      go_ret
      exact ⟨by rw [← HR.out]; rfl, rfl⟩
    · have hr2 : T - 1099511627776 = r := by omega
      have HR := Lib.hid hr2
      have t1 : T ≤ 0 := by omega
      clear hr hb hr2 hT2
      go_enter Tryd.func68, Tryd.ntmps68
      go_wp2
      go_ret
      exact ⟨by rw [← HR.out]; rfl, rfl⟩
/-- is a branch taken? -/
def takenB (k a b : Int) : Bool := if k = 18 then a == b else if k = 19 then a != b else if k = 20 then decide (a < b) else decide (b ≤ a)
theorem taken_any (k a b : Int) (w : World) : Calls Tryd.prog 67 #[.int .i64 k, .int .i64 a, .int .i64 b] w fun e w' => e = .returned (.bool (takenB k a b)) ∧ w = w' := by
  obtain ⟨r, hr⟩ : ∃ r, takenB k a b = r := ⟨_, rfl⟩
  rw [hr]
  have HR := Lib.hid hr
  clear hr
  by_cases h1 : k = 18
  · subst h1
    go_enter Tryd.func67, Tryd.ntmps67
    go_wp2
    go_ret
    exact ⟨by rw [← HR.out]; rfl, rfl⟩
  · by_cases h2 : k = 19
    · subst h2
      go_enter Tryd.func67, Tryd.ntmps67
      go_wp2
      go_ret
      exact ⟨by rw [← HR.out]; rfl, rfl⟩
    · by_cases h3 : k = 20
      · subst h3
        go_enter Tryd.func67, Tryd.ntmps67
        go_wp2
        go_ret
        exact ⟨by rw [← HR.out]; rfl, rfl⟩
      · have e : takenB k a b = decide (b ≤ a) := by unfold takenB; rw [if_neg h1, if_neg h2, if_neg h3]
        have E := Lib.hid e
        have g1 : (k == 18) = false := by simpa using h1
        have g2 : (k == 19) = false := by simpa using h2
        have g3 : (k == 20) = false := by simpa using h3
        clear e h1 h2 h3
        go_enter Tryd.func67, Tryd.ntmps67
        go_wp2
        go_ret
        exact ⟨by rw [← HR.out, E.out]; rfl, rfl⟩
/-- does an instruction say where it goes on? -/
def flowsB (k : Int) : Bool := decide (k ≤ 3) || decide (18 ≤ k)
theorem flows_any (k d a b n : Int) (l : Bool) (w : World) : Calls Tryd.prog 37 #[.agg #[.int .i64 k, .int .i64 d, .int .i64 a, .int .i64 b, .int .i64 n, .bool l]] w fun e w' => e = .returned (.bool (flowsB k)) ∧ Below w.heap.size w w' := by
  obtain ⟨r, hr⟩ : ∃ r, flowsB k = r := ⟨_, rfl⟩
  rw [hr]
  have HR := Lib.hid hr
  clear hr
  have hfin : ∀ X, Below w.heap.size w (w.alloc X) := fun X => (Below.refl _ _).alloc (Nat.le_refl _) _
  by_cases h : k ≤ 3
  · go_enter Tryd.func37, Tryd.ntmps37
    go_wp2
    go_ret
    exact ⟨by rw [← HR.out]; simp [flowsB, h], hfin _⟩
  · go_enter Tryd.func37, Tryd.ntmps37
    go_wp2
    go_ret
    exact ⟨by rw [← HR.out]; simp [flowsB]; omega, hfin _⟩
theorem turn_odd (o x y a B t D k1 k2 : Int) (h : o + x * y = a * B + 2199023255553 * t) (hy : y = 2 * D + 1) : (o + x + 2199023255553 * k1) + (x + x + 2199023255553 * k2) * D = a * B + 2199023255553 * (t + k1 + k2 * D) := by
  subst hy
  grind
theorem turn_even (o x y a B t D k2 : Int) (h : o + x * y = a * B + 2199023255553 * t) (hy : y = 2 * D) : o + (x + x + 2199023255553 * k2) * D = a * B + 2199023255553 * (t + k2 * D) := by
  subst hy
  grind
set_option maxHeartbeats 2000000 in
theorem product_any (a b : Int) (ha : N41 a) (hb : N41 b) (w : World) : Calls Tryd.prog 96 #[.int .i64 a, .int .i64 b] w fun e w' => e = .returned (.int .i64 (bal (a * b))) ∧ w = w' := by
  obtain ⟨a1, a2⟩ := ha
  obtain ⟨b1, b2⟩ := hb
  obtain ⟨s, hs⟩ : ∃ s, decide (b < 0) = s := ⟨_, rfl⟩
  obtain ⟨B, hB⟩ : ∃ B : Int, B = if s then -b else b := ⟨_, rfl⟩
  have hB0 : 0 ≤ B := by rw [hB]; cases s <;> simp at hs ⊢ <;> omega
  have HBs := Lib.hid hB
  clear hB
  obtain ⟨R, hR⟩ : ∃ R, bal (a * b) = R := ⟨_, rfl⟩
  rw [hR]
  have HR := Lib.hid hR
  have HS := Lib.hid hs
  clear hR
  go_enter Tryd.func96, Tryd.ntmps96
  go_wp2
  clear hs
  go_loop [0, 1, 5] (fun v0 v1 v5 => ∃ (x y o : Int), v0 = .int .i64 x ∧ v1 = .int .i64 y ∧ v5 = .int .i64 o ∧ -1099511627776 ≤ x ∧ x ≤ 1099511627776 ∧ -1099511627776 ≤ o ∧ o ≤ 1099511627776 ∧ -1099511627776 ≤ y ∧ y ≤ 1099511627776 ∧ (if s then y ≤ 0 else 0 ≤ y) ∧
    Hid (∃ t : Int, o + x * (if s then -y else y) = a * B + 2199023255553 * t)) (fun _ v1 _ => (intOf v1).natAbs)
  case atStart => exact ⟨a, b, 0, rfl, rfl, rfl, a1, a2, by decide, by decide, b1, b2, by have := HS.out; cases s <;> simp at this ⊢ <;> omega, ⟨0, by rw [HBs.out]; cases s <;> simp⟩⟩
  case round =>
    obtain ⟨x, y, o, rfl, rfl, rfl, x1, x2, o1, o2, y1, y2, hsy, hinv⟩ := hrel
    obtain ⟨kx, hkx⟩ := bal_turn (x + x)
    obtain ⟨ko, hko⟩ := bal_turn (o + x)
    obtain ⟨bx1, bx2⟩ := bal_bd (x + x)
    obtain ⟨bo1, bo2⟩ := bal_bd (o + x)
    have KX := Lib.hid hkx
    have KO := Lib.hid hko
    clear hkx hko
    cases s
    · simp only [Bool.false_eq_true, if_false] at hsy
      have hi : ∃ t : Int, o + x * y = a * B + 2199023255553 * t := by simpa using hinv.out
      have hbB : B = b := by simpa using HBs.out
      by_cases hy0 : y = 0
      · have hres : o = R := by
          obtain ⟨t, ht⟩ := hi
          rw [← HR.out, ← hbB]
          exact bal_of ⟨o1, o2⟩ (by rw [hy0] at ht; simpa using ht)
        have HRES := Lib.hid hres
        subst hy0
        clear hres hi hinv hbB
        go_wp2
        go_ret
        exact ⟨by rw [← HRES.out]; rfl, rfl⟩
      · have hyn : (y != 0) = true := by simpa using hy0
        obtain ⟨D, hD⟩ : ∃ D, y / 2 = D := ⟨_, rfl⟩
        have HI := Lib.hid hi
        by_cases hm : y % 2 = 1
        · have hD2 : y = 2 * D + 1 := by omega
          have d1 : 0 ≤ D := by omega
          have d2 : D < y := by omega
          have HDD := Lib.hid hD2
          clear hi hinv hbB hy0 hD2
          go_wp2_with (first | (go_at_call 68; refine (fold_any _ (by omega) (by omega) _).mono ?_; rintro e w3 ⟨rfl, rfl⟩))
          go_round
          case rel => exact ⟨_, D, _, rfl, by rw [hD], rfl, bx1, bx2, bo1, bo2, by omega, by omega, by simpa using d1, by obtain ⟨t, ht⟩ := HI.out; exact ⟨_, by rw [KO.out, KX.out]; simpa using turn_odd o x y a B t D ko kx ht HDD.out⟩⟩
          case measure => simp [intOf]; omega
        · have hm : y % 2 = 0 := by omega
          have hD2 : y = 2 * D := by omega
          have d1 : 0 ≤ D := by omega
          have d2 : D < y := by omega
          have HDD := Lib.hid hD2
          clear hi hinv hbB hy0 hD2
          go_wp2_with (first | (go_at_call 68; refine (fold_any _ (by omega) (by omega) _).mono ?_; rintro e w3 ⟨rfl, rfl⟩))
          go_round
          case rel => exact ⟨_, D, _, rfl, by rw [hD], rfl, bx1, bx2, o1, o2, by omega, by omega, by simpa using d1, by obtain ⟨t, ht⟩ := HI.out; exact ⟨_, by rw [KX.out]; simpa using turn_even o x y a B t D kx ht HDD.out⟩⟩
          case measure => simp [intOf]; omega
    · simp only [if_true] at hsy
      have hi : ∃ t : Int, o + x * (-y) = a * B + 2199023255553 * t := by simpa using hinv.out
      have hbB : B = -b := by simpa using HBs.out
      by_cases hy0 : y = 0
      · have hres : -o = R := by
          obtain ⟨t, ht⟩ := hi
          rw [← HR.out, show a * b = -(a * B) by rw [hbB]; grind]
          exact bal_neg ⟨o1, o2⟩ (by rw [hy0] at ht; simpa using ht)
        have HRES := Lib.hid hres
        subst hy0
        clear hres hi hinv hbB
        go_wp2
        go_ret
        exact ⟨by rw [← HRES.out]; rfl, rfl⟩
      · have hyn : (y != 0) = true := by simpa using hy0
        obtain ⟨D, hD⟩ : ∃ D, y.tdiv 2 = D := ⟨_, rfl⟩
        have hDe : D = -((-y) / 2) := by rw [← hD, ← Int.tdiv_eq_ediv_of_nonneg (by omega), Int.neg_tdiv, Int.neg_neg]
        have hmt : y.tmod 2 = -((-y) % 2) := by rw [← Int.tmod_eq_emod_of_nonneg (by omega), Int.neg_tmod, Int.neg_neg]
        have HI := Lib.hid hi
        by_cases hm : (-y) % 2 = 1
        · have hD2 : -y = 2 * (-D) + 1 := by omega
          have hm2 : y.tmod 2 = -1 := by rw [hmt, hm]
          have d1 : D ≤ 0 := by omega
          have d2 : y < D := by omega
          have HDD := Lib.hid hD2
          clear hi hinv hbB hy0 hD2 hDe hmt hm
          go_wp2_with (first | (go_at_call 68; refine (fold_any _ (by omega) (by omega) _).mono ?_; rintro e w3 ⟨rfl, rfl⟩))
          go_round
          case rel => exact ⟨_, D, _, rfl, rfl, rfl, bx1, bx2, bo1, bo2, by omega, by omega, by simpa using d1, by obtain ⟨t, ht⟩ := HI.out; exact ⟨_, by rw [KO.out, KX.out]; simpa using turn_odd o x (-y) a B t (-D) ko kx ht HDD.out⟩⟩
          case measure => simp [intOf]; omega
        · have hD2 : -y = 2 * (-D) := by omega
          have hm2 : y.tmod 2 = 0 := by rw [hmt]; omega
          have d1 : D ≤ 0 := by omega
          have d2 : y < D := by omega
          have HDD := Lib.hid hD2
          clear hi hinv hbB hy0 hD2 hDe hmt hm
          go_wp2_with (first | (go_at_call 68; refine (fold_any _ (by omega) (by omega) _).mono ?_; rintro e w3 ⟨rfl, rfl⟩))
          go_round
          case rel => exact ⟨_, D, _, rfl, rfl, rfl, bx1, bx2, o1, o2, by omega, by omega, by simpa using d1, by obtain ⟨t, ht⟩ := HI.out; exact ⟨_, by rw [KX.out]; simpa using turn_even o x (-y) a B t (-D) kx ht HDD.out⟩⟩
          case measure => simp [intOf]; omega
/-- what an operation on two numbers gives -/
def arithN (k a b : Int) : Int :=
  if k = 7 then bal (a + b) else if k = 8 then bal (a - b) else if k = 9 then bal (a * b) else if k = 10 then bal (bits BinOp.and .i64 a b) else if k = 11 then bal (bits BinOp.or .i64 a b) else if k = 12 then bal (bits BinOp.xor .i64 a b)
  else if a < b then 1 else 0
theorem arithN_bd (k a b : Int) : N41 (arithN k a b) := by
  unfold arithN
  repeat' split
  all_goals first | exact bal_bd _ | (unfold N41; omega)
end Go.Proofs.YtlekjnnofhjgjaaDoor
namespace Go.Proofs.YtlekjnnofhjgjaaDoor
open Go.RowKit
set_option maxHeartbeats 1000000 in
theorem arith_any (k a b : Int) (ha : N41 a) (hb : N41 b) (w : World) : Calls Tryd.prog 70 #[.int .i64 k, .int .i64 a, .int .i64 b] w fun e w' => e = .returned (.int .i64 (arithN k a b)) ∧ w = w' := by
  have hab := ha
  have hbb := hb
  obtain ⟨a1, a2⟩ := ha
  obtain ⟨b1, b2⟩ := hb
  have sa : small41 a := ⟨by omega, by omega⟩
  have sb : small41 b := ⟨by omega, by omega⟩
  obtain ⟨q1, q2⟩ := bits_bd .and (.inl rfl) a b sa sb
  obtain ⟨q3, q4⟩ := bits_bd .or (.inr (.inl rfl)) a b sa sb
  obtain ⟨q5, q6⟩ := bits_bd .xor (.inr (.inr rfl)) a b sa sb
  obtain ⟨r, hr⟩ : ∃ r, arithN k a b = r := ⟨_, rfl⟩
  rw [hr]
  have HR := Lib.hid hr
  have HA := Lib.hid hab
  have HB := Lib.hid hbb
  clear hr hab hbb sa sb
  rcases Classical.em (k = 7) with h7 | h7
  · subst h7
    have e : arithN 7 a b = bal (a + b) := rfl
    have E := Lib.hid e
    clear e
    go_enter Tryd.func70, Tryd.ntmps70
    go_wp2_with (first | (go_at_call 68; refine (fold_any _ (by omega) (by omega) _).mono ?_; rintro e w3 ⟨rfl, rfl⟩))
    go_ret
    exact ⟨by rw [← HR.out, E.out]; rfl, rfl⟩
  · rcases Classical.em (k = 8) with h8 | h8
    · subst h8
      have e : arithN 8 a b = bal (a - b) := rfl
      have E := Lib.hid e
      clear e
      go_enter Tryd.func70, Tryd.ntmps70
      go_wp2_with (first | (go_at_call 68; refine (fold_any _ (by omega) (by omega) _).mono ?_; rintro e w3 ⟨rfl, rfl⟩))
      go_ret
      exact ⟨by rw [← HR.out, E.out]; rfl, rfl⟩
    · rcases Classical.em (k = 9) with h9 | h9
      · subst h9
        have e : arithN 9 a b = bal (a * b) := rfl
        have E := Lib.hid e
        clear e
        go_enter Tryd.func70, Tryd.ntmps70
        go_wp2_with (first | (go_at_call 96; refine (product_any _ _ HA.out HB.out _).mono ?_; rintro e w3 ⟨rfl, rfl⟩))
        go_ret
        exact ⟨by rw [← HR.out, E.out]; rfl, rfl⟩
      · rcases Classical.em (k = 10) with h10 | h10
        · subst h10
          have e : arithN 10 a b = bal (bits BinOp.and .i64 a b) := rfl
          have E := Lib.hid e
          clear e
          go_enter Tryd.func70, Tryd.ntmps70
          go_wp2_with (first | (go_at_call 68; refine (fold_any _ (by omega) (by omega) _).mono ?_; rintro e w3 ⟨rfl, rfl⟩))
          go_ret
          exact ⟨by rw [← HR.out, E.out]; rfl, rfl⟩
        · rcases Classical.em (k = 11) with h11 | h11
          · subst h11
            have e : arithN 11 a b = bal (bits BinOp.or .i64 a b) := rfl
            have E := Lib.hid e
            clear e
            go_enter Tryd.func70, Tryd.ntmps70
            go_wp2_with (first | (go_at_call 68; refine (fold_any _ (by omega) (by omega) _).mono ?_; rintro e w3 ⟨rfl, rfl⟩))
            go_ret
            exact ⟨by rw [← HR.out, E.out]; rfl, rfl⟩
          · rcases Classical.em (k = 12) with h12 | h12
            · subst h12
              have e : arithN 12 a b = bal (bits BinOp.xor .i64 a b) := rfl
              have E := Lib.hid e
              clear e
              go_enter Tryd.func70, Tryd.ntmps70
              go_wp2_with (first | (go_at_call 68; refine (fold_any _ (by omega) (by omega) _).mono ?_; rintro e w3 ⟨rfl, rfl⟩))
              go_ret
              exact ⟨by rw [← HR.out, E.out]; rfl, rfl⟩
            · have e : arithN k a b = if a < b then 1 else 0 := by unfold arithN; rw [if_neg h7, if_neg h8, if_neg h9, if_neg h10, if_neg h11, if_neg h12]
              have E := Lib.hid e
              have g7 : (k == 7) = false := by simpa using h7
              have g8 : (k == 8) = false := by simpa using h8
              have g9 : (k == 9) = false := by simpa using h9
              have g10 : (k == 10) = false := by simpa using h10
              have g11 : (k == 11) = false := by simpa using h11
              have g12 : (k == 12) = false := by simpa using h12
              clear e h7 h8 h9 h10 h11 h12
              by_cases hlt : a < b
              · have e2 : (if a < b then (1 : Int) else 0) = 1 := if_pos hlt
                have E2 := Lib.hid e2
                clear e2
                go_enter Tryd.func70, Tryd.ntmps70
                go_wp2
                go_ret
                exact ⟨by rw [← HR.out, E.out, E2.out]; rfl, rfl⟩
              · have e2 : (if a < b then (1 : Int) else 0) = 0 := if_neg hlt
                have E2 := Lib.hid e2
                clear e2
                go_enter Tryd.func70, Tryd.ntmps70
                go_wp2
                go_ret
                exact ⟨by rw [← HR.out, E.out, E2.out]; rfl, rfl⟩
end Go.Proofs.YtlekjnnofhjgjaaDoor
