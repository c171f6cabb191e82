/- isa.Check, walked. -/
import Derived.Test.YtgeljimckoodiaaDoorIsaC
import Derived.BigGuardPart
import Derived.Deep.DeepCutAuto
import Derived.Lib.Hide
namespace Go.Proofs.YtgeljimckoodiaaDoor
open Go.RowKit
/-- an instruction as a value -/
def insA (k d a b n : Int) (l : Bool) : Array Value := #[.int .i64 k, .int .i64 d, .int .i64 a, .int .i64 b, .int .i64 n, .bool l]
set_option maxHeartbeats 4000000 in
set_option maxRecDepth 100000 in
theorem check_in (k d a b n : Int) (l : Bool) (w : World) (hT : Tabs w) (hb : 1 ≤ k ∧ k ≤ 24) : Calls Tryd.prog 47 #[.agg #[.int .i64 k, .int .i64 d, .int .i64 a, .int .i64 b, .int .i64 n, .bool l]] w fun e w' =>
    e = .returned (.int .i64 (if formBad k d a b n l then 4 else if !isReg d || !isReg a || !isReg b then 2 else if nOk k n l then 0 else 2)) ∧ Below w.heap.size w w' := by
  have ho : ∀ X, (w.alloc X).cell? ⟨0, k.toNat * 3, none⟩ = some (.int .u8 (opT k)) := fun X => (hT.alloc X).op k (by omega) (by omega)
  have hl : ∀ X, (w.alloc X).cell? ⟨0, k.toNat * 3 + 1, none⟩ = some (.int .u8 (longT k)) := fun X => (hT.alloc X).long k (by omega) (by omega)
  have hs : ∀ X, (w.alloc X).cell? ⟨0, k.toNat * 3 + 2, none⟩ = some (.int .i64 (shapeT k)) := fun X => (hT.alloc X).shape k (by omega) (by omega)
  have h1 : decide (k < 1) = false := by simp; omega
  have h2 : decide (24 < k) = false := by simp; omega
  generalize hR : (if formBad k d a b n l then (4 : Int) else if !isReg d || !isReg a || !isReg b then 2 else if nOk k n l then 0 else 2) = R
  have HR : Hid (_ = R) := hR
  clear hR
  go_enter Tryd.func47, Tryd.ntmps47
  go_upto_region 5 with (go_at_call 78; refine (operands_any _ _ _).mono ?_; rintro e w1 ⟨rfl, hb1⟩; obtain ⟨hc1, hf1⟩ := bcell hb1; have hz1 := hb1.size)
  clear ho hl hs
  have hB1 : Below w.heap.size w w1 := (((Below.refl _ _).alloc (Nat.le_refl _) _).alloc (by simp) _).trans (hb1.mono (by simp; omega))
  have g0 : w1.cell? ⟨w.heap.size, 0, none⟩ = some (.int .i64 k) := by rw [hc1 _ _ (by simp; omega)]; go_simp
  have g1 : w1.cell? ⟨w.heap.size, 1, none⟩ = some (.int .i64 d) := by rw [hc1 _ _ (by simp; omega)]; go_simp
  have g2 : w1.cell? ⟨w.heap.size, 2, none⟩ = some (.int .i64 a) := by rw [hc1 _ _ (by simp; omega)]; go_simp
  have g3 : w1.cell? ⟨w.heap.size, 3, none⟩ = some (.int .i64 b) := by rw [hc1 _ _ (by simp; omega)]; go_simp
  have g4 : w1.cell? ⟨w.heap.size, 4, none⟩ = some (.int .i64 n) := by rw [hc1 _ _ (by simp; omega)]; go_simp
  have g5 : w1.cell? ⟨w.heap.size, 5, none⟩ = some (.bool l) := by rw [hc1 _ _ (by simp; omega)]; go_simp
  have r1 : w1.cell? ⟨w.heap.size + 1, 1, none⟩ = some (.int .u8 (longT k)) := by rw [hc1 _ _ (by simp)]; go_simp
  have r2 : w1.cell? ⟨w.heap.size + 1, 2, none⟩ = some (.int .i64 (shapeT k)) := by rw [hc1 _ _ (by simp)]; go_simp
  clear hc1 hf1 hz1 hb1 hT h1 h2
  go_cut [0, 4, 5, 6, 7, 72] (fun _ _ _ _ _ s72 wx => s72 = .bool (formBad k d a b n l) ∧ w1 = wx)
  case first =>
    go_wp2
    all_goals
      go_meet
      case rel => exact ⟨by simp_all [formBad], rfl⟩
  case rest =>
    obtain ⟨rfl, rfl⟩ := hcut
    by_cases hf : formBad k d a b n l = true
    · rw [if_pos hf] at HR
      have hf1 := Lib.hid hf
      rw [hf]; clear hf
      go_wp2
      go_ret
      exact ⟨by rw [← HR.out]; rfl, hB1⟩
    · rw [if_neg hf] at HR
      rw [Bool.not_eq_true] at hf
      rw [hf]; clear hf
      go_upto_region 7 with fail
      go_cut [0, 4, 5, 6, 7, 88] (fun _ _ _ _ _ s88 wx => s88 = .bool (!isReg d || !isReg a || !isReg b) ∧ w1 = wx)
      case first =>
        go_wp2_with (first | (go_at_call 79; refine (reg_any _ _).mono ?_; rintro e w2 ⟨rfl, rfl⟩))
        all_goals
          go_meet
          case rel => exact ⟨by simp_all, rfl⟩
      case rest =>
        obtain ⟨rfl, rfl⟩ := hcut
        generalize hq : (!isReg d || !isReg a || !isReg b) = q at *
        clear hq
        cases q
        · rw [if_neg (by simp)] at HR
          go_upto_region 11 with fail
          go_cut [0, 4, 5, 6, 7, 92] (fun _ _ _ _ _ s92 wx => s92 = .bool (shapeT k == 2 || shapeT k == 10 || l) ∧ w1 = wx)
          case first =>
            go_wp2
            all_goals
              go_meet
              case rel => exact ⟨by simp_all, rfl⟩
          case rest =>
            obtain ⟨rfl, rfl⟩ := hcut
            unfold nOk at HR
            generalize hq : (shapeT k == 2 || shapeT k == 10 || l) = q at *
            clear hq
            have HS := HR
            clear HR
            go_wp2_with (first | (go_at_call 80; refine (far_any _ _).mono ?_; rintro e w2 ⟨rfl, rfl⟩) | (go_at_call 82; refine (near_any _ _).mono ?_; rintro e w2 ⟨rfl, rfl⟩) | (go_at_call 81; refine (inside_any _ _ _ _).mono ?_; rintro e w2 ⟨rfl, rfl⟩))
            all_goals
              go_ret
              refine ⟨?_, hB1⟩
              rw [← HS.out]
              simp_all
        · rw [if_pos rfl] at HR
          go_wp2
          go_ret
          exact ⟨by rw [← HR.out]; rfl, hB1⟩
theorem check_any (k d a b n : Int) (l : Bool) (w : World) (hT : Tabs w) : Calls Tryd.prog 47 #[.agg #[.int .i64 k, .int .i64 d, .int .i64 a, .int .i64 b, .int .i64 n, .bool l]] w fun e w' =>
    e = .returned (.int .i64 (chk k d a b n l)) ∧ Below w.heap.size w w' := by
  unfold chk
  by_cases h : k < 1 ∨ 24 < k
  · rw [if_pos h]
    have h' : (decide (k < 1) || decide (24 < k)) = true := by simpa using h
    go_enter Tryd.func47, Tryd.ntmps47
    by_cases h0 : k < 1
    · go_wp2
      go_ret
      exact ⟨rfl, (Below.refl _ _).alloc (Nat.le_refl _) _⟩
    · have h3 : 24 < k := by omega
      go_wp2
      go_ret
      exact ⟨rfl, (Below.refl _ _).alloc (Nat.le_refl _) _⟩
  · rw [if_neg h]
    exact check_in k d a b n l w hT (by omega)
end Go.Proofs.YtgeljimckoodiaaDoor
