/- slices.IndexFunc, ContainsFunc at numbers, with the closures of image.Check and image.name. slices.ContainsFunc at numbers, with the closure of step.Run. -/
import Derived.Test.YtcafhoobeggmeaaDoorAppG
import Derived.WalkLawsBesides
import Derived.Outline
namespace Go.Proofs.YtcafhoobeggmeaaDoor
open Go.RowKit
set_option maxRecDepth 100000 in
theorem idx_table (L : List Int) (p : Int → Bool) (A : Option Addr) (len cap : Nat) (bx : Nat) (w : World) (hR : RdG w w.heap.size A (intsV .i64 L)) (hl : len = L.length) (hm : len ≤ 140737488355328)
 (hp : ∀ x ∈ L, Calls Tryd.prog 75 #[.int .i64 x, .pointer (some ⟨bx, 0, none⟩)] w fun e w' => e = .returned (.bool (p x)) ∧ w = w') :
 Calls Tryd.prog 108 #[.slice A len cap, .func (.func 75) #[] #[.pointer (some ⟨bx, 0, none⟩)]] w fun e w' => e = .returned (.int .i64 (idxP p L)) ∧ w = w' := by
 have HR := hd' hR; have HP := hd' hp; have HL := hd' hl; clear hR hp hl
 go_enter Tryd.func108, Tryd.ntmps108
 go_wp2
 go_loop [8] (fun i => ∃ k : Nat, k ≤ len ∧ i = .int .i64 k ∧ Hid (∀ (j : Nat) (y : Int), j < k → L[j]? = some y → p y = false)) (fun i => len - (intOf i).toNat)
 case atStart => exact ⟨0, Nat.zero_le _, rfl, fun j y h => absurd h (Nat.not_lt_zero _)⟩
 case round =>
  obtain ⟨k, hk, rfl, hno⟩ := hrel
  by_cases hlt : k < len
  · have hx : L[k]? = some (L[k]'(by have := HL.out; omega)) := gE' _; obtain ⟨x, hxx⟩ := ex' (L[k]'(by have := HL.out; omega))
    rw [hxx] at hx; have hpx := HP.out x (mG' hx); obtain ⟨b, o, rfl, hb, hc⟩ := HR.out.at (intsV_at .i64 hx); have HX := hd' hx; have HPX := hd' hpx; clear hx hxx hpx
    go_wp2_with fail
    refine (HPX.out).mono ?_; rintro e w2 ⟨rfl, rfl⟩
    by_cases hpp : p x = true
    · have hres := idxP_at p L k x HX.out hpp hno.out; have HRS := hd' hres; rw [hpp]; clear hres hpp
      go_wp2
      go_ret
      exact ⟨by rw [HRS.out]; rfl, rfl⟩
    · rw [Bool.not_eq_true] at hpp; have HPP := hd' hpp; rw [hpp]; clear hpp
      go_wp2
      go_round
      case rel =>
       refine ⟨k + 1, by omega, by go_num, fun j y hj hy => ?_⟩; rcases Nat.lt_or_ge j k with h | h
       · exact hno.out j y h hy
       · obtain rfl : j = k := by omega
         have := HX.out; rw [this] at hy
         cases hy
         exact HPP.out
      case measure => simp [intOf]; omega
  · obtain rfl : k = len := by omega
    have hres := idxP_none p L fun x hx => by
     obtain ⟨j, hj⟩ := List.getElem?_of_mem hx; exact hno.out j x (by have := (List.getElem?_eq_some_iff.1 hj).1; have := HL.out; omega) hj
    have HRS := hd' hres; clear hres hlt
    go_wp2
    go_ret
    exact ⟨by rw [HRS.out]; rfl, rfl⟩
theorem cf_table (L : List Int) (p : Int → Bool) (A : Option Addr) (len cap : Nat) (bx : Nat) (w : World) (hR : RdG w w.heap.size A (intsV .i64 L)) (hl : len = L.length) (hm : len ≤ 140737488355328)
 (hp : ∀ x ∈ L, Calls Tryd.prog 75 #[.int .i64 x, .pointer (some ⟨bx, 0, none⟩)] w fun e w' => e = .returned (.bool (p x)) ∧ w = w') :
 Calls Tryd.prog 74 #[.slice A len cap, .func (.func 75) #[] #[.pointer (some ⟨bx, 0, none⟩)]] w fun e w' => e = .returned (.bool (L.any p)) ∧ w = w' := by
 have ha := idxP_any p L; have hge := idxP_ge p L; have H := hd' (idx_table L p A len cap bx w hR hl hm hp); clear hR hp hl; rw [← ha]; generalize idxP p L = r at *; clear ha
 go_enter Tryd.func74, Tryd.ntmps74
 go_wp2_with fail
 refine H.out.mono ?_; rintro e w2 ⟨rfl, rfl⟩
 go_wp2
 go_ret
 exact ⟨rfl, rfl⟩
set_option maxRecDepth 100000 in
theorem idx_data (L : List Int) (p : Int → Bool) (A : Option Addr) (len cap : Nat) (w : World) (hR : RdG w w.heap.size A (intsV .i64 L)) (hl : len = L.length) (hm : len ≤ 140737488355328)
 (hp : ∀ x ∈ L, Calls Tryd.prog 76 #[.int .i64 x] w fun e w' => e = .returned (.bool (p x)) ∧ w = w') :
 Calls Tryd.prog 108 #[.slice A len cap, .func (.func 76) #[] #[]] w fun e w' => e = .returned (.int .i64 (idxP p L)) ∧ w = w' := by
 have HR := hd' hR; have HP := hd' hp; have HL := hd' hl; clear hR hp hl
 go_enter Tryd.func108, Tryd.ntmps108
 go_wp2
 go_loop [8] (fun i => ∃ k : Nat, k ≤ len ∧ i = .int .i64 k ∧ Hid (∀ (j : Nat) (y : Int), j < k → L[j]? = some y → p y = false)) (fun i => len - (intOf i).toNat)
 case atStart => exact ⟨0, Nat.zero_le _, rfl, fun j y h => absurd h (Nat.not_lt_zero _)⟩
 case round =>
  obtain ⟨k, hk, rfl, hno⟩ := hrel
  by_cases hlt : k < len
  · have hx : L[k]? = some (L[k]'(by have := HL.out; omega)) := gE' _; obtain ⟨x, hxx⟩ := ex' (L[k]'(by have := HL.out; omega))
    rw [hxx] at hx; have hpx := HP.out x (mG' hx); obtain ⟨b, o, rfl, hb, hc⟩ := HR.out.at (intsV_at .i64 hx); have HX := hd' hx; have HPX := hd' hpx; clear hx hxx hpx
    go_wp2_with fail
    refine (HPX.out).mono ?_; rintro e w2 ⟨rfl, rfl⟩
    by_cases hpp : p x = true
    · have hres := idxP_at p L k x HX.out hpp hno.out; have HRS := hd' hres; rw [hpp]; clear hres hpp
      go_wp2
      go_ret
      exact ⟨by rw [HRS.out]; rfl, rfl⟩
    · rw [Bool.not_eq_true] at hpp; have HPP := hd' hpp; rw [hpp]; clear hpp
      go_wp2
      go_round
      case rel =>
       refine ⟨k + 1, by omega, by go_num, fun j y hj hy => ?_⟩; rcases Nat.lt_or_ge j k with h | h
       · exact hno.out j y h hy
       · obtain rfl : j = k := by omega
         have := HX.out; rw [this] at hy
         cases hy
         exact HPP.out
      case measure => simp [intOf]; omega
  · obtain rfl : k = len := by omega
    have hres := idxP_none p L fun x hx => by
     obtain ⟨j, hj⟩ := List.getElem?_of_mem hx; exact hno.out j x (by have := (List.getElem?_eq_some_iff.1 hj).1; have := HL.out; omega) hj
    have HRS := hd' hres; clear hres hlt
    go_wp2
    go_ret
    exact ⟨by rw [HRS.out]; rfl, rfl⟩
theorem cf_data (L : List Int) (p : Int → Bool) (A : Option Addr) (len cap : Nat) (w : World) (hR : RdG w w.heap.size A (intsV .i64 L)) (hl : len = L.length) (hm : len ≤ 140737488355328)
 (hp : ∀ x ∈ L, Calls Tryd.prog 76 #[.int .i64 x] w fun e w' => e = .returned (.bool (p x)) ∧ w = w') :
 Calls Tryd.prog 74 #[.slice A len cap, .func (.func 76) #[] #[]] w fun e w' => e = .returned (.bool (L.any p)) ∧ w = w' := by
 have ha := idxP_any p L; have hge := idxP_ge p L; have H := hd' (idx_data L p A len cap w hR hl hm hp); clear hR hp hl; rw [← ha]; generalize idxP p L = r at *; clear ha
 go_enter Tryd.func74, Tryd.ntmps74
 go_wp2_with fail
 refine H.out.mono ?_; rintro e w2 ⟨rfl, rfl⟩
 go_wp2
 go_ret
 exact ⟨rfl, rfl⟩
set_option maxRecDepth 100000 in
theorem idx_name (L : List Int) (p : Int → Bool) (A : Option Addr) (len cap : Nat) (w : World) (hR : RdG w w.heap.size A (intsV .u8 L)) (hl : len = L.length) (hm : len ≤ 140737488355328)
 (hp : ∀ x ∈ L, Calls Tryd.prog 129 #[.int .u8 x] w fun e w' => e = .returned (.bool (p x)) ∧ w = w') :
 Calls Tryd.prog 137 #[.slice A len cap, .func (.func 129) #[] #[]] w fun e w' => e = .returned (.int .i64 (idxP p L)) ∧ w = w' := by
 have HR := hd' hR; have HP := hd' hp; have HL := hd' hl; clear hR hp hl
 go_enter Tryd.func137, Tryd.ntmps137
 go_wp2
 go_loop [8] (fun i => ∃ k : Nat, k ≤ len ∧ i = .int .i64 k ∧ Hid (∀ (j : Nat) (y : Int), j < k → L[j]? = some y → p y = false)) (fun i => len - (intOf i).toNat)
 case atStart => exact ⟨0, Nat.zero_le _, rfl, fun j y h => absurd h (Nat.not_lt_zero _)⟩
 case round =>
  obtain ⟨k, hk, rfl, hno⟩ := hrel
  by_cases hlt : k < len
  · have hx : L[k]? = some (L[k]'(by have := HL.out; omega)) := gE' _; obtain ⟨x, hxx⟩ := ex' (L[k]'(by have := HL.out; omega))
    rw [hxx] at hx; have hpx := HP.out x (mG' hx); obtain ⟨b, o, rfl, hb, hc⟩ := HR.out.at (intsV_at .u8 hx); have HX := hd' hx; have HPX := hd' hpx; clear hx hxx hpx
    go_wp2_with fail
    refine (HPX.out).mono ?_; rintro e w2 ⟨rfl, rfl⟩
    by_cases hpp : p x = true
    · have hres := idxP_at p L k x HX.out hpp hno.out; have HRS := hd' hres; rw [hpp]; clear hres hpp
      go_wp2
      go_ret
      exact ⟨by rw [HRS.out]; rfl, rfl⟩
    · rw [Bool.not_eq_true] at hpp; have HPP := hd' hpp; rw [hpp]; clear hpp
      go_wp2
      go_round
      case rel =>
       refine ⟨k + 1, by omega, by go_num, fun j y hj hy => ?_⟩; rcases Nat.lt_or_ge j k with h | h
       · exact hno.out j y h hy
       · obtain rfl : j = k := by omega
         have := HX.out; rw [this] at hy
         cases hy
         exact HPP.out
      case measure => simp [intOf]; omega
  · obtain rfl : k = len := by omega
    have hres := idxP_none p L fun x hx => by
     obtain ⟨j, hj⟩ := List.getElem?_of_mem hx; exact hno.out j x (by have := (List.getElem?_eq_some_iff.1 hj).1; have := HL.out; omega) hj
    have HRS := hd' hres; clear hres hlt
    go_wp2
    go_ret
    exact ⟨by rw [HRS.out]; rfl, rfl⟩
theorem cf_name (L : List Int) (p : Int → Bool) (A : Option Addr) (len cap : Nat) (w : World) (hR : RdG w w.heap.size A (intsV .u8 L)) (hl : len = L.length) (hm : len ≤ 140737488355328)
 (hp : ∀ x ∈ L, Calls Tryd.prog 129 #[.int .u8 x] w fun e w' => e = .returned (.bool (p x)) ∧ w = w') :
 Calls Tryd.prog 128 #[.slice A len cap, .func (.func 129) #[] #[]] w fun e w' => e = .returned (.bool (L.any p)) ∧ w = w' := by
 have ha := idxP_any p L; have hge := idxP_ge p L; have H := hd' (idx_name L p A len cap w hR hl hm hp); clear hR hp hl; rw [← ha]; generalize idxP p L = r at *; clear ha
 go_enter Tryd.func128, Tryd.ntmps128
 go_wp2_with fail
 refine H.out.mono ?_; rintro e w2 ⟨rfl, rfl⟩
 go_wp2
 go_ret
 exact ⟨rfl, rfl⟩
end Go.Proofs.YtcafhoobeggmeaaDoor
