/- isa: nibbles, two, the closure that reads a number, Size. -/
import Derived.Test.YtgeljimckoodiaaDoorIsaD
namespace Go.Proofs.YtgeljimckoodiaaDoor
open Go.RowKit
/-- an instruction -/
structure Ins where
  k : Int
  d : Int
  a : Int
  b : Int
  n : Int
  l : Bool
def Ins.zero : Ins := ⟨0, 0, 0, 0, 0, false⟩
def Ins.cells (i : Ins) : Array Value := #[.int .i64 i.k, .int .i64 i.d, .int .i64 i.a, .int .i64 i.b, .int .i64 i.n, .bool i.l]
def Ins.chk (i : Ins) : Int := Proofs.YtgeljimckoodiaaDoor.chk i.k i.d i.a i.b i.n i.l
theorem nib_bits (x y : Int) (h1 : 0 ≤ x) (h2 : x < 8) (h3 : 0 ≤ y) (h4 : y < 8) : bits BinOp.or IntKind.i64 (x * 16) y % 256 = x * 16 + y := by
  have h : ∀ x : Fin 8, ∀ y : Fin 8, bits BinOp.or IntKind.i64 ((x.val : Int) * 16) (y.val : Int) % 256 = (x.val : Int) * 16 + (y.val : Int) := by decide +kernel
  have := h ⟨x.toNat, by omega⟩ ⟨y.toNat, by omega⟩
  simpa [Int.toNat_of_nonneg h1, Int.toNat_of_nonneg h3] using this
theorem nibbles_any (x y : Int) (w : World) (h1 : 0 ≤ x) (h2 : x < 8) (h3 : 0 ≤ y) (h4 : y < 8) :
    Calls Tryd.prog 49 #[.int .i64 x, .int .i64 y] w fun e w' => e = .returned (.int .u8 (x * 16 + y)) ∧ w = w' := by
  have hn := Lib.hid (nib_bits x y h1 h2 h3 h4)
  go_enter Tryd.func49, Tryd.ntmps49
  go_wp2
  go_ret
  refine ⟨?_, rfl⟩
  rw [← hn.out]
  rfl
theorem two_any (x : Int) (w : World) : Calls Tryd.prog 48 #[.int .i64 x] w fun e w' =>
    e = .returned (.slice (some ⟨w.heap.size, 0, none⟩) 2 2) ∧ w' = w.alloc (.cells #[.int .u8 (x % 256), .int .u8 (x / 256 % 256)] 5) := by
  go_enter Tryd.func48, Tryd.ntmps48
  go_wp2
  go_ret
  exact ⟨rfl, rfl⟩
/-- one byte, two bytes, as a number with a sign -/
def num1 (b : Int) : Int := if b < 128 then b else b - 256
def num2 (b c : Int) : Int := if c < 128 then b + 256 * c else b + 256 * c - 65536
theorem num1_eq (b : Int) (h1 : 0 ≤ b) (h2 : b < 256) : wrap64 (IntKind.i8.wrap b) = num1 b := by
  have h : ∀ b : Fin 256, wrap64 (IntKind.i8.wrap (b.val : Int)) = num1 (b.val : Int) := by decide +kernel
  have := h ⟨b.toNat, by omega⟩
  simpa [Int.toNat_of_nonneg h1] using this
theorem num1_any (b : Int) (cp : Nat) (p : Addr) (w : World) (hp : w.cell? p = some (.int .u8 b)) (hb : 0 ≤ b) (hb' : b < 256) :
    Calls Tryd.prog 56 #[.slice (some p) 1 cp] w fun e w' => e = .returned (.int .i64 (num1 b)) ∧ w = w' := by
  have hn := Lib.hid (num1_eq b hb hb')
  go_enter Tryd.func56, Tryd.ntmps56
  go_wp2
  go_ret
  refine ⟨?_, rfl⟩
  rw [← hn.out]
  rfl
theorem wraps_u16 (n : Int) (h₀ : 0 ≤ n) (h₁ : n < 2 ^ 16) : IntKind.u16.wrap n = n := by
  simp [IntKind.wrap, IntKind.bits, IntKind.signed]; omega
theorem or_comm' (k : IntKind) (x y : Int) : bits BinOp.or k x y = bits BinOp.or k y x := by simp [bits, BitVec.or_comm]
theorem num2_or (b c : Int) (h1 : 0 ≤ b) (h2 : b < 256) (h3 : 0 ≤ c) (h4 : c < 256) : bits BinOp.or IntKind.u16 b (c * 256) = b + 256 * c := by
  rw [or_comm', bits_join .u16 16 (by decide) wraps_u16 8 (c * 256) b (by omega) (by omega) (by omega) h1 (by omega) (by omega)]
  omega
theorem num2_eq (b c : Int) (h1 : 0 ≤ b) (h2 : b < 256) (h3 : 0 ≤ c) (h4 : c < 256) : wrap64 (IntKind.i16.wrap (bits BinOp.or IntKind.u16 b (c * 256))) = num2 b c := by
  rw [num2_or b c h1 h2 h3 h4]
  have hm : (b + 256 * c) % 65536 = b + 256 * c := by omega
  by_cases h : c < 128
  · have h' : ¬ (32768 ≤ b + 256 * c) := by omega
    simp [num2, wrap64, IntKind.wrap, IntKind.bits, IntKind.signed, hm, h, h']
    omega
  · have h' : 32768 ≤ b + 256 * c := by omega
    simp [num2, wrap64, IntKind.wrap, IntKind.bits, IntKind.signed, hm, h, h']
    omega
set_option maxHeartbeats 400000 in
theorem num2_any (b c : Int) (cp pb po : Nat) (w : World) (hp : w.cell? ⟨pb, po, none⟩ = some (.int .u8 b)) (hq : w.cell? ⟨pb, po + 1, none⟩ = some (.int .u8 c)) (hb : 0 ≤ b) (hb' : b < 256) (hc : 0 ≤ c) (hc' : c < 256) :
    Calls Tryd.prog 56 #[.slice (some ⟨pb, po, none⟩) 2 cp] w fun e w' => e = .returned (.int .i64 (num2 b c)) ∧ ∃ n, w' = w.drewN n := by
  have hn := Lib.hid (num2_eq b c hb hb' hc hc')
  go_enter Tryd.func56, Tryd.ntmps56
  go_wp2
  go_quiet (fail)
  go_wp2
  go_ret
  refine ⟨?_, nq, rfl⟩
  rw [← hn.out]
  rfl
/-- how many bytes an instruction of a kind has -/
def sizeK (k : Int) (l : Bool) : Int := sizeT (shapeT k) + if l then 1 else 0
theorem shapeT_bd (k : Int) (h1 : 1 ≤ k) (h2 : k ≤ 24) : 1 ≤ shapeT k ∧ shapeT k ≤ 11 := by
  have h : ∀ k : Fin 25, 1 ≤ k.val → 1 ≤ shapeT (k.val : Int) ∧ shapeT (k.val : Int) ≤ 11 := by decide +kernel
  have := h ⟨k.toNat, by omega⟩ (by simp; omega)
  simpa [Int.toNat_of_nonneg (show 0 ≤ k by omega)] using this
theorem sizeT_bd (s : Int) (h1 : 1 ≤ s) (h2 : s ≤ 11) : 1 ≤ sizeT s ∧ sizeT s ≤ 4 := by
  have h : ∀ s : Fin 12, 1 ≤ s.val → 1 ≤ sizeT (s.val : Int) ∧ sizeT (s.val : Int) ≤ 4 := by decide +kernel
  have := h ⟨s.toNat, by omega⟩ (by simp; omega)
  simpa [Int.toNat_of_nonneg (show 0 ≤ s by omega)] using this
theorem chk_kind {k d a b n : Int} {l : Bool} (h : chk k d a b n l = 0) : 1 ≤ k ∧ k ≤ 24 := by
  unfold chk at h
  split at h
  · cases h
  · omega
set_option maxHeartbeats 1000000 in
theorem size_any (k d a b n : Int) (l : Bool) (w : World) (hT : Tabs w) : Calls Tryd.prog 72 #[.agg #[.int .i64 k, .int .i64 d, .int .i64 a, .int .i64 b, .int .i64 n, .bool l]] w fun e w' =>
    e = .returned (.tuple #[.int .i64 (if chk k d a b n l = 0 then sizeK k l else 0), .int .i64 (chk k d a b n l)]) ∧ Below w.heap.size w w' := by
  by_cases hc : chk k d a b n l = 0
  · rw [if_pos hc]
    have hk := chk_kind hc
    have hsb := shapeT_bd k hk.1 hk.2
    have hzb := sizeT_bd _ hsb.1 hsb.2
    have hc0 := Lib.hid hc
    clear hc
    go_enter Tryd.func72, Tryd.ntmps72
    go_wp2_with fail
    refine (check_any k d a b n l _ (hT.alloc _)).mono ?_
    rintro e w1 ⟨rfl, hb1⟩
    rw [hc0.out]
    have hT1 := (hT.alloc _).below hb1
    obtain ⟨hc1, hf1⟩ := bcell hb1
    have hB1 : Below w.heap.size w w1 := ((Below.refl _ _).alloc (Nat.le_refl _) _).trans (hb1.mono (by simp))
    have g0 : w1.cell? ⟨w.heap.size, 0, none⟩ = some (.int .i64 k) := by rw [hc1 _ _ (by simp)]; go_simp
    have g5 : w1.cell? ⟨w.heap.size, 5, none⟩ = some (.bool l) := by rw [hc1 _ _ (by simp)]; go_simp
    have r2 := hT1.shape k (by omega) (by omega)
    have r3 := hT1.size (shapeT k) (by omega) (by omega)
    clear hc1 hf1 hb1 hT hT1
    cases l
    · go_wp2
      go_ret2
      exact ⟨by simp [sizeK, hc0.out], hB1⟩
    · go_wp2
      go_ret2
      exact ⟨by simp [sizeK, hc0.out], hB1⟩
  · rw [if_neg hc]
    have hc0 : (chk k d a b n l != 0) = true := by simpa using hc
    have H0 := Lib.hid hc0
    clear hc hc0
    go_enter Tryd.func72, Tryd.ntmps72
    go_wp2_with fail
    refine (check_any k d a b n l _ (hT.alloc _)).mono ?_
    rintro e w1 ⟨rfl, hb1⟩
    have hB1 : Below w.heap.size w w1 := ((Below.refl _ _).alloc (Nat.le_refl _) _).trans (hb1.mono (by simp))
    have hne := H0.out
    clear hb1 hT
    go_wp2
    go_ret2
    exact ⟨rfl, hB1⟩
end Go.Proofs.YtgeljimckoodiaaDoor
