/- The two programs of Sums, run. The programs of Sums, Bits, Memory, run. -/
import Derived.Test.YtgeljimckoodiaaDoorKeepF
namespace Go.Proofs.YtgeljimckoodiaaDoor
open Go.RowKit
def sumsL : List Ins := [⟨16, 1, 0, 0, 0, false⟩, ⟨16, 2, 0, 0, 0, false⟩, ⟨7, 3, 1, 2, 0, false⟩, ⟨8, 4, 3, 2, 0, false⟩, ⟨17, 0, 4, 0, 0, false⟩, ⟨9, 5, 1, 2, 0, false⟩, ⟨9, 6, 2, 1, 0, false⟩, ⟨17, 0, 5, 0, 0, false⟩, ⟨17, 0, 6, 0, 0, false⟩, ⟨17, 0, 3, 0, 0, false⟩]
def sumsM : List Ins := [⟨16, 1, 0, 0, 0, false⟩, ⟨16, 2, 0, 0, 0, false⟩, ⟨9, 3, 1, 2, 0, false⟩, ⟨17, 0, 3, 0, 0, false⟩, ⟨16, 3, 0, 0, 0, false⟩, ⟨17, 0, 3, 0, 0, false⟩]
set_option maxRecDepth 100000 in
theorem sumsM_line (m : Img) (p q : Int) : lineOk sumsM (startS m [p, q]) ∧ (lineS sumsM (startS m [p, q])).told = [arithN 9 p q, 0] := by
  constructor
  · simp [sumsM, lineOk, stepL, doS, startS, regAt, List.replicate, flowsB]
    decide
  · simp [sumsM, lineS, stepL, doS, startS, regAt, List.replicate]
set_option maxRecDepth 100000 in
theorem sumsL_line (m : Img) (x y : Int) : lineOk sumsL (startS m [x, y]) ∧ (lineS sumsL (startS m [x, y])).told = [arithN 8 (arithN 7 x y) y, arithN 9 x y, arithN 9 y x, arithN 7 x y] := by
  constructor
  · simp [sumsL, lineOk, stepL, doS, startS, regAt, List.replicate, flowsB]
    decide
  · simp [sumsL, lineS, stepL, doS, startS, regAt, List.replicate]
end Go.Proofs.YtgeljimckoodiaaDoor
namespace Go.Proofs.YtgeljimckoodiaaDoor
open Go.RowKit
theorem pow2_split (op : Nat → Nat → Nat) (h2 : ∀ a b, op a b / 2 = op (a / 2) (b / 2)) (a b : Nat) : op a b = 2 * op (a / 2) (b / 2) + op a b % 2 := by
  have := h2 a b
  omega
theorem nat_and_or (a : Nat) : ∀ b, (a &&& b) + (a ||| b) = a + b ∧ (a ||| b) = (a &&& b) + (a ^^^ b) := by
  induction a using Nat.strongRecOn with
  | ind a ih =>
    intro b
    by_cases h0 : a = 0
    · subst h0
      simp
    · have hh := ih (a / 2) (by omega) (b / 2)
      have e1 := pow2_split (· &&& ·) (fun a b => by simpa using (Nat.and_div_two_pow (a := a) (b := b) (n := 1))) a b
      have e2 := pow2_split (· ||| ·) (fun a b => by simpa using (Nat.or_div_two_pow (a := a) (b := b) (n := 1))) a b
      have e3 := pow2_split (· ^^^ ·) (fun a b => by simpa using (Nat.xor_div_two_pow (a := a) (b := b) (n := 1))) a b
      have m1 : (a &&& b) % 2 = (a % 2) &&& (b % 2) := by simpa using (Nat.and_mod_two_pow (a := a) (b := b) (n := 1))
      have m2 : (a ||| b) % 2 = (a % 2) ||| (b % 2) := by simpa using (Nat.or_mod_two_pow (a := a) (b := b) (n := 1))
      have m3 : (a ^^^ b) % 2 = (a % 2) ^^^ (b % 2) := by simpa using (Nat.xor_mod_two_pow (a := a) (b := b) (n := 1))
      have hd : ∀ p q : Fin 2, (p.val &&& q.val) + (p.val ||| q.val) = p.val + q.val ∧ (p.val ||| q.val) = (p.val &&& q.val) + (p.val ^^^ q.val) := by decide
      have hc := hd ⟨a % 2, by omega⟩ ⟨b % 2, by omega⟩
      simp only at hc
      rw [← m1, ← m2, ← m3] at hc
      omega
theorem bits_nat (op : BinOp) (f : Nat → Nat → Nat) (h : op = .and ∧ f = (· &&& ·) ∨ op = .or ∧ f = (· ||| ·) ∨ op = .xor ∧ f = (· ^^^ ·)) (x y : Nat) (hx : x < 1073741824) (hy : y < 1073741824) (hf : f x y < 2147483648) : bits op .i64 (x : Int) (y : Int) = (f x y : Nat) := by
  have ex : BitVec.ofInt 64 (x : Int) = BitVec.ofNat 64 x := by simp
  have ey : BitVec.ofInt 64 (y : Int) = BitVec.ofNat 64 y := by simp
  have hx' : (BitVec.ofNat 64 x).toNat = x := by rw [BitVec.toNat_ofNat]; omega
  have hy' : (BitVec.ofNat 64 y).toNat = y := by rw [BitVec.toNat_ofNat]; omega
  rcases h with ⟨rfl, rfl⟩ | ⟨rfl, rfl⟩ | ⟨rfl, rfl⟩
  · show IntKind.wrap .i64 ((BitVec.ofInt 64 (x : Int) &&& BitVec.ofInt 64 (y : Int)).toNat : Int) = _
    rw [ex, ey, BitVec.toNat_and, hx', hy', IntKind.wrap_i64]
    change x &&& y < 2147483648 at hf
    change _ = ((x &&& y : Nat) : Int)
    omega
  · show IntKind.wrap .i64 ((BitVec.ofInt 64 (x : Int) ||| BitVec.ofInt 64 (y : Int)).toNat : Int) = _
    rw [ex, ey, BitVec.toNat_or, hx', hy', IntKind.wrap_i64]
    change x ||| y < 2147483648 at hf
    change _ = ((x ||| y : Nat) : Int)
    omega
  · show IntKind.wrap .i64 ((BitVec.ofInt 64 (x : Int) ^^^ BitVec.ofInt 64 (y : Int)).toNat : Int) = _
    rw [ex, ey, BitVec.toNat_xor, hx', hy', IntKind.wrap_i64]
    change x ^^^ y < 2147483648 at hf
    change _ = ((x ^^^ y : Nat) : Int)
    omega
theorem bits_fit (x y : Int) (hx : 0 ≤ x ∧ x < 1073741824) (hy : 0 ≤ y ∧ y < 1073741824) : ∃ a o : Int, arithN 10 x y = a ∧ arithN 11 x y = o ∧ arithN 12 x y = o - a ∧ a + o = x + y ∧ 0 ≤ a ∧ a ≤ 2147483648 ∧ 0 ≤ o ∧ o ≤ 2147483648 := by
  obtain ⟨m, rfl⟩ := Int.eq_ofNat_of_zero_le hx.1
  obtain ⟨n, rfl⟩ := Int.eq_ofNat_of_zero_le hy.1
  have h := nat_and_or m n
  have hb : N41 ((m &&& n : Nat) : Int) ∧ N41 ((m ||| n : Nat) : Int) ∧ N41 ((m ^^^ n : Nat) : Int) := by unfold N41; omega
  refine ⟨(m &&& n : Nat), (m ||| n : Nat), ?_, ?_, ?_, by omega, by omega, by omega, by omega, by omega⟩
  · show bal (bits BinOp.and .i64 m n) = _
    rw [bits_nat .and (· &&& ·) (.inl ⟨rfl, rfl⟩) m n (by omega) (by omega) (show m &&& n < 2147483648 by omega)]
    exact bal_self hb.1
  · show bal (bits BinOp.or .i64 m n) = _
    rw [bits_nat .or (· ||| ·) (.inr (.inl ⟨rfl, rfl⟩)) m n (by omega) (by omega) (show m ||| n < 2147483648 by omega)]
    exact bal_self hb.2.1
  · show bal (bits BinOp.xor .i64 m n) = _
    rw [bits_nat .xor (· ^^^ ·) (.inr (.inr ⟨rfl, rfl⟩)) m n (by omega) (by omega) (show m ^^^ n < 2147483648 by omega)]
    rw [bal_self hb.2.2]
    omega
theorem sums_facts (x y : Int) (hx : N41 x) (_hy : N41 y) : ∃ s z k : Int, arithN 7 x y = s ∧ arithN 9 x y = z ∧ arithN 9 y x = z ∧ arithN 8 s y = x ∧ s = x + y + 2199023255553 * k ∧ N41 s ∧ N41 z := by
  obtain ⟨k, hk⟩ := bal_turn (x + y)
  refine ⟨bal (x + y), bal (x * y), k, rfl, rfl, ?_, ?_, hk, bal_bd _, bal_bd _⟩
  · show bal (y * x) = _
    rw [Int.mul_comm]
  · show bal (bal (x + y) - y) = x
    rw [hk]
    exact (bal_of hx (k := -k) (by omega)).symm
theorem sumsL_run (x y : Int) : (runS (aloneM sumsL) [x, y] 100).told = [arithN 8 (arithN 7 x y) y, arithN 9 x y, arithN 9 y x, arithN 7 x y] ∧ (runS (aloneM sumsL) [x, y] 100).en = 1 := by
  have hl := sumsL_line (aloneM sumsL) x y
  have hR := runS_line sumsL [x, y] 89 (by decide) hl.1
  obtain ⟨S, hS⟩ : ∃ S, lineS sumsL (startS (aloneM sumsL) [x, y]) = S := ⟨_, rfl⟩
  rw [hS] at hR hl
  rw [hR]
  exact ⟨hl.2, rfl⟩
theorem sumsM_run (x y : Int) : (runS (aloneM sumsM) [x, y] 100).told = [arithN 9 x y, 0] ∧ (runS (aloneM sumsM) [x, y] 100).en = 1 := by
  have hl := sumsM_line (aloneM sumsM) x y
  have hR := runS_line sumsM [x, y] 93 (by decide) hl.1
  obtain ⟨S, hS⟩ : ∃ S, lineS sumsM (startS (aloneM sumsM) [x, y]) = S := ⟨_, rfl⟩
  rw [hS] at hR hl
  rw [hR]
  exact ⟨hl.2, rfl⟩
theorem small_mul (p q : Int) (hp : -500 ≤ p ∧ p < 500) (hq : -500 ≤ q ∧ q < 500) : -250000 ≤ p * q ∧ p * q ≤ 250000 ∧ arithN 9 p q = p * q := by
  have h : -250000 ≤ p * q ∧ p * q ≤ 250000 := by
    have h1 : (p.natAbs * q.natAbs : Nat) ≤ 500 * 500 := Nat.mul_le_mul (by omega) (by omega)
    rw [← Int.natAbs_mul] at h1
    omega
  refine ⟨h.1, h.2, ?_⟩
  show bal (p * q) = _
  exact bal_self (by unfold N41; omega)
def bitsL : List Ins := [⟨16, 1, 0, 0, 0, false⟩, ⟨16, 2, 0, 0, 0, false⟩, ⟨10, 3, 1, 2, 0, false⟩, ⟨11, 4, 1, 2, 0, false⟩, ⟨12, 5, 1, 2, 0, false⟩, ⟨17, 0, 3, 0, 0, false⟩, ⟨17, 0, 4, 0, 0, false⟩, ⟨17, 0, 5, 0, 0, false⟩, ⟨13, 6, 1, 2, 0, false⟩, ⟨17, 0, 6, 0, 0, false⟩]
set_option maxRecDepth 100000 in
theorem bitsL_line (m : Img) (x y : Int) : lineOk bitsL (startS m [x, y]) ∧ (lineS bitsL (startS m [x, y])).told = [arithN 10 x y, arithN 11 x y, arithN 12 x y, arithN 13 x y] := by
  constructor
  · simp [bitsL, lineOk, stepL, doS, startS, regAt, List.replicate, flowsB]
    decide
  · simp [bitsL, lineS, stepL, doS, startS, regAt, List.replicate]
theorem bitsL_run (x y : Int) : (runS (aloneM bitsL) [x, y] 100).told = [arithN 10 x y, arithN 11 x y, arithN 12 x y, arithN 13 x y] ∧ (runS (aloneM bitsL) [x, y] 100).en = 1 := by
  have hl := bitsL_line (aloneM bitsL) x y
  have hR := runS_line bitsL [x, y] 89 (by decide) hl.1
  obtain ⟨S, hS⟩ : ∃ S, lineS bitsL (startS (aloneM bitsL) [x, y]) = S := ⟨_, rfl⟩
  rw [hS] at hR hl
  rw [hR]
  exact ⟨hl.2, rfl⟩
end Go.Proofs.YtgeljimckoodiaaDoor
