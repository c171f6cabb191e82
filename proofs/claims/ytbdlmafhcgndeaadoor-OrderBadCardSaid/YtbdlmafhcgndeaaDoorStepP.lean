/- Plain words on numbers that are folded. and, or, xor of numbers of 41 bits and a sign stay within. -/
import Derived.Test.YtbdlmafhcgndeaaDoorRdG
import Derived.Laws.Entries
namespace Go.Proofs.YtbdlmafhcgndeaaDoor
open Go.RowKit
/-- a number, folded into 41 bits and a sign -/
def bal (n : Int) : Int := (n + 1099511627776) % 2199023255553 - 1099511627776
/-- is it one that a register may hold? -/
def N41 (n : Int) : Prop := -1099511627776 ≤ n ∧ n ≤ 1099511627776
theorem bal_bd (n : Int) : N41 (bal n) := by
  unfold bal N41
  have h1 := Int.emod_nonneg (n + 1099511627776) (show (2199023255553 : Int) ≠ 0 by decide)
  have h2 := Int.emod_lt_of_pos (n + 1099511627776) (show (0 : Int) < 2199023255553 by decide)
  omega
theorem bal_of {x n k : Int} (h : N41 x) (hk : x = n + 2199023255553 * k) : x = bal n := by
  unfold bal
  obtain ⟨h1, h2⟩ := h
  have : (n + 1099511627776) % 2199023255553 = x + 1099511627776 := by
    rw [show n + 1099511627776 = (x + 1099511627776) + 2199023255553 * (-k) by rw [hk]; omega, Int.add_mul_emod_self_left]
    exact Int.emod_eq_of_lt (by omega) (by omega)
  omega
theorem bal_self {n : Int} (h : N41 n) : bal n = n := (bal_of h (k := 0) (by omega)).symm
/-- folded, it differs by whole turns -/
theorem bal_turn (n : Int) : ∃ k, bal n = n + 2199023255553 * k := by
  refine ⟨-((n + 1099511627776) / 2199023255553), ?_⟩
  unfold bal
  have := Int.emod_add_mul_ediv (n + 1099511627776) 2199023255553
  omega
theorem bal_neg {x n k : Int} (h : N41 x) (hk : x = n + 2199023255553 * k) : -x = bal (-n) := by
  refine bal_of (k := -k) ?_ (by omega)
  obtain ⟨h1, h2⟩ := h
  exact ⟨by omega, by omega⟩
end Go.Proofs.YtbdlmafhcgndeaaDoor
namespace Go.Proofs.YtbdlmafhcgndeaaDoor
open Go.RowKit
def small41 (n : Int) : Prop := -2199023255552 ≤ n ∧ n < 2199023255552
theorem sh_of (x : Int) (h : small41 x) : (BitVec.ofInt 64 x).sshiftRight 41 = 0 ∨ (BitVec.ofInt 64 x).sshiftRight 41 = BitVec.allOnes 64 := by
  obtain ⟨h1, h2⟩ := h
  have ht : (BitVec.ofInt 64 x).toInt = x := by
    rw [BitVec.toInt_ofInt]
    simp [Int.bmod]
    omega
  have hs : ((BitVec.ofInt 64 x).sshiftRight 41).toInt = x / 2199023255552 := by
    rw [BitVec.toInt_sshiftRight, ht, Int.shiftRight_eq_div_pow]
    rfl
  have : x / 2199023255552 = 0 ∨ x / 2199023255552 = -1 := by omega
  rcases this with h | h
  · left
    apply BitVec.eq_of_toInt_eq
    rw [hs, h]
    rfl
  · right
    apply BitVec.eq_of_toInt_eq
    rw [hs, h]
    decide
theorem of_sh (v : BitVec 64) (h : v.sshiftRight 41 = 0 ∨ v.sshiftRight 41 = BitVec.allOnes 64) : small41 v.toInt := by
  have hs : (v.sshiftRight 41).toInt = v.toInt / 2199023255552 := by
    rw [BitVec.toInt_sshiftRight, Int.shiftRight_eq_div_pow]
    rfl
  unfold small41
  rcases h with h | h
  · rw [h] at hs
    have : v.toInt / 2199023255552 = 0 := by rw [← hs]; rfl
    omega
  · rw [h] at hs
    have : v.toInt / 2199023255552 = -1 := by rw [← hs]; decide
    omega
theorem wrap_toNat (v : BitVec 64) : IntKind.wrap .i64 (v.toNat : Int) = v.toInt := by
  have h := v.isLt
  rw [IntKind.wrap_i64, BitVec.toInt_eq_toNat_cond]
  split <;> omega
theorem bits_bd (op : BinOp) (h : op = .and ∨ op = .or ∨ op = .xor) (x y : Int) (hx : small41 x) (hy : small41 y) : small41 (bits op .i64 x y) := by
  have h1 := sh_of x hx
  have h2 := sh_of y hy
  rcases h with rfl | rfl | rfl
  · show small41 (IntKind.wrap .i64 ((BitVec.ofInt 64 x &&& BitVec.ofInt 64 y).toNat : Int))
    rw [wrap_toNat]
    apply of_sh
    rw [BitVec.sshiftRight_and_distrib]
    rcases h1 with h1 | h1 <;> rcases h2 with h2 | h2 <;> rw [h1, h2] <;> simp
  · show small41 (IntKind.wrap .i64 ((BitVec.ofInt 64 x ||| BitVec.ofInt 64 y).toNat : Int))
    rw [wrap_toNat]
    apply of_sh
    rw [BitVec.sshiftRight_or_distrib]
    rcases h1 with h1 | h1 <;> rcases h2 with h2 | h2 <;> rw [h1, h2] <;> simp
  · show small41 (IntKind.wrap .i64 ((BitVec.ofInt 64 x ^^^ BitVec.ofInt 64 y).toNat : Int))
    rw [wrap_toNat]
    apply of_sh
    rw [BitVec.sshiftRight_xor_distrib]
    rcases h1 with h1 | h1 <;> rcases h2 with h2 | h2 <;> rw [h1, h2] <;> simp
end Go.Proofs.YtbdlmafhcgndeaaDoor
