/- Plain law: an instruction's bytes are the instruction. -/
import Derived.Test.YtmcaplgddlbdoaaDoorPlainA
import Derived.Test.YtmcaplgddlbdoaaDoorEnc
namespace Go.Proofs.YtmcaplgddlbdoaaDoor
open Go.RowKit
theorem fin25 {p : Int → Prop} (h : ∀ n : Fin 25, 1 ≤ n.val → p (n.val : Int)) (k : Int) (h1 : 1 ≤ k) (h2 : k ≤ 24) : p k := by
  obtain ⟨n, rfl⟩ := Int.eq_ofNat_of_zero_le (show 0 ≤ k by omega)
  exact h ⟨n, by omega⟩ (by simp; omega)
theorem kind_op (k : Int) (h1 : 1 ≤ k) (h2 : k ≤ 24) (l : Bool) (hl : l = true → longT k ≠ 0) : kindOf (opL k l) = (k, l) :=
  fin25 (p := fun k => ∀ l : Bool, (l = true → longT k ≠ 0) → kindOf (opL k l) = (k, l)) (by decide +kernel) k h1 h2 l hl
theorem op_kind (op : Int) (h0 : 0 ≤ op) (h1 : op < 256) (h : (kindOf op).1 ≠ 0) : opL (kindOf op).1 (kindOf op).2 = op := by
  have : ∀ op : Fin 256, (kindOf (op.val : Int)).1 ≠ 0 → opL (kindOf (op.val : Int)).1 (kindOf (op.val : Int)).2 = (op.val : Int) := by decide +kernel
  obtain ⟨n, rfl⟩ := Int.eq_ofNat_of_zero_le h0
  exact this ⟨n, by omega⟩ h
theorem long_shape (k : Int) (h1 : 1 ≤ k) (h2 : k ≤ 24) (h : longT k ≠ 0) : shapeT k = 8 ∨ shapeT k = 9 :=
  fin25 (p := fun k => longT k ≠ 0 → shapeT k = 8 ∨ shapeT k = 9) (by decide +kernel) k h1 h2 h
theorem op_bd (k : Int) (h1 : 1 ≤ k) (h2 : k ≤ 24) (l : Bool) : 0 ≤ opL k l ∧ opL k l < 112 :=
  fin25 (p := fun k => ∀ l : Bool, 0 ≤ opL k l ∧ opL k l < 112) (by decide +kernel) k h1 h2 l
theorem num1_of (n : Int) (h1 : -128 ≤ n) (h2 : n ≤ 127) : num1 (n % 256) = n := by unfold num1; split <;> omega
theorem num2_of (n : Int) (h1 : -32768 ≤ n) (h2 : n ≤ 32767) : num2 (n % 256) (n / 256 % 256) = n := by unfold num2; split <;> omega
theorem num1_back (b : Int) (h1 : 0 ≤ b) (h2 : b < 256) : num1 b % 256 = b := by unfold num1; split <;> omega
theorem num2_back (b c : Int) (h1 : 0 ≤ b) (h2 : b < 256) (h3 : 0 ≤ c) (h4 : c < 256) : num2 b c % 256 = b ∧ num2 b c / 256 % 256 = c := by unfold num2; split <;> omega
def Ins.enc (i : Ins) : List Int := encB i.k i.d i.a i.b i.n i.l
theorem sizes_of : sizeT 1 = 1 ∧ sizeT 2 = 4 ∧ sizeT 3 = 3 ∧ sizeT 4 = 3 ∧ sizeT 5 = 3 ∧ sizeT 6 = 2 ∧ sizeT 7 = 2 ∧ sizeT 8 = 3 ∧ sizeT 9 = 2 ∧ sizeT 10 = 3 ∧ sizeT 11 = 3 := by decide
theorem ins_long {i : Ins} (h : i.chk = 0) (hl : i.l = true) : longT i.k ≠ 0 := by
  obtain ⟨-, hf, -, -⟩ := ins_chk_zero.1 h
  intro h2
  simp [formBad, hl, h2] at hf
theorem ins_shape {i : Ins} (h : i.chk = 0) : shapeT i.k = 1 ∨ shapeT i.k = 2 ∨ shapeT i.k = 3 ∨ shapeT i.k = 4 ∨ shapeT i.k = 5 ∨ shapeT i.k = 6 ∨ shapeT i.k = 7 ∨ shapeT i.k = 8 ∨ shapeT i.k = 9 ∨ shapeT i.k = 10 ∨ shapeT i.k = 11 := by
  obtain ⟨hk, -⟩ := ins_chk_zero.1 h
  have := shapeT_bd i.k hk.1 hk.2
  omega
theorem enc_len {i : Ins} (h : i.chk = 0) : (i.enc.length : Int) = sizeK i.k i.l := by
  obtain ⟨hk, -⟩ := ins_chk_zero.1 h
  have hl : i.l = true → shapeT i.k = 8 ∨ shapeT i.k = 9 := fun hh => long_shape _ hk.1 hk.2 (ins_long h hh)
  obtain ⟨s1, s2, s3, s4, s5, s6, s7, s8, s9, s10, s11⟩ := sizes_of
  unfold Ins.enc encB sizeK
  cases hb : i.l
  · rcases ins_shape h with hs | hs | hs | hs | hs | hs | hs | hs | hs | hs | hs <;> simp [hs, tailB, lastB, s1, s2, s3, s4, s5, s6, s7, s8, s9, s10, s11]
  · rcases hl hb with hs | hs <;> simp [hs, tailB, lastB, s8, s9]
theorem insOf_enc {i : Ins} (h : i.chk = 0) : insOf i.k i.l (i.enc.getD 1 0) (i.enc.getD 2 0) (i.enc.getD 3 0) = i := by
  obtain ⟨hk, hf, hr, hn⟩ := ins_chk_zero.1 h
  have hl : i.l = true → shapeT i.k = 8 ∨ shapeT i.k = 9 := fun hh => long_shape _ hk.1 hk.2 (ins_long h hh)
  have hs := ins_shape h
  unfold Ins.enc
  obtain ⟨k, d, a, b, n, l⟩ := i
  simp only at *
  unfold Ins.regs at hr
  simp only at hr
  obtain ⟨hd, ha, hb⟩ := hr
  have e1 : (d * 16 + a) / 16 = d ∧ (d * 16 + a) % 16 = a := by omega
  have e2 : (b * 16 + a) / 16 = b ∧ (b * 16 + a) % 16 = a := by omega
  have e3 : (a * 16 + b) / 16 = a ∧ (a * 16 + b) % 16 = b := by omega
  cases l
  · rcases hs with hs | hs | hs | hs | hs | hs | hs | hs | hs | hs | hs <;>
      simp [formBad, nOk, hs, hasD, hasA, hasB, hasN, inside] at hf hn <;> simp [insOf, encB, tailB, lastB, hs, e1, e2, e3, hf] <;> (try omega) <;> (try (first | exact num1_of _ (by omega) (by omega) | exact num2_of _ (by omega) (by omega)))
  · rcases hl rfl with hs | hs <;>
      simp [formBad, nOk, hs, hasD, hasA, hasB, hasN, inside] at hf hn <;> simp [insOf, encB, tailB, lastB, hs, e3, hf] <;> exact num2_of _ (by omega) (by omega)
theorem enc_bytes {i : Ins} (h : i.chk = 0) : ∀ x ∈ i.enc, 0 ≤ x ∧ x < 256 := by
  obtain ⟨hk, hf, hr, hn⟩ := ins_chk_zero.1 h
  have hl : i.l = true → shapeT i.k = 8 ∨ shapeT i.k = 9 := fun hh => long_shape _ hk.1 hk.2 (ins_long h hh)
  have hs := ins_shape h
  have ho := op_bd i.k hk.1 hk.2 i.l
  obtain ⟨hd, ha, hb⟩ := hr
  intro x hx
  unfold Ins.enc encB at hx
  simp only [List.mem_cons] at hx
  rcases hx with rfl | hx
  · omega
  · rcases hs with hs | hs | hs | hs | hs | hs | hs | hs | hs | hs | hs <;> cases hb : i.l <;> simp [tailB, lastB, hs, hb] at hx <;> omega
theorem enc_back (k : Int) (l : Bool) (op x y z : Int) (hop : opL k l = op) (hx : 0 ≤ x ∧ x < 256) (hy : 0 ≤ y ∧ y < 256) (hz : 0 ≤ z ∧ z < 256) (h : (insOf k l x y z).chk = 0) :
    (insOf k l x y z).enc = [op, x, y, z].take (sizeK k l).toNat := by
  have hkl := insOf_kl k l x y z
  have hs := ins_shape h
  obtain ⟨hk, hf, hr, hn⟩ := ins_chk_zero.1 h
  have hl : l = true → shapeT k = 8 ∨ shapeT k = 9 := fun hh => by
    have := long_shape _ hk.1 hk.2 (ins_long h (by rw [hkl.2]; exact hh))
    rw [hkl.1] at this
    exact this
  unfold Ins.enc
  rw [hkl.1] at hs ⊢
  rw [hkl.2]
  clear hkl h hk hf hn
  obtain ⟨hd, ha, hb⟩ := hr
  have b1 := num1_back x hx.1 hx.2
  have b2 := num1_back y hy.1 hy.2
  have b3 := num2_back y z hy.1 hy.2 hz.1 hz.2
  have b4 := num2_back x y hx.1 hx.2 hy.1 hy.2
  have e1 : x / 16 * 16 + x % 16 = x := by omega
  have e2 : y % 256 = y := by omega
  obtain ⟨s1, s2, s3, s4, s5, s6, s7, s8, s9, s10, s11⟩ := sizes_of
  have t2 : Int.toNat 2 = 2 := rfl
  have t3 : Int.toNat 3 = 3 := rfl
  have t4 : Int.toNat 4 = 4 := rfl
  cases l
  · rcases hs with hs | hs | hs | hs | hs | hs | hs | hs | hs | hs | hs <;> simp [insOf, encB, tailB, lastB, sizeK, hs, hop, s1, s2, s3, s4, s5, s6, s7, s8, s9, s10, s11, b1, b2, b3, e1, e2, t2, t3, t4, b4]
  · rcases hl rfl with hs | hs <;> simp [insOf, encB, tailB, lastB, sizeK, hs, hop, s8, s9, b3, b4, e1, t3, t4]
end Go.Proofs.YtmcaplgddlbdoaaDoor
