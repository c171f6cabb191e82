/- Plain law: what an instruction that may be is. Plain law: an instruction's bytes are the instruction. Plain law: what is decoded of bytes that were encoded. -/
import Derived.Test.YtgeljimckoodiaaDoorRd
namespace Go.Proofs.YtgeljimckoodiaaDoor
open Go.RowKit
/-- registers that may be -/
def Ins.regs (i : Ins) : Prop := (0 ≤ i.d ∧ i.d < 8) ∧ (0 ≤ i.a ∧ i.a < 8) ∧ (0 ≤ i.b ∧ i.b < 8)
theorem isReg_iff (n : Int) : isReg n = true ↔ 0 ≤ n ∧ n < 8 := by simp [isReg]
theorem inside_iff (n lo hi : Int) : inside n lo hi = true ↔ lo ≤ n ∧ n ≤ hi := by simp [inside]
theorem chk_zero {k d a b n : Int} {l : Bool} : chk k d a b n l = 0 ↔ (1 ≤ k ∧ k ≤ 24) ∧ formBad k d a b n l = false ∧ ((0 ≤ d ∧ d < 8) ∧ (0 ≤ a ∧ a < 8) ∧ (0 ≤ b ∧ b < 8)) ∧ nOk k n l = true := by
  unfold chk
  by_cases h1 : k < 1 ∨ 24 < k
  · rw [if_pos h1]; constructor
    · intro h; cases h
    · intro h; omega
  · rw [if_neg h1]
    by_cases h2 : formBad k d a b n l = true
    · rw [if_pos h2]; simp [h2]
    · rw [if_neg h2]
      rw [Bool.not_eq_true] at h2
      by_cases h3 : (!isReg d || !isReg a || !isReg b) = true
      · rw [if_pos h3]
        simp only [Bool.or_eq_true, Bool.not_eq_true', ← Bool.not_eq_true, isReg_iff] at h3
        constructor
        · intro h; cases h
        · intro h; omega
      · rw [if_neg h3]
        simp only [Bool.or_eq_true, Bool.not_eq_true', ← Bool.not_eq_true, isReg_iff, not_or, Classical.not_not] at h3
        by_cases h4 : nOk k n l = true
        · rw [if_pos h4]; exact ⟨fun _ => ⟨by omega, h2, ⟨h3.1.1, h3.1.2, h3.2⟩, h4⟩, fun _ => rfl⟩
        · rw [if_neg h4]; simp [h4]
theorem ins_chk_zero {i : Ins} : i.chk = 0 ↔ (1 ≤ i.k ∧ i.k ≤ 24) ∧ formBad i.k i.d i.a i.b i.n i.l = false ∧ i.regs ∧ nOk i.k i.n i.l = true := chk_zero
/-- what the tables say of a kind -/
def kindRow (k : Int) (s lo : Int) : Prop := shapeT k = s ∧ longT k = lo
theorem tab_three (k : Int) (h : 7 ≤ k ∧ k ≤ 13) : shapeT k = 4 ∧ longT k = 0 := by
  obtain ⟨n, rfl⟩ := Int.eq_ofNat_of_zero_le (show 0 ≤ k by omega)
  have : ∀ n : Fin 25, 7 ≤ n.val ∧ n.val ≤ 13 → shapeT (n.val : Int) = 4 ∧ longT (n.val : Int) = 0 := by decide +kernel
  exact this ⟨n, by omega⟩ (by simp; omega)
theorem tab_bare (k : Int) (h : 1 ≤ k ∧ k ≤ 4) : shapeT k = 1 ∧ longT k = 0 := by
  obtain ⟨n, rfl⟩ := Int.eq_ofNat_of_zero_le (show 0 ≤ k by omega)
  have : ∀ n : Fin 25, 1 ≤ n.val ∧ n.val ≤ 4 → shapeT (n.val : Int) = 1 ∧ longT (n.val : Int) = 0 := by decide +kernel
  exact this ⟨n, by omega⟩ (by simp; omega)
theorem tab_branch (k : Int) (h : 18 ≤ k ∧ k ≤ 21) : shapeT k = 8 ∧ longT k ≠ 0 := by
  obtain ⟨n, rfl⟩ := Int.eq_ofNat_of_zero_le (show 0 ≤ k by omega)
  have : ∀ n : Fin 25, 18 ≤ n.val ∧ n.val ≤ 21 → shapeT (n.val : Int) = 8 ∧ longT (n.val : Int) ≠ 0 := by decide +kernel
  exact this ⟨n, by omega⟩ (by simp; omega)
theorem tab_5 : shapeT 5 = 2 ∧ longT 5 = 0 := by decide
theorem tab_6 : shapeT 6 = 3 ∧ longT 6 = 0 := by decide
theorem tab_14 : shapeT 14 = 3 ∧ longT 14 = 0 := by decide
theorem tab_15 : shapeT 15 = 5 ∧ longT 15 = 0 := by decide
theorem tab_16 : shapeT 16 = 6 ∧ longT 16 = 0 := by decide
theorem tab_17 : shapeT 17 = 7 ∧ longT 17 = 0 := by decide
theorem tab_22 : shapeT 22 = 9 ∧ longT 22 ≠ 0 := by decide
theorem tab_23 : shapeT 23 = 10 ∧ longT 23 = 0 := by decide
theorem tab_24 : shapeT 24 = 11 ∧ longT 24 = 0 := by decide
theorem tab_4 : shapeT 4 = 1 ∧ longT 4 = 0 := by decide
theorem sizeK_bd {i : Ins} (h : i.chk = 0) : 1 ≤ sizeK i.k i.l ∧ sizeK i.k i.l ≤ 4 := by
  obtain ⟨hk, hf, -, -⟩ := ins_chk_zero.1 h
  have hl : i.l = true → longT i.k ≠ 0 := by
    intro h1 h2
    simp [formBad, h1, h2] at hf
  obtain ⟨n, hn⟩ := Int.eq_ofNat_of_zero_le (show 0 ≤ i.k by omega)
  have h0 : ∀ n : Fin 25, 1 ≤ n.val → (1 ≤ sizeT (shapeT (n.val : Int)) ∧ sizeT (shapeT (n.val : Int)) ≤ 4 ∧ (longT (n.val : Int) ≠ 0 → sizeT (shapeT (n.val : Int)) ≤ 3)) := by decide +kernel
  have := h0 ⟨n, by omega⟩ (by simp; omega)
  simp only at this
  rw [← hn] at this
  unfold sizeK
  cases hh : i.l
  · simp; omega
  · have := hl hh
    simp; omega
end Go.Proofs.YtgeljimckoodiaaDoor
namespace Go.Proofs.YtgeljimckoodiaaDoor
open Go.RowKit
theorem fin25 {p : Int → Prop} (h : ∀ n : Fin 25, 1 ≤ n.val → p (n.val : Int)) (k : Int) (h1 : 1 ≤ k) (h2 : k ≤ 24) : p k := by
  obtain ⟨n, rfl⟩ := Int.eq_ofNat_of_zero_le (show 0 ≤ k by omega)
  exact h ⟨n, by omega⟩ (by simp; omega)
theorem kind_op (k : Int) (h1 : 1 ≤ k) (h2 : k ≤ 24) (l : Bool) (hl : l = true → longT k ≠ 0) : kindOf (opL k l) = (k, l) :=
  fin25 (p := fun k => ∀ l : Bool, (l = true → longT k ≠ 0) → kindOf (opL k l) = (k, l)) (by decide +kernel) k h1 h2 l hl
theorem op_kind (op : Int) (h0 : 0 ≤ op) (h1 : op < 256) (h : (kindOf op).1 ≠ 0) : opL (kindOf op).1 (kindOf op).2 = op := by
  have : ∀ op : Fin 256, (kindOf (op.val : Int)).1 ≠ 0 → opL (kindOf (op.val : Int)).1 (kindOf (op.val : Int)).2 = (op.val : Int) := by decide +kernel
  obtain ⟨n, rfl⟩ := Int.eq_ofNat_of_zero_le h0
  exact this ⟨n, by omega⟩ h
theorem long_shape (k : Int) (h1 : 1 ≤ k) (h2 : k ≤ 24) (h : longT k ≠ 0) : shapeT k = 8 ∨ shapeT k = 9 :=
  fin25 (p := fun k => longT k ≠ 0 → shapeT k = 8 ∨ shapeT k = 9) (by decide +kernel) k h1 h2 h
theorem op_bd (k : Int) (h1 : 1 ≤ k) (h2 : k ≤ 24) (l : Bool) : 0 ≤ opL k l ∧ opL k l < 112 :=
  fin25 (p := fun k => ∀ l : Bool, 0 ≤ opL k l ∧ opL k l < 112) (by decide +kernel) k h1 h2 l
theorem num1_of (n : Int) (h1 : -128 ≤ n) (h2 : n ≤ 127) : num1 (n % 256) = n := by unfold num1; split <;> omega
theorem num2_of (n : Int) (h1 : -32768 ≤ n) (h2 : n ≤ 32767) : num2 (n % 256) (n / 256 % 256) = n := by unfold num2; split <;> omega
theorem num1_back (b : Int) (h1 : 0 ≤ b) (h2 : b < 256) : num1 b % 256 = b := by unfold num1; split <;> omega
theorem num2_back (b c : Int) (h1 : 0 ≤ b) (h2 : b < 256) (h3 : 0 ≤ c) (h4 : c < 256) : num2 b c % 256 = b ∧ num2 b c / 256 % 256 = c := by unfold num2; split <;> omega
def Ins.enc (i : Ins) : List Int := encB i.k i.d i.a i.b i.n i.l
theorem sizes_of : sizeT 1 = 1 ∧ sizeT 2 = 4 ∧ sizeT 3 = 3 ∧ sizeT 4 = 3 ∧ sizeT 5 = 3 ∧ sizeT 6 = 2 ∧ sizeT 7 = 2 ∧ sizeT 8 = 3 ∧ sizeT 9 = 2 ∧ sizeT 10 = 3 ∧ sizeT 11 = 3 := by decide
theorem ins_long {i : Ins} (h : i.chk = 0) (hl : i.l = true) : longT i.k ≠ 0 := by
  obtain ⟨-, hf, -, -⟩ := ins_chk_zero.1 h
  intro h2
  simp [formBad, hl, h2] at hf
theorem ins_shape {i : Ins} (h : i.chk = 0) : shapeT i.k = 1 ∨ shapeT i.k = 2 ∨ shapeT i.k = 3 ∨ shapeT i.k = 4 ∨ shapeT i.k = 5 ∨ shapeT i.k = 6 ∨ shapeT i.k = 7 ∨ shapeT i.k = 8 ∨ shapeT i.k = 9 ∨ shapeT i.k = 10 ∨ shapeT i.k = 11 := by
  obtain ⟨hk, -⟩ := ins_chk_zero.1 h
  have := shapeT_bd i.k hk.1 hk.2
  omega
theorem enc_len {i : Ins} (h : i.chk = 0) : (i.enc.length : Int) = sizeK i.k i.l := by
  obtain ⟨hk, -⟩ := ins_chk_zero.1 h
  have hl : i.l = true → shapeT i.k = 8 ∨ shapeT i.k = 9 := fun hh => long_shape _ hk.1 hk.2 (ins_long h hh)
  obtain ⟨s1, s2, s3, s4, s5, s6, s7, s8, s9, s10, s11⟩ := sizes_of
  unfold Ins.enc encB sizeK
  cases hb : i.l
  · rcases ins_shape h with hs | hs | hs | hs | hs | hs | hs | hs | hs | hs | hs <;> simp [hs, tailB, lastB, s1, s2, s3, s4, s5, s6, s7, s8, s9, s10, s11]
  · rcases hl hb with hs | hs <;> simp [hs, tailB, lastB, s8, s9]
theorem insOf_enc {i : Ins} (h : i.chk = 0) : insOf i.k i.l (i.enc.getD 1 0) (i.enc.getD 2 0) (i.enc.getD 3 0) = i := by
  obtain ⟨hk, hf, hr, hn⟩ := ins_chk_zero.1 h
  have hl : i.l = true → shapeT i.k = 8 ∨ shapeT i.k = 9 := fun hh => long_shape _ hk.1 hk.2 (ins_long h hh)
  have hs := ins_shape h
  unfold Ins.enc
  obtain ⟨k, d, a, b, n, l⟩ := i
  simp only at *
  unfold Ins.regs at hr
  simp only at hr
  obtain ⟨hd, ha, hb⟩ := hr
  have e1 : (d * 16 + a) / 16 = d ∧ (d * 16 + a) % 16 = a := by omega
  have e2 : (b * 16 + a) / 16 = b ∧ (b * 16 + a) % 16 = a := by omega
  have e3 : (a * 16 + b) / 16 = a ∧ (a * 16 + b) % 16 = b := by omega
  cases l
  · rcases hs with hs | hs | hs | hs | hs | hs | hs | hs | hs | hs | hs <;>
      simp [formBad, nOk, hs, hasD, hasA, hasB, hasN, inside] at hf hn <;> simp [insOf, encB, tailB, lastB, hs, e1, e2, e3, hf] <;> (try omega) <;> (try (first | exact num1_of _ (by omega) (by omega) | exact num2_of _ (by omega) (by omega)))
  · rcases hl rfl with hs | hs <;>
      simp [formBad, nOk, hs, hasD, hasA, hasB, hasN, inside] at hf hn <;> simp [insOf, encB, tailB, lastB, hs, e3, hf] <;> exact num2_of _ (by omega) (by omega)
theorem enc_bytes {i : Ins} (h : i.chk = 0) : ∀ x ∈ i.enc, 0 ≤ x ∧ x < 256 := by
  obtain ⟨hk, hf, hr, hn⟩ := ins_chk_zero.1 h
  have hl : i.l = true → shapeT i.k = 8 ∨ shapeT i.k = 9 := fun hh => long_shape _ hk.1 hk.2 (ins_long h hh)
  have hs := ins_shape h
  have ho := op_bd i.k hk.1 hk.2 i.l
  obtain ⟨hd, ha, hb⟩ := hr
  intro x hx
  unfold Ins.enc encB at hx
  simp only [List.mem_cons] at hx
  rcases hx with rfl | hx
  · omega
  · rcases hs with hs | hs | hs | hs | hs | hs | hs | hs | hs | hs | hs <;> cases hb : i.l <;> simp [tailB, lastB, hs, hb] at hx <;> omega
theorem enc_back (k : Int) (l : Bool) (op x y z : Int) (hop : opL k l = op) (hx : 0 ≤ x ∧ x < 256) (hy : 0 ≤ y ∧ y < 256) (hz : 0 ≤ z ∧ z < 256) (h : (insOf k l x y z).chk = 0) :
    (insOf k l x y z).enc = [op, x, y, z].take (sizeK k l).toNat := by
  have hkl := insOf_kl k l x y z
  have hs := ins_shape h
  obtain ⟨hk, hf, hr, hn⟩ := ins_chk_zero.1 h
  have hl : l = true → shapeT k = 8 ∨ shapeT k = 9 := fun hh => by
    have := long_shape _ hk.1 hk.2 (ins_long h (by rw [hkl.2]; exact hh))
    rw [hkl.1] at this
    exact this
  unfold Ins.enc
  rw [hkl.1] at hs ⊢
  rw [hkl.2]
  clear hkl h hk hf hn
  obtain ⟨hd, ha, hb⟩ := hr
  have b1 := num1_back x hx.1 hx.2
  have b2 := num1_back y hy.1 hy.2
  have b3 := num2_back y z hy.1 hy.2 hz.1 hz.2
  have b4 := num2_back x y hx.1 hx.2 hy.1 hy.2
  have e1 : x / 16 * 16 + x % 16 = x := by omega
  have e2 : y % 256 = y := by omega
  obtain ⟨s1, s2, s3, s4, s5, s6, s7, s8, s9, s10, s11⟩ := sizes_of
  have t2 : Int.toNat 2 = 2 := rfl
  have t3 : Int.toNat 3 = 3 := rfl
  have t4 : Int.toNat 4 = 4 := rfl
  cases l
  · rcases hs with hs | hs | hs | hs | hs | hs | hs | hs | hs | hs | hs <;> simp [insOf, encB, tailB, lastB, sizeK, hs, hop, s1, s2, s3, s4, s5, s6, s7, s8, s9, s10, s11, b1, b2, b3, e1, e2, t2, t3, t4, b4]
  · rcases hl rfl with hs | hs <;> simp [insOf, encB, tailB, lastB, sizeK, hs, hop, s8, s9, b3, b4, e1, t3, t4]
end Go.Proofs.YtgeljimckoodiaaDoor
namespace Go.Proofs.YtgeljimckoodiaaDoor
open Go.RowKit
theorem insOf_ext (k : Int) (l : Bool) (h1 : 1 ≤ k) (h2 : k ≤ 24) (hl : l = true → shapeT k = 8 ∨ shapeT k = 9) (x y z x' y' z' : Int) (hx : 2 ≤ sizeK k l → x = x') (hy : 3 ≤ sizeK k l → y = y') (hz : 4 ≤ sizeK k l → z = z') :
    insOf k l x y z = insOf k l x' y' z' := by
  have hb := shapeT_bd k h1 h2
  have hs : shapeT k = 1 ∨ shapeT k = 2 ∨ shapeT k = 3 ∨ shapeT k = 4 ∨ shapeT k = 5 ∨ shapeT k = 6 ∨ shapeT k = 7 ∨ shapeT k = 8 ∨ shapeT k = 9 ∨ shapeT k = 10 ∨ shapeT k = 11 := by omega
  obtain ⟨s1, s2, s3, s4, s5, s6, s7, s8, s9, s10, s11⟩ := sizes_of
  cases l
  · rcases hs with hs | hs | hs | hs | hs | hs | hs | hs | hs | hs | hs <;> simp [insOf, hs, sizeK, s1, s2, s3, s4, s5, s6, s7, s8, s9, s10, s11] at hx hy hz ⊢ <;> simp [*]
  · rcases hl rfl with hs | hs <;> simp [insOf, hs, sizeK, s8, s9] at hx hy hz ⊢ <;> simp [*]
theorem getD_mid (pre m post : List Int) (j : Nat) (h : j < m.length) : (pre ++ m ++ post).getD (pre.length + j) 0 = m.getD j 0 := by
  have : ¬ pre.length + j < pre.length := by omega
  simp [List.getD, List.getElem?_append, h, this]
theorem ins_hl {i : Ins} (h : i.chk = 0) : i.l = true → shapeT i.k = 8 ∨ shapeT i.k = 9 := fun hh => long_shape _ (ins_chk_zero.1 h).1.1 (ins_chk_zero.1 h).1.2 (ins_long h hh)
theorem enc_pos {i : Ins} (h : i.chk = 0) : 0 < i.enc.length ∧ i.enc.length ≤ 4 := by
  have h1 := enc_len h
  have h2 := sizeK_bd h
  omega
theorem enc_head {i : Ins} (_h : i.chk = 0) : i.enc.getD 0 0 = opL i.k i.l := rfl
theorem dec_enc (pre post : List Int) {i : Ins} (h : i.chk = 0) : decB (pre ++ i.enc ++ post) pre.length = (i, (i.enc.length : Int), 0) := by
  obtain ⟨hk, -, -, -⟩ := ins_chk_zero.1 h
  have hz := enc_len h
  have hp := enc_pos h
  have e0 := getD_mid pre i.enc post 0 hp.1
  have hle : pre.length + i.enc.length ≤ (pre ++ i.enc ++ post).length := by simp
  unfold decB
  rw [if_neg (by omega)]
  simp only [Int.toNat_natCast]
  rw [show pre.length = pre.length + 0 from rfl, e0, enc_head h, kind_op i.k hk.1 hk.2 i.l (ins_long h)]
  simp only [Nat.add_zero]
  rw [if_neg (by omega), if_neg (by omega)]
  have hI : insOf i.k i.l ((pre ++ i.enc ++ post).getD (pre.length + 1) 0) ((pre ++ i.enc ++ post).getD (pre.length + 2) 0) ((pre ++ i.enc ++ post).getD (pre.length + 3) 0) = i := by
    conv => rhs; rw [← insOf_enc h]
    exact insOf_ext i.k i.l hk.1 hk.2 (ins_hl h) _ _ _ _ _ _ (fun q => getD_mid _ _ _ _ (by omega)) (fun q => getD_mid _ _ _ _ (by omega)) (fun q => getD_mid _ _ _ _ (by omega))
  rw [hI, if_pos h, hz]
theorem dec_end (L : List Int) : decB L L.length = (Ins.zero, 0, 2) := by
  unfold decB
  rw [if_pos (by omega)]
theorem dec_cut {i : Ins} (h : i.chk = 0) (m : Nat) (h0 : 0 < m) (h1 : m < i.enc.length) : decB (i.enc.take m) 0 = (Ins.zero, 0, 5) := by
  obtain ⟨hk, -, -, -⟩ := ins_chk_zero.1 h
  have hz := enc_len h
  have hl : (i.enc.take m).length = m := by simp; omega
  have e0 : (i.enc.take m).getD 0 0 = opL i.k i.l := by
    rw [← enc_head h]
    simp [List.getD, h0]
  unfold decB
  rw [if_neg (by omega), show (0 : Int).toNat = 0 from rfl, e0, kind_op i.k hk.1 hk.2 i.l (ins_long h)]
  simp only
  rw [if_neg (by omega), if_pos (by omega)]
theorem take4 (L : List Int) (n : Nat) (hn : n ≤ 4) (hL : n ≤ L.length) : [L.getD 0 0, L.getD 1 0, L.getD 2 0, L.getD 3 0].take n = L.take n := by
  apply List.ext_getElem?
  intro j
  by_cases hj : j < n
  · rw [List.getElem?_take_of_lt hj, List.getElem?_take_of_lt hj]
    have hq : L[j]? = some (L.getD j 0) := by simp [List.getD, List.getElem?_eq_getElem (show j < L.length by omega)]
    rw [hq]
    match j, (show j < 4 by omega) with
    | 0, _ => rfl
    | 1, _ => rfl
    | 2, _ => rfl
    | 3, _ => rfl
  · rw [List.getElem?_eq_none (by simp; omega), List.getElem?_eq_none (by simp; omega)]
/-- what was decoded at the beginning is refused, or its bytes are those that stand there -/
theorem dec_fixed (L : List Int) (hb : ∀ x ∈ L, 0 ≤ x ∧ x < 256) : (∃ e, e ≠ 0 ∧ decB L 0 = (Ins.zero, 0, e)) ∨ (∃ i : Ins, i.chk = 0 ∧ i.enc.length ≤ L.length ∧ i.enc = L.take i.enc.length ∧ decB L 0 = (i, (i.enc.length : Int), 0)) := by
  have hd : ∀ j, 0 ≤ L.getD j 0 ∧ L.getD j 0 < 256 := fun j => by
    by_cases hj : j < L.length
    · have : L.getD j 0 = L[j] := by simp [List.getD, List.getElem?_eq_getElem hj]
      rw [this]
      exact hb _ (List.getElem_mem hj)
    · have : L.getD j 0 = 0 := by simp [List.getD, List.getElem?_eq_none (Nat.le_of_not_lt hj)]
      omega
  unfold decB
  by_cases h1 : (0 : Int) < 0 ∨ (L.length : Int) ≤ 0
  · rw [if_pos h1]; exact .inl ⟨2, by decide, rfl⟩
  rw [if_neg h1, show (0 : Int).toNat = 0 from rfl]
  simp only [Nat.zero_add]
  have hop := op_kind _ (hd 0).1 (hd 0).2
  generalize (kindOf (L.getD 0 0)).1 = k at *
  generalize (kindOf (L.getD 0 0)).2 = l at *
  by_cases hk0 : k = 0
  · rw [if_pos hk0]; exact .inl ⟨3, by decide, rfl⟩
  rw [if_neg hk0]
  by_cases hs : (L.length : Int) < 0 + sizeK k l
  · rw [if_pos hs]; exact .inl ⟨5, by decide, rfl⟩
  rw [if_neg hs]
  by_cases hc : (insOf k l (L.getD 1 0) (L.getD 2 0) (L.getD 3 0)).chk = 0
  · rw [if_pos hc]
    have hkl := insOf_kl k l (L.getD 1 0) (L.getD 2 0) (L.getD 3 0)
    have hz := enc_len hc
    have hzb := sizeK_bd hc
    rw [hkl.1, hkl.2] at hz hzb
    have he := enc_back k l _ _ _ _ (hop hk0) (hd 1) (hd 2) (hd 3) hc
    rw [take4 L _ (by omega) (by omega)] at he
    refine .inr ⟨_, hc, by omega, ?_, by rw [hz]⟩
    rw [show (insOf k l (L.getD 1 0) (L.getD 2 0) (L.getD 3 0)).enc.length = (sizeK k l).toNat by omega]
    exact he
  · rw [if_neg hc]; exact .inl ⟨4, by decide, rfl⟩
end Go.Proofs.YtgeljimckoodiaaDoor
