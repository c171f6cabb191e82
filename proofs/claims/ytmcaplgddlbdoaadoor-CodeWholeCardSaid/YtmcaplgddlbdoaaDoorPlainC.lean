/- Plain law: what is decoded of bytes that were encoded. -/
import Derived.Test.YtmcaplgddlbdoaaDoorPlainB
import Derived.Test.YtmcaplgddlbdoaaDoorRd
namespace Go.Proofs.YtmcaplgddlbdoaaDoor
open Go.RowKit
theorem insOf_ext (k : Int) (l : Bool) (h1 : 1 ≤ k) (h2 : k ≤ 24) (hl : l = true → shapeT k = 8 ∨ shapeT k = 9) (x y z x' y' z' : Int) (hx : 2 ≤ sizeK k l → x = x') (hy : 3 ≤ sizeK k l → y = y') (hz : 4 ≤ sizeK k l → z = z') :
    insOf k l x y z = insOf k l x' y' z' := by
  have hb := shapeT_bd k h1 h2
  have hs : shapeT k = 1 ∨ shapeT k = 2 ∨ shapeT k = 3 ∨ shapeT k = 4 ∨ shapeT k = 5 ∨ shapeT k = 6 ∨ shapeT k = 7 ∨ shapeT k = 8 ∨ shapeT k = 9 ∨ shapeT k = 10 ∨ shapeT k = 11 := by omega
  obtain ⟨s1, s2, s3, s4, s5, s6, s7, s8, s9, s10, s11⟩ := sizes_of
  cases l
  · rcases hs with hs | hs | hs | hs | hs | hs | hs | hs | hs | hs | hs <;> simp [insOf, hs, sizeK, s1, s2, s3, s4, s5, s6, s7, s8, s9, s10, s11] at hx hy hz ⊢ <;> simp [*]
  · rcases hl rfl with hs | hs <;> simp [insOf, hs, sizeK, s8, s9] at hx hy hz ⊢ <;> simp [*]
theorem getD_mid (pre m post : List Int) (j : Nat) (h : j < m.length) : (pre ++ m ++ post).getD (pre.length + j) 0 = m.getD j 0 := by
  have : ¬ pre.length + j < pre.length := by omega
  simp [List.getD, List.getElem?_append, h, this]
theorem ins_hl {i : Ins} (h : i.chk = 0) : i.l = true → shapeT i.k = 8 ∨ shapeT i.k = 9 := fun hh => long_shape _ (ins_chk_zero.1 h).1.1 (ins_chk_zero.1 h).1.2 (ins_long h hh)
theorem enc_pos {i : Ins} (h : i.chk = 0) : 0 < i.enc.length ∧ i.enc.length ≤ 4 := by
  have h1 := enc_len h
  have h2 := sizeK_bd h
  omega
theorem enc_head {i : Ins} (_h : i.chk = 0) : i.enc.getD 0 0 = opL i.k i.l := rfl
theorem dec_enc (pre post : List Int) {i : Ins} (h : i.chk = 0) : decB (pre ++ i.enc ++ post) pre.length = (i, (i.enc.length : Int), 0) := by
  obtain ⟨hk, -, -, -⟩ := ins_chk_zero.1 h
  have hz := enc_len h
  have hp := enc_pos h
  have e0 := getD_mid pre i.enc post 0 hp.1
  have hle : pre.length + i.enc.length ≤ (pre ++ i.enc ++ post).length := by simp
  unfold decB
  rw [if_neg (by omega)]
  simp only [Int.toNat_natCast]
  rw [show pre.length = pre.length + 0 from rfl, e0, enc_head h, kind_op i.k hk.1 hk.2 i.l (ins_long h)]
  simp only [Nat.add_zero]
  rw [if_neg (by omega), if_neg (by omega)]
  have hI : insOf i.k i.l ((pre ++ i.enc ++ post).getD (pre.length + 1) 0) ((pre ++ i.enc ++ post).getD (pre.length + 2) 0) ((pre ++ i.enc ++ post).getD (pre.length + 3) 0) = i := by
    conv => rhs; rw [← insOf_enc h]
    exact insOf_ext i.k i.l hk.1 hk.2 (ins_hl h) _ _ _ _ _ _ (fun q => getD_mid _ _ _ _ (by omega)) (fun q => getD_mid _ _ _ _ (by omega)) (fun q => getD_mid _ _ _ _ (by omega))
  rw [hI, if_pos h, hz]
theorem dec_end (L : List Int) : decB L L.length = (Ins.zero, 0, 2) := by
  unfold decB
  rw [if_pos (by omega)]
theorem dec_cut {i : Ins} (h : i.chk = 0) (m : Nat) (h0 : 0 < m) (h1 : m < i.enc.length) : decB (i.enc.take m) 0 = (Ins.zero, 0, 5) := by
  obtain ⟨hk, -, -, -⟩ := ins_chk_zero.1 h
  have hz := enc_len h
  have hl : (i.enc.take m).length = m := by simp; omega
  have e0 : (i.enc.take m).getD 0 0 = opL i.k i.l := by
    rw [← enc_head h]
    simp [List.getD, h0]
  unfold decB
  rw [if_neg (by omega), show (0 : Int).toNat = 0 from rfl, e0, kind_op i.k hk.1 hk.2 i.l (ins_long h)]
  simp only
  rw [if_neg (by omega), if_pos (by omega)]
theorem take4 (L : List Int) (n : Nat) (hn : n ≤ 4) (hL : n ≤ L.length) : [L.getD 0 0, L.getD 1 0, L.getD 2 0, L.getD 3 0].take n = L.take n := by
  apply List.ext_getElem?
  intro j
  by_cases hj : j < n
  · rw [List.getElem?_take_of_lt hj, List.getElem?_take_of_lt hj]
    have hq : L[j]? = some (L.getD j 0) := by simp [List.getD, List.getElem?_eq_getElem (show j < L.length by omega)]
    rw [hq]
    match j, (show j < 4 by omega) with
    | 0, _ => rfl
    | 1, _ => rfl
    | 2, _ => rfl
    | 3, _ => rfl
  · rw [List.getElem?_eq_none (by simp; omega), List.getElem?_eq_none (by simp; omega)]
/-- what was decoded at the beginning is refused, or its bytes are those that stand there -/
theorem dec_fixed (L : List Int) (hb : ∀ x ∈ L, 0 ≤ x ∧ x < 256) : (∃ e, e ≠ 0 ∧ decB L 0 = (Ins.zero, 0, e)) ∨ (∃ i : Ins, i.chk = 0 ∧ i.enc.length ≤ L.length ∧ i.enc = L.take i.enc.length ∧ decB L 0 = (i, (i.enc.length : Int), 0)) := by
  have hd : ∀ j, 0 ≤ L.getD j 0 ∧ L.getD j 0 < 256 := fun j => by
    by_cases hj : j < L.length
    · have : L.getD j 0 = L[j] := by simp [List.getD, List.getElem?_eq_getElem hj]
      rw [this]
      exact hb _ (List.getElem_mem hj)
    · have : L.getD j 0 = 0 := by simp [List.getD, List.getElem?_eq_none (Nat.le_of_not_lt hj)]
      omega
  unfold decB
  by_cases h1 : (0 : Int) < 0 ∨ (L.length : Int) ≤ 0
  · rw [if_pos h1]; exact .inl ⟨2, by decide, rfl⟩
  rw [if_neg h1, show (0 : Int).toNat = 0 from rfl]
  simp only [Nat.zero_add]
  have hop := op_kind _ (hd 0).1 (hd 0).2
  generalize (kindOf (L.getD 0 0)).1 = k at *
  generalize (kindOf (L.getD 0 0)).2 = l at *
  by_cases hk0 : k = 0
  · rw [if_pos hk0]; exact .inl ⟨3, by decide, rfl⟩
  rw [if_neg hk0]
  by_cases hs : (L.length : Int) < 0 + sizeK k l
  · rw [if_pos hs]; exact .inl ⟨5, by decide, rfl⟩
  rw [if_neg hs]
  by_cases hc : (insOf k l (L.getD 1 0) (L.getD 2 0) (L.getD 3 0)).chk = 0
  · rw [if_pos hc]
    have hkl := insOf_kl k l (L.getD 1 0) (L.getD 2 0) (L.getD 3 0)
    have hz := enc_len hc
    have hzb := sizeK_bd hc
    rw [hkl.1, hkl.2] at hz hzb
    have he := enc_back k l _ _ _ _ (hop hk0) (hd 1) (hd 2) (hd 3) hc
    rw [take4 L _ (by omega) (by omega)] at he
    refine .inr ⟨_, hc, by omega, ?_, by rw [hz]⟩
    rw [show (insOf k l (L.getD 1 0) (L.getD 2 0) (L.getD 3 0)).enc.length = (sizeK k l).toNat by omega]
    exact he
  · rw [if_neg hc]; exact .inl ⟨4, by decide, rfl⟩
end Go.Proofs.YtmcaplgddlbdoaaDoor
