/- A program with a last function that can't be followed, in plain words. -/
import Derived.Test.YtlekjnnofhjgjaaDoorFlowM
import Derived.Test.YtlekjnnofhjgjaaDoorPgmG
import Derived.Test.YtlekjnnofhjgjaaDoorImgX
namespace Go.Proofs.YtlekjnnofhjgjaaDoor
open Go.RowKit
def oddL : Nat → List Ins
  | 0 => [⟨4, 0, 0, 0, 0, false⟩]
  | 1 => [⟨22, 0, 0, 0, 1, false⟩]
  | 2 => [⟨18, 0, 0, 0, 1, false⟩, ⟨1, 0, 0, 0, 0, false⟩]
  | 3 => [⟨23, 0, 0, 0, 1, false⟩, ⟨1, 0, 0, 0, 0, false⟩]
  | 4 => [⟨22, 0, 0, 0, -1, false⟩]
  | _ => [⟨17, 0, 0, 0, 0, false⟩]
def oddN3 : ByteArray := ⟨#[111, 100, 100]⟩
def withOdd (m : Img) (j : Nat) : Img := ⟨m.text ++ encAll (oddL j), m.funcs ++ [⟨oddN3, m.text.length, (encAll (oddL j)).length⟩], m.tables, m.data, m.lines, m.entry⟩
theorem odd_chk {j : Nat} (hj : j < 6) : ∀ i ∈ oddL j, i.chk = 0 := by
  have h : j = 0 ∨ j = 1 ∨ j = 2 ∨ j = 3 ∨ j = 4 ∨ j = 5 := by omega
  rcases h with rfl | rfl | rfl | rfl | rfl | rfl <;> decide +kernel
theorem odd_len {j : Nat} (hj : j < 6) : (1 ≤ (oddL j).length ∧ (oddL j).length ≤ 2) ∧ (1 ≤ (encAll (oddL j)).length ∧ (encAll (oddL j)).length ≤ 8) := by
  have h : j = 0 ∨ j = 1 ∨ j = 2 ∨ j = 3 ∨ j = 4 ∨ j = 5 := by omega
  rcases h with rfl | rfl | rfl | rfl | rfl | rfl <;> decide +kernel
theorem odd_check {bs : List (List Spot)} {fs : List Int} (h : PlanOk bs fs) (hk : ∀ i ∈ progI bs fs, i.chk = 0) (L : List RawI) {j : Nat} (hj : j < 6) : checkE (withOdd (imgOf bs fs L) j) = 0 := by
  have hT := prog_len h hk
  have hb := flat_bd h
  have hf := h.nf
  have hfl : (fnL bs fs).length = fs.length := by simp [fnL]
  have hlines := linL_len bs.flatten 0 0
  have hns := h.ns
  obtain ⟨T, hTe⟩ : ∃ z, szL bs.flatten = z := ⟨_, rfl⟩
  have hgo := funcs_ok h
  rw [hTe] at hT hb hgo
  obtain ⟨-, hz1, hz2⟩ := odd_len hj
  obtain ⟨Z, hZ⟩ : ∃ z, encAll (oddL j) = z := ⟨_, rfl⟩
  have hfe : funcsE (withOdd (imgOf bs fs L) j) = 0 := by
    unfold funcsE withOdd imgOf
    rw [hZ] at hz1 hz2 ⊢
    simp only [List.length_append, List.length_cons, List.length_nil]
    rw [if_neg (by rw [hfl]; omega), funcsGo_app _ _ _ _ T _ hgo (by omega), hT]
    simp only [funcsGo, List.nil_append]
    rw [if_neg (by decide +kernel), if_neg (by rw [fnL_no _ _ _ hf.2 (by decide +kernel)]; decide), if_neg (by omega), if_pos (by omega)]
  have htl : T ≤ (((withOdd (imgOf bs fs L) j).text.length : Nat) : Int) := by
    show T ≤ (((encAll (progI bs fs) ++ encAll (oddL j)).length : Nat) : Int)
    rw [List.length_append]
    omega
  have htb : tablesGo (withOdd (imgOf bs fs L) j).text.length (withOdd (imgOf bs fs L) j).tables = 0 := by
    refine tables_more T _ htl _ (tables_ok _ _ fun t ht => ?_)
    have ht' : t ∈ tabL bs fs L := ht
    unfold tabL at ht'
    obtain ⟨i, _, rfl⟩ := List.mem_map.1 ht'
    have := tab_ok h L i
    rw [hTe] at this
    exact this
  have hli : linesE (withOdd (imgOf bs fs L) j) = 0 := by
    unfold linesE
    rw [if_neg (by show ¬ 4000 < (linL 0 0 bs.flatten).length; omega)]
    exact lines_more T _ htl _ _ (lines_ok _ bs.flatten 0 0 (-1) h.flat (by decide) (by omega))
  unfold checkE
  rw [if_neg (by show ¬ 8000 < (encAll (progI bs fs) ++ encAll (oddL j)).length; rw [List.length_append]; omega), hfe, if_neg (by decide)]
  have hent : ∀ x : FnD, ¬ ((0 : Int) < 0 ∨ (((fnL bs fs ++ [x]).length : Nat) : Int) ≤ 0) := fun x => by rw [List.length_append, hfl]; simp
  unfold tailE restE
  rw [if_neg (show ¬ ((withOdd (imgOf bs fs L) j).entry < 0 ∨ ((withOdd (imgOf bs fs L) j).funcs.length : Int) ≤ (withOdd (imgOf bs fs L) j).entry) from hent _),
    if_neg (by show ¬ (20 < (tabL bs fs L).length ∨ 64 < 6); simp [tabL]), htb, if_pos rfl, if_neg (by show ¬ ([5, -3, 0, 7, 1, 2] : List Int).any oddN = true; decide), hli]
/-- what the odd function's sweep finds -/
theorem odd_sweep (m : Img) {j : Nat} (hj : j < 6) : sweepL (withOdd m j).text ⟨oddN3, m.text.length, (encAll (oddL j)).length⟩ = if lastOk (spotsOf m.text.length (oddL j)) = true then some (spotsOf m.text.length (oddL j)) else none := by
  have h := sweepGo_enc [] (oddL j) m.text (encAll (oddL j)).length (odd_chk hj) (Nat.le_refl _)
  rw [List.append_nil] at h
  unfold sweepL withOdd
  simp only [Int.toNat_natCast]
  rw [h]
theorem odd_none {m : Img} (hc : checkE m = 0) {j : Nat} (hj : j < 6) : recL (withOdd m j) = none := by
  refine rec_last (fs := m.funcs) rfl fun l hl own ld hown => ?_
  rw [odd_sweep m hj] at hl
  have hfn := fns_ok hc
  obtain ⟨T, hT⟩ : ∃ z, (m.text.length : Int) = z := ⟨_, rfl⟩
  rw [hT] at hl hfn
  have h : j = 0 ∨ j = 1 ∨ j = 2 ∨ j = 3 ∨ j = 4 ∨ j = 5 := by omega
  rcases h with rfl | rfl | rfl | rfl | rfl | rfl
  · rw [if_neg (by simp [oddL, spotsOf, lastOk, stopsI])] at hl
    cases hl
  · rw [if_pos (by simp [oddL, spotsOf, lastOk, stopsI])] at hl
    injection hl with hl
    subst hl
    have hno : ¬ own (T + 1) = some (m.funcs.length : Int) := fun e => by
      obtain ⟨s, hs, hp⟩ := hown _ e
      simp only [oddL, spotsOf, List.mem_cons, List.not_mem_nil, or_false] at hs
      subst hs
      simp only at hp
      omega
    simp only [oddL, spotsOf, markGo, markS, branchI]
    rw [if_pos (by simp), if_neg (by simpa using hno)]
    rfl
  · rw [if_pos (by simp [oddL, spotsOf, lastOk, stopsI])] at hl
    injection hl with hl
    subst hl
    have hno : ¬ own (T + 1) = some (m.funcs.length : Int) := fun e => by
      obtain ⟨s, hs, hp⟩ := hown _ e
      have e3 : (Ins.enc ⟨18, 0, 0, 0, 1, false⟩).length = 3 := by decide +kernel
      simp only [oddL, spotsOf, List.mem_cons, List.not_mem_nil, or_false, e3] at hs
      rcases hs with rfl | rfl
      · simp only at hp
        omega
      · simp only at hp
        omega
    simp only [oddL, spotsOf, markGo, markS, branchI]
    rw [if_pos (by simp), if_neg (by simpa using hno)]
    rfl
  · rw [if_pos (by simp [oddL, spotsOf, lastOk, stopsI])] at hl
    injection hl with hl
    subst hl
    have hno : ¬ (withOdd m 3).funcs.any (fun g => g.start == T + 1) = true := fun e => by
      obtain ⟨g, hg, hp⟩ := List.any_eq_true.1 e
      have hp' : g.start = T + 1 := by simpa using hp
      rcases List.mem_append.1 hg with hg | hg
      · have := hfn g hg
        omega
      · simp only [List.mem_cons, List.not_mem_nil, or_false] at hg
        subst hg
        simp only at hp'
        omega
    simp only [oddL, spotsOf, markGo, markS, branchI, stopsI]
    rw [if_neg (by simp), if_neg (by simp), if_pos trivial, if_neg (by simpa using hno)]
    rfl
  · rw [if_pos (by simp [oddL, spotsOf, lastOk, stopsI])] at hl
    injection hl with hl
    subst hl
    have hno : ¬ own (T + -1) = some (m.funcs.length : Int) := fun e => by
      obtain ⟨s, hs, hp⟩ := hown _ e
      simp only [oddL, spotsOf, List.mem_cons, List.not_mem_nil, or_false] at hs
      subst hs
      simp only at hp
      omega
    simp only [oddL, spotsOf, markGo, markS, branchI]
    rw [if_pos (by simp), if_neg (by simpa using hno)]
    rfl
  · rw [if_neg (by simp [oddL, spotsOf, lastOk, stopsI])] at hl
    cases hl
end Go.Proofs.YtlekjnnofhjgjaaDoor
