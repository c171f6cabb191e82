/- What a function's spots are good for. -/
import Derived.Test.YtlekjnnofhjgjaaDoorFlowF
namespace Go.Proofs.YtlekjnnofhjgjaaDoor
open Go.RowKit
theorem chk_n {i : Ins} (h : i.chk = 0) : (-32768 ≤ i.n ∧ i.n ≤ 32767) ∧ (i.k = 24 → 0 ≤ i.n) := by
  obtain ⟨h1, h2, h3, h4⟩ := ins_chk_zero.1 h
  obtain ⟨k, d, a, b, n, l⟩ := i
  simp only at h1 h2 h4 ⊢
  constructor
  · unfold nOk at h4
    split at h4
    · rw [inside_iff] at h4
      omega
    · split at h4
      · rw [inside_iff] at h4
        omega
      · rw [inside_iff] at h4
        omega
  · rintro rfl
    cases l
    · have e : nOk 24 n false = inside n 0 19 := by
        have s : shapeT 24 = 11 := by decide +kernel
        unfold nOk
        rw [s]
        rfl
      rw [e, inside_iff] at h4
      omega
    · have e : formBad 24 d a b n true = true := by
        have s : longT 24 = 0 := by decide +kernel
        unfold formBad
        rw [s]
        simp
      rw [e] at h2
      cases h2
theorem sweep_sp {text : List Int} {f : FnD} {l : List Sp} (h : sweepL text f = some l) (h0 : 0 ≤ f.start) (_h1 : 1 ≤ f.size) (h2 : f.start + f.size ≤ text.length) (h8 : text.length ≤ 8000) : ∀ s ∈ l, SpOk s ∧ f.start ≤ s.p ∧ s.p + s.z ≤ f.start + f.size ∧ 1 ≤ s.z := by
  intro s hs
  unfold sweepL at h
  split at h
  · cases h
  · rename_i l' hg
    split at h
    · injection h with h
      subst h
      obtain ⟨j, hj⟩ := List.getElem?_of_mem hs
      obtain ⟨a1, a2, a3⟩ := sweepGo_ok text (f.start + f.size) f.size.toNat f.start l' hg (by omega) j s hj
      have e : (decB text s.p).2.2 = 0 := by rw [a3]
      have hz := decB_sz e
      obtain ⟨hc, -⟩ := decB_ok e
      rw [a3] at hz hc
      simp only at hz hc
      obtain ⟨n1, n2⟩ := chk_n hc
      exact ⟨⟨⟨by omega, by omega⟩, ⟨by omega, by omega⟩, ⟨by omega, by omega⟩, n2⟩, a1, a2, hz.1⟩
    · cases h
end Go.Proofs.YtlekjnnofhjgjaaDoor
