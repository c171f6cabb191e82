/- Images that may not be, in plain words. -/
import Derived.Test.YtlekjnnofhjgjaaDoorFlowM
import Derived.Test.YtlekjnnofhjgjaaDoorPgmG
import Derived.Test.YtlekjnnofhjgjaaDoorImgX
namespace Go.Proofs.YtlekjnnofhjgjaaDoor
open Go.RowKit
def fst0 (g : FnD → FnD) : List FnD → List FnD
  | [] => []
  | f :: r => g f :: r
def badM (m : Img) (j : Nat) (k : Nat) : Img :=
  match j with
  | 0 => { m with funcs := fst0 (fun f => { f with start := k }) m.funcs }
  | 1 => { m with funcs := fst0 (fun f => { f with size := f.size + k }) m.funcs }
  | 2 => { m with entry := (m.funcs.length : Int) + k }
  | 3 => { m with tables := m.tables ++ [[(m.text.length : Int) + k]] }
  | 4 => { m with data := m.data ++ [1099511627776 + (k : Int)] }
  | 5 => { m with lines := m.lines ++ [((m.text.length : Int) + k, 1)] }
  | 6 => { m with funcs := fst0 (fun f => { f with name := ⟨#[65]⟩ }) m.funcs }
  | 7 => { m with text := m.text ++ List.replicate k 0 }
  | _ => { m with data := List.replicate (64 + k) 0 }
def badW (j : Nat) : Int := [8, 8, 6, 2, 2, 8, 4, 8, 1].getD j 0
structure ChkOk (m : Img) : Prop where
  tl : m.text.length ≤ 8000
  fe : funcsE m = 0
  en : ¬ (m.entry < 0 ∨ (m.funcs.length : Int) ≤ m.entry)
  tb : ¬ (20 < m.tables.length ∨ 64 < m.data.length)
  tg : tablesGo m.text.length m.tables = 0
  da : ¬ m.data.any oddN = true
  li : linesE m = 0
theorem chk_parts {m : Img} (h : checkE m = 0) : ChkOk m := by
  unfold checkE at h
  split at h
  · cases h
  · rename_i h1
    split at h
    · rename_i h2
      exact absurd h h2
    · rename_i h2
      split at h
      · cases h
      · rename_i h3
        split at h
        · cases h
        · rename_i h4
          unfold tailE at h
          split at h
          · rename_i h5
            unfold restE at h
            split at h
            · cases h
            · rename_i h6
              exact ⟨by omega, by omega, h3, h4, h5, h6, h⟩
          · rename_i h5
            exact absurd h h5
theorem chk_funcs {m : Img} {e : Int} (h1 : m.text.length ≤ 8000) (h : funcsE m = e) (he : e ≠ 0) : checkE m = e := by
  unfold checkE
  rw [if_neg (by omega), if_pos (by rw [h]; exact he), h]
theorem tables_last (T : Int) (t : List Int) (ht : t.length ≤ 20) (ho : t.any (oddAt T) = true) : ∀ ts, tablesGo T ts = 0 → tablesGo T (ts ++ [t]) = 2
  | [], _ => by
    show (if 20 < t.length then 1 else if t.any (oddAt T) = true then 2 else tablesGo T []) = 2
    rw [if_neg (by omega), if_pos ho]
  | a :: r, h => by
    simp only [tablesGo] at h
    split at h
    · cases h
    · rename_i h1
      split at h
      · cases h
      · rename_i h2
        rw [List.cons_append]
        simp only [tablesGo]
        rw [if_neg h1, if_neg h2]
        exact tables_last T t ht ho r h
theorem lines_last (T k : Int) (hk : 0 ≤ k) : ∀ (ls : List (Int × Int)) (last : Int), linesGo T last ls = 0 → linesGo T last (ls ++ [(T + k, 1)]) = 8
  | [], last, _ => by
    show (if (1 : Int) < 0 ∨ 10000 < (1 : Int) then 2 else if T + k ≤ last ∨ T ≤ T + k then 8 else linesGo T (T + k) []) = 8
    rw [if_neg (by decide), if_pos (by omega)]
  | a :: r, last, h => by
    simp only [linesGo] at h
    split at h
    · cases h
    · rename_i h1
      split at h
      · cases h
      · rename_i h2
        rw [List.cons_append]
        simp only [linesGo]
        rw [if_neg h1, if_neg h2]
        exact lines_last T k hk r _ h
theorem funcsE_of {m : Img} (h : m.funcs.length ≤ 40) : funcsE m = funcsGo m.text.length [] 0 m.funcs := by
  unfold funcsE
  rw [if_neg (by omega)]
theorem bad_check {m : Img} (hc : checkE m = 0) (hT : m.text.length ≤ 1600) (hf : 1 ≤ m.funcs.length ∧ m.funcs.length ≤ 3) (hb : m.tables.length ≤ 19) (hd : m.data.length ≤ 63) (hl : m.lines.length ≤ 3999) {j k : Nat} (hj : j < 9) (hk : 1 ≤ k ∧ k ≤ 50) : checkE (badM m j k) = badW j := by
  obtain ⟨c1, c2, c3, c4, c5, c6, c7⟩ := chk_parts hc
  have c2' := c2
  rw [funcsE_of (by omega)] at c2'
  obtain ⟨f0, r, hfr⟩ : ∃ f0 r, m.funcs = f0 :: r := by
    cases h : m.funcs with
    | nil => rw [h] at hf; simp at hf
    | cons a b => exact ⟨a, b, rfl⟩
  have hrl : r.length ≤ 2 := by
    have := hf.2
    rw [hfr, List.length_cons] at this
    omega
  rw [hfr] at c2'
  simp only [funcsGo] at c2'
  split at c2'
  · cases c2'
  · rename_i n1
    split at c2'
    · cases c2'
    · rename_i n2
      split at c2'
      · cases c2'
      · rename_i n3
        have h : j = 0 ∨ j = 1 ∨ j = 2 ∨ j = 3 ∨ j = 4 ∨ j = 5 ∨ j = 6 ∨ j = 7 ∨ j = 8 := by omega
        rcases h with rfl | rfl | rfl | rfl | rfl | rfl | rfl | rfl | rfl
        · refine chk_funcs (e := 8) c1 ?_ (by decide)
          rw [funcsE_of (by simp [badM, hfr, fst0]; omega)]
          simp only [badM, hfr, fst0, funcsGo]
          rw [if_neg n1, if_neg n2, if_pos (by omega)]
        · refine chk_funcs (e := 8) c1 ?_ (by decide)
          rw [funcsE_of (by simp [badM, hfr, fst0]; omega)]
          simp only [badM, hfr, fst0, funcsGo]
          rw [if_neg n1, if_neg n2]
          split
          · rfl
          · cases r with
            | nil =>
              simp only [funcsGo] at c2' ⊢
              split at c2'
              · rw [if_neg (by omega)]
              · cases c2'
            | cons f1 r1 =>
              simp only [funcsGo] at c2' ⊢
              split at c2'
              · cases c2'
              · rename_i q1
                split at c2'
                · cases c2'
                · rename_i q2
                  split at c2'
                  · cases c2'
                  · rw [if_neg q1, if_neg (by simpa [sameName] using q2), if_pos (by omega)]
        · show checkE { m with entry := (m.funcs.length : Int) + k } = 6
          unfold checkE
          rw [if_neg (by simp only; omega)]
          have e : funcsE { m with entry := (m.funcs.length : Int) + k } = 0 := c2
          rw [e, if_neg (by decide), if_pos (by simp only; omega)]
        · show checkE { m with tables := m.tables ++ [[(m.text.length : Int) + k]] } = 2
          unfold checkE
          rw [if_neg (by simp only; omega)]
          have e : funcsE { m with tables := m.tables ++ [[(m.text.length : Int) + k]] } = 0 := c2
          have e2 := tables_last m.text.length [(m.text.length : Int) + k] (by simp) (by simp [oddAt]; omega) m.tables c5
          rw [e, if_neg (by decide), if_neg c3, if_neg (by simp only [List.length_append, List.length_cons, List.length_nil]; omega)]
          unfold tailE
          simp only
          rw [e2, if_neg (by decide)]
        · show checkE { m with data := m.data ++ [1099511627776 + (k : Int)] } = 2
          unfold checkE
          rw [if_neg (by simp only; omega)]
          have e : funcsE { m with data := m.data ++ [1099511627776 + (k : Int)] } = 0 := c2
          rw [e, if_neg (by decide), if_neg c3, if_neg (by simp only [List.length_append, List.length_cons, List.length_nil]; omega)]
          unfold tailE restE
          simp only
          rw [c5, if_pos rfl, if_pos (by rw [List.any_append]; simp [oddN]; right; omega)]
        · show checkE { m with lines := m.lines ++ [((m.text.length : Int) + k, 1)] } = 8
          unfold checkE
          rw [if_neg (by simp only; omega)]
          have e : funcsE { m with lines := m.lines ++ [((m.text.length : Int) + k, 1)] } = 0 := c2
          rw [e, if_neg (by decide), if_neg c3, if_neg c4]
          unfold tailE restE linesE
          simp only
          have c7' := c7
          unfold linesE at c7'
          rw [if_neg (by omega)] at c7'
          rw [c5, if_pos rfl, if_neg c6, if_neg (by simp only [List.length_append, List.length_cons, List.length_nil]; omega)]
          exact lines_last _ _ (by omega) _ _ c7'
        · refine chk_funcs (e := 4) c1 ?_ (by decide)
          rw [funcsE_of (by simp [badM, hfr, fst0]; omega)]
          simp only [badM, hfr, fst0, funcsGo]
          rw [if_pos (by decide +kernel)]
        · refine chk_funcs (e := 8) (by simp [badM]; omega) ?_ (by decide)
          rw [funcsE_of (by simp [badM]; omega)]
          have c2'' := c2
          rw [funcsE_of (by omega)] at c2''
          have e := funcsGo_app (((m.text ++ List.replicate k 0).length : Nat) : Int) m.funcs [] 0 m.text.length [] c2'' (by simp; omega)
          rw [List.append_nil] at e
          show funcsGo (((m.text ++ List.replicate k 0).length : Nat) : Int) [] 0 m.funcs = 8
          rw [e]
          simp only [funcsGo]
          rw [if_neg (by simp; omega)]
        · show checkE { m with data := List.replicate (64 + k) 0 } = 1
          unfold checkE
          rw [if_neg (by simp only; omega)]
          have e : funcsE { m with data := List.replicate (64 + k) 0 } = 0 := c2
          rw [e, if_neg (by decide), if_neg c3, if_pos (by simp only [List.length_replicate]; omega)]
end Go.Proofs.YtlekjnnofhjgjaaDoor
