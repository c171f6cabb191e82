/- An image's bytes, in plain words: what is written, and what is read. -/
import Derived.Test.YtokbgdlenbhklaaDoorImgE
namespace Go.Proofs.YtokbgdlenbhklaaDoor
open Go.RowKit
def numB (n : Int) : Nat → List Int
 | 0 => []
 | k + 1 => numB (n / 256) k ++ [n % 256]
theorem numB_len (k : Nat) : ∀ n, (numB n k).length = k := by
 induction k with
 | zero => intro n; rfl
 | succ k ih => intro n; simp [numB, ih]
def encFn (f : FnD) : List Int := numB f.name.size 1 ++ strL f.name ++ numB f.size 2
def encTab (t : List Int) : List Int := numB t.length 1 ++ t.flatMap (numB · 2)
def encLn (l : Int × Int) : List Int := numB l.1 2 ++ numB l.2 2
def encBody (m : Img) : List Int :=
 numB m.text.length 2 ++ (m.text ++ (numB m.funcs.length 1 ++ (m.funcs.flatMap encFn ++ (numB m.entry 1 ++ (numB m.tables.length 1 ++ (m.tables.flatMap encTab ++ (numB m.data.length 1 ++ (m.data.flatMap (numB · 8) ++ (numB m.lines.length 2 ++ m.lines.flatMap encLn)))))))))
def magicL : List Int := [98, 104, 49, 10]
def encF (m : Img) : List Int := magicL ++ encBody m
structure RS where
 inp : List Int
 sh : Bool
def Img.zero : Img := ⟨[], [], [], [], [], 0⟩
/-! what is read, is written so -/
section
variable {α : Type} {f : RS → α × RS} {e : α → List Int}
end
/-! what is written is read back -/
def startsOk : Int → List FnD → Prop
 | _, [] => True
 | p, f :: r => f.start = p ∧ startsOk (p + f.size) r
structure Fits (m : Img) : Prop where
 tl : m.text.length ≤ 8000
 fl : m.funcs.length ≤ 40
 fs : startsOk 0 m.funcs
 fb : ∀ f ∈ m.funcs, f.name.size ≤ 16 ∧ 0 ≤ f.size ∧ f.size < 65536
 eb : 0 ≤ m.entry ∧ m.entry < 256
 bl : m.tables.length ≤ 20
 bb : ∀ t ∈ m.tables, t.length ≤ 20 ∧ ∀ x ∈ t, 0 ≤ x ∧ x < 65536
 dl : m.data.length ≤ 64
 db : ∀ x ∈ m.data, N64 x
 ll : m.lines.length ≤ 4000
 lb : ∀ l ∈ m.lines, (0 ≤ l.1 ∧ l.1 < 65536) ∧ 0 ≤ l.2 ∧ l.2 < 65536
theorem funcsGo_fit (T : Int) : ∀ (l prev : List FnD) (p : Int), 0 ≤ p → T ≤ 8000 → funcsGo T prev p l = 0 → startsOk p l ∧ ∀ f ∈ l, f.name.size ≤ 16 ∧ 0 ≤ f.size ∧ f.size < 65536 := by
 intro l
 induction l with
 | nil => intro prev p _ _ _; exact ⟨trivial, fun f hf => by cases hf⟩
 | cons f l ih =>
  intro prev p hp hT h; unfold funcsGo at h
  split at h
  · cases h
  · rename_i hn
    split at h
    · cases h
    · split at h
      · cases h
      · rename_i hc
        have h1 : f.start = p ∧ 1 ≤ f.size ∧ f.size ≤ T - p := by omega
        obtain ⟨i1, i2⟩ := ih _ _ (by omega) hT h; refine ⟨⟨h1.1, i1⟩, fun g hg => ?_⟩; rcases List.mem_cons.1 hg with rfl | hg
        · have hn2 : nameOk g.name = true := by simpa using hn
          unfold nameOk at hn2; simp only [Bool.and_eq_true, decide_eq_true_eq] at hn2; omega
        · exact i2 g hg
theorem linesGo_fit (T : Int) : ∀ (l : List (Int × Int)) (a : Int), -1 ≤ a → T ≤ 8000 → linesGo T a l = 0 → ∀ x ∈ l, (0 ≤ x.1 ∧ x.1 < 65536) ∧ 0 ≤ x.2 ∧ x.2 < 65536 := by
 intro l
 induction l with
 | nil => intro a _ _ _ x hx; cases hx
 | cons y l ih =>
  intro a ha hT h; unfold linesGo at h
  split at h
  · cases h
  · split at h
    · cases h
    · intro x hx; rcases List.mem_cons.1 hx with rfl | hx
      · omega
      · exact ih _ (by omega) hT h x hx
theorem tablesGo_fit (T : Int) (hT : T ≤ 8000) : ∀ l : List (List Int), tablesGo T l = 0 → ∀ t ∈ l, t.length ≤ 20 ∧ ∀ x ∈ t, 0 ≤ x ∧ x < 65536 := by
 intro l
 induction l with
 | nil => intro _ t ht; cases ht
 | cons y l ih =>
  intro h; unfold tablesGo at h
  split at h
  · cases h
  · split at h
    · cases h
    · rename_i h1 h2
      intro t ht; rcases List.mem_cons.1 ht with rfl | ht
      · refine ⟨by omega, fun x hx => ?_⟩
        have : oddAt T x = false := by
         rcases hb : oddAt T x with _ | _
         · rfl
         · exact absurd (List.any_eq_true.2 ⟨x, hx, hb⟩) h2
        unfold oddAt at this; simp only [Bool.or_eq_false_iff, decide_eq_false_iff_not] at this; omega
      · exact ih h t ht
theorem check_fits {m : Img} (h : checkE m = 0) : Fits m := by
 unfold checkE at h
 split at h
 · cases h
 · rename_i h1
   split at h
   · rename_i h2
     exact absurd h h2
   · rename_i h2
     split at h
     · cases h
     · rename_i h3
       split at h
       · cases h
       · rename_i h4
         have h2' : funcsE m = 0 := by simpa using h2
         unfold funcsE at h2'
         split at h2'
         · cases h2'
         · rename_i h5
           obtain ⟨f1, f2⟩ := funcsGo_fit _ _ _ 0 (Int.le_refl _) (by omega) h2'; unfold tailE at h
           split at h
           · rename_i h6
             unfold restE at h
             split at h
             · cases h
             · rename_i h7
               unfold linesE at h
               split at h
               · cases h
               · rename_i h8
                 refine ⟨by omega, by omega, f1, f2, by omega, by omega, tablesGo_fit _ (by omega) _ h6, by omega, fun x hx => ?_, by omega, linesGo_fit _ _ (-1) (by omega) (by omega) h⟩
                 have : oddN x = false := by
                  rcases hb : oddN x with _ | _
                  · rfl
                  · exact absurd (List.any_eq_true.2 ⟨x, hx, hb⟩) h7
                 unfold oddN at this; simp only [Bool.or_eq_false_iff, decide_eq_false_iff_not] at this; unfold N64; omega
           · rename_i h6
             exact absurd h h6
theorem flat_len_le {α : Type} {F : α → List Int} {c : Nat} : ∀ (l : List α), (∀ x ∈ l, (F x).length ≤ c) → (l.flatMap F).length ≤ l.length * c := by
 intro l
 induction l with
 | nil => intro _; simp
 | cons x l ih =>
  intro h; have h1 := h x (by simp); have h2 := ih fun y hy => h y (by simp [hy])
  simp only [List.flatMap_cons, List.length_append, List.length_cons, Nat.add_mul]; omega
theorem Fits.len {m : Img} (h : Fits m) : (encF m).length ≤ 30000 := by
 have h1 := flat_len_le (F := encFn) (c := 19) m.funcs fun f hf => by
  have := (h.fb f hf).1; simp only [encFn, List.length_append, numB_len, strL_len]; omega
 have h2 := flat_len_le (F := encTab) (c := 41) m.tables fun t ht => by
  have := (h.bb t ht).1; have h3 := flat_len_le (F := (numB · 2)) (c := 2) t fun x _ => by simp [numB_len]
  simp only [encTab, List.length_append, numB_len]; omega
 have h3 := flat_len_le (F := (numB · 8)) (c := 8) m.data fun x _ => by simp [numB_len]
 have h4 := flat_len_le (F := encLn) (c := 4) m.lines fun x _ => by simp [encLn, numB_len]
 have a1 := h.tl; have a2 := h.fl; have a3 := h.bl; have a4 := h.dl; have a5 := h.ll; simp only [encF, encBody, magicL, List.length_append, numB_len, List.length_cons, List.length_nil]; omega
end Go.Proofs.YtokbgdlenbhklaaDoor
