/- The programs of Memory, Branches, Calls, run. -/
import Derived.Test.YtgeljimckoodiaaDoorKeepL
namespace Go.Proofs.YtgeljimckoodiaaDoor
open Go.RowKit
theorem chk_all {P : List Ins} (h : (P.all fun i => i.chk == 0) = true) : ∀ i ∈ P, i.chk = 0 := fun i hi => by
  have := List.all_eq_true.1 h i hi
  simpa using this
theorem fin6 {p : Int → Prop} (h : ∀ n : Fin 6, p (n.val : Int)) (k : Int) (h1 : 0 ≤ k) (h2 : k < 6) : p k := by
  have := h ⟨k.toNat, by omega⟩
  simpa [Int.toNat_of_nonneg h1] using this
theorem with_halt {L : List Ins} (h : ∀ i ∈ L, i.chk = 0) : ∀ i ∈ L ++ [haltI], i.chk = 0 := by
  intro i hi
  rcases List.mem_append.1 hi with h' | h'
  · exact h i h'
  · rw [List.mem_singleton.1 h']
    exact halt_chk
theorem li_chk (d v : Int) (hd : 0 ≤ d ∧ d < 8) (hv : -32768 ≤ v ∧ v ≤ 32767) : (⟨5, d, 0, 0, v, false⟩ : Ins).chk = 0 := by
  rw [ins_chk_zero]
  refine ⟨by simp, ?_, ⟨hd, by simp, by simp⟩, ?_⟩
  · simp [formBad, tab_5, hasD, hasA, hasB, hasN]
  · simp only [nOk, tab_5]
    simp
    rw [inside_iff]
    exact hv
theorem near_chk (k d a b n : Int) (hk : k = 14 ∨ k = 15) (hd : 0 ≤ d ∧ d < 8) (ha : 0 ≤ a ∧ a < 8) (hb : 0 ≤ b ∧ b < 8) (hn : -128 ≤ n ∧ n ≤ 127) (h14 : k = 14 → b = 0) (h15 : k = 15 → d = 0) : (⟨k, d, a, b, n, false⟩ : Ins).chk = 0 := by
  rw [ins_chk_zero]
  rcases hk with rfl | rfl
  · refine ⟨by simp, ?_, ⟨hd, ha, hb⟩, ?_⟩
    · simp [formBad, tab_14, hasD, hasA, hasB, hasN, h14 rfl]
    · simp only [nOk, tab_14]
      simp
      rw [inside_iff]
      exact hn
  · refine ⟨by simp, ?_, ⟨hd, ha, hb⟩, ?_⟩
    · simp [formBad, tab_15, hasD, hasA, hasB, hasN, h15 rfl]
    · simp only [nOk, tab_15]
      simp
      rw [inside_iff]
      exact hn
def memL (v a b : Int) : List Ins := [⟨5, 1, 0, 0, v, false⟩, ⟨15, 0, 0, 1, a, false⟩, ⟨14, 2, 0, 0, a, false⟩, ⟨17, 0, 2, 0, 0, false⟩, ⟨14, 3, 0, 0, b, false⟩, ⟨17, 0, 3, 0, 0, false⟩]
def memN (a : Int) : List Ins := [⟨14, 2, 0, 0, 6 + a, false⟩]
def memO (a : Int) : List Ins := [⟨15, 0, 0, 0, -1 - a, false⟩]
def wasN (v a b : Int) : Int := if a = b then v else [5, -3, 0, 7, 1, 2].getD b.toNat 0
theorem memL_chk (v a b : Int) (hv : 0 ≤ v ∧ v < 1000) (ha : 0 ≤ a ∧ a < 6) (hb : 0 ≤ b ∧ b < 6) : ∀ i ∈ memL v a b, i.chk = 0 := by
  intro i hi
  simp only [memL, List.mem_cons, List.not_mem_nil, or_false] at hi
  rcases hi with rfl | rfl | rfl | rfl | rfl | rfl
  · exact li_chk _ _ (by decide) (by omega)
  · exact near_chk _ _ _ _ _ (by decide) (by decide) (by decide) (by decide) (by omega) (by decide) (by decide)
  · exact near_chk _ _ _ _ _ (by decide) (by decide) (by decide) (by decide) (by omega) (by decide) (by decide)
  · decide
  · exact near_chk _ _ _ _ _ (by decide) (by decide) (by decide) (by decide) (by omega) (by decide) (by decide)
  · decide
theorem memN_chk (a : Int) (ha : 0 ≤ a ∧ a < 6) : ∀ i ∈ memN a, i.chk = 0 := by
  intro i hi
  simp only [memN, List.mem_singleton] at hi
  subst hi
  exact near_chk _ _ _ _ _ (by decide) (by decide) (by decide) (by decide) (by omega) (by decide) (by decide)
theorem memO_chk (a : Int) (ha : 0 ≤ a ∧ a < 6) : ∀ i ∈ memO a, i.chk = 0 := by
  intro i hi
  simp only [memO, List.mem_singleton] at hi
  subst hi
  exact near_chk _ _ _ _ _ (by decide) (by decide) (by decide) (by decide) (by omega) (by decide) (by decide)
/-- each of them is done -/
def lineDo : List Ins → MSt → Prop
  | [], _ => True
  | i :: r, s => (flowsB i.k = false ∧ (doS s i.k i.d i.a i.b i.n).2 = 0) ∧ lineDo r (stepL i s)
theorem lineOk_of : ∀ (L : List Ins) (s : MSt), (∀ i ∈ L, i.chk = 0) → lineDo L s → lineOk L s
  | [], _, _, _ => trivial
  | i :: r, s, h, hd => ⟨⟨h i (by simp), hd.1.1, hd.1.2⟩, lineOk_of r _ (fun j hj => h j (by simp [hj])) hd.2⟩
set_option maxRecDepth 100000 in
set_option maxHeartbeats 4000000 in
theorem memL_line (v : Int) (m : Img) (hm : m.data = [5, -3, 0, 7, 1, 2]) (a b : Int) (ha : 0 ≤ a ∧ a < 6) (hb : 0 ≤ b ∧ b < 6) : lineDo (memL v a b) (startS m []) ∧ (lineS (memL v a b) (startS m [])).told = [v, wasN v a b] := by
  have ha' : a = 0 ∨ a = 1 ∨ a = 2 ∨ a = 3 ∨ a = 4 ∨ a = 5 := by omega
  have hb' : b = 0 ∨ b = 1 ∨ b = 2 ∨ b = 3 ∨ b = 4 ∨ b = 5 := by omega
  clear ha hb
  rcases ha' with rfl | rfl | rfl | rfl | rfl | rfl <;> rcases hb' with rfl | rfl | rfl | rfl | rfl | rfl <;> exact ⟨by simp [memL, lineDo, stepL, doS, memS, startS, regAt, List.replicate, hm, flowsB], by simp [memL, lineS, stepL, doS, memS, startS, regAt, List.replicate, hm, wasN]⟩
theorem memL_run (v a b : Int) (hv : 0 ≤ v ∧ v < 1000) (ha : 0 ≤ a ∧ a < 6) (hb : 0 ≤ b ∧ b < 6) : (runS (aloneM (memL v a b)) [] 100).told = [v, wasN v a b] ∧ (runS (aloneM (memL v a b)) [] 100).en = 1 := by
  have hl := memL_line v (aloneM (memL v a b)) rfl a b ha hb
  have hR := runS_line (memL v a b) [] 93 (by simp [memL]) (lineOk_of _ _ (memL_chk v a b hv ha hb) hl.1)
  obtain ⟨S, hS⟩ : ∃ S, lineS (memL v a b) (startS (aloneM (memL v a b)) []) = S := ⟨_, rfl⟩
  rw [hS] at hR hl
  rw [hR]
  exact ⟨hl.2, rfl⟩
theorem runS_stop (L : List Ins) (i : Ins) (r : List Ins) (I : List Int) (z : Int) (hL : L = i :: r) (hk : ∀ i ∈ L, i.chk = 0) (hf : flowsB i.k = false) (hd : doS (startS (aloneM L) I) i.k i.d i.a i.b i.n = (startS (aloneM L) I, z)) (hz : z ≠ 0) :
    (runS (aloneM L) I 100).told = [] ∧ (runS (aloneM L) I 100).en = z := by
  have h := ix_stop (m := aloneM L) (f := 99) (s := startS (aloneM L) I) 0 rfl (with_halt hk) (i := i) (by rw [hL]; rfl) rfl hf hd hz
  have e : runS (aloneM L) I 100 = runGo (aloneM L) (99 + 1) (startS (aloneM L) I) := rfl
  rw [e, h]
  exact ⟨rfl, rfl⟩
theorem memN_run (a : Int) (ha : 0 ≤ a ∧ a < 6) : (runS (aloneM (memN a)) [] 100).told = [] ∧ (runS (aloneM (memN a)) [] 100).en = 2 := by
  refine runS_stop (memN a) ⟨14, 2, 0, 0, 6 + a, false⟩ [] [] 2 rfl (memN_chk a ha) rfl ?_ (by decide)
  simp [doS, memS, startS, regAt, aloneM, List.replicate]
  omega
theorem memO_run (a : Int) (ha : 0 ≤ a ∧ a < 6) : (runS (aloneM (memO a)) [] 100).told = [] ∧ (runS (aloneM (memO a)) [] 100).en = 2 := by
  refine runS_stop (memO a) ⟨15, 0, 0, 0, -1 - a, false⟩ [] [] 2 rfl (memO_chk a ha) rfl ?_ (by decide)
  simp [doS, memS, startS, regAt, aloneM, List.replicate]
  omega
/-- a branch over one instruction -/
def brL (k n : Int) (l : Bool) : List Ins := [⟨16, 1, 0, 0, 0, false⟩, ⟨16, 2, 0, 0, 0, false⟩, ⟨k, 0, 1, 2, n, l⟩, ⟨17, 0, 1, 0, 0, false⟩, ⟨17, 0, 2, 0, 0, false⟩]
theorem brL_chk (k : Int) (l : Bool) (hk : 18 ≤ k ∧ k ≤ 21) : ∀ i ∈ brL k (if l then 6 else 5) l, i.chk = 0 := by
  have : k = 18 ∨ k = 19 ∨ k = 20 ∨ k = 21 := by omega
  rcases this with rfl | rfl | rfl | rfl <;> cases l <;> exact chk_all (by decide +kernel)
theorem size_branch (k : Int) (l : Bool) (hk : 18 ≤ k ∧ k ≤ 21) : sizeK k l = if l then 4 else 3 := by
  have : k = 18 ∨ k = 19 ∨ k = 20 ∨ k = 21 := by omega
  rcases this with rfl | rfl | rfl | rfl <;> cases l <;> decide +kernel
set_option maxRecDepth 100000 in
set_option maxHeartbeats 4000000 in
theorem brL_run (k x y : Int) (l : Bool) (hk : 18 ≤ k ∧ k ≤ 21) (n : Int) (hn : n = if l then 6 else 5) : (runS (aloneM (brL k n l)) [x, y] 100).told = (if takenB k x y = true then [y] else [x, y]) ∧ (runS (aloneM (brL k n l)) [x, y] 100).en = 1 := by
  have hch : ∀ i ∈ brL k n l, i.chk = 0 := by rw [hn]; exact brL_chk k l hk
  have hP := with_halt hch
  have hf : flowsB k = true := by simp [flowsB]; omega
  have hsz := size_branch k l hk
  have hk1 : ¬ k = 1 ∧ ¬ k = 2 ∧ ¬ k = 3 ∧ ¬ k = 22 ∧ ¬ k = 23 ∧ ¬ k = 24 := by omega
  obtain ⟨m, hm⟩ : ∃ m, aloneM (brL k n l) = m := ⟨_, rfl⟩
  have ht : m.text = encAll (brL k n l ++ [haltI]) := by rw [← hm]; rfl
  have a1 : atP (brL k n l ++ [haltI]) 1 = 2 := by simp [atP, brL]; decide
  have a2 : atP (brL k n l ++ [haltI]) 2 = 4 := by rw [atP_succ (j := 1) rfl, a1]; decide
  have a3 : atP (brL k n l ++ [haltI]) 3 = 4 + sizeK k l := by rw [atP_succ (j := 2) rfl, a2]
  have a4 : atP (brL k n l ++ [haltI]) 4 = 6 + sizeK k l := by rw [atP_succ (j := 3) rfl, a3]; show 4 + sizeK k l + 2 = _; omega
  rw [hm]
  have e : runS m [x, y] 100 = runGo m (94 + 1 + 1 + 1 + 1 + 1 + 1) (startS m [x, y]) := rfl
  rw [e]
  have hs : startS m [x, y] = ⟨List.replicate 8 (0, false), m.data.map fun x => (x, false), [x, y], 0, [], 0, 0⟩ := by rw [← hm]; rfl
  rw [hs]
  rw [ix_do 0 ht hP rfl rfl rfl rfl, ix_do 1 ht hP rfl rfl rfl rfl]
  have hb : ∀ S : MSt, regAt S 1 = (x, false) → regAt S 2 = (y, false) → ∀ ts nx, flowS ts S k 1 2 n nx = if takenB k x y = true then (S, 0, S.pc + n) else (S, 0, nx) := by
    intro S h1 h2 ts nx
    simp [flowS, hk1, h1, h2]
  by_cases htk : takenB k x y = true
  · rw [if_pos htk]
    simp only [if_pos htk] at hb
    rw [ix_flow 2 ht hP rfl rfl hf (hb _ rfl rfl _ _)]
    rw [ix_do 4 ht hP rfl (by show atP _ 2 + n = _; rw [a2, a4, hsz, hn]; cases l <;> rfl) rfl rfl, ix_end 5 ht hP rfl rfl rfl rfl (by decide)]
    exact ⟨rfl, rfl⟩
  · rw [if_neg htk]
    simp only [if_neg htk] at hb
    rw [ix_flow 2 ht hP rfl rfl hf (hb _ rfl rfl _ _)]
    rw [ix_do 3 ht hP rfl rfl rfl rfl, ix_do 4 ht hP rfl rfl rfl rfl, ix_end 5 ht hP rfl rfl rfl rfl (by decide)]
    exact ⟨rfl, rfl⟩
def callA (v : Int) : List Ins := [⟨23, 0, 0, 0, 6, false⟩, ⟨17, 0, 1, 0, 0, false⟩, ⟨1, 0, 0, 0, 0, false⟩, ⟨5, 1, 0, 0, v, false⟩, ⟨3, 0, 0, 0, 0, false⟩]
def callB : List Ins := [⟨23, 0, 0, 0, 3, false⟩, ⟨17, 0, 7, 0, 0, false⟩]
def callC (v : Int) : List Ins := [⟨5, 7, 0, 0, v, false⟩, ⟨3, 0, 0, 0, 0, false⟩]
def callD : List Ins := [⟨23, 0, 0, 0, 3, false⟩, ⟨15, 0, 0, 7, 2, false⟩, ⟨14, 1, 0, 0, 2, false⟩, ⟨6, 1, 1, 0, 0, false⟩]
theorem callA_chk (v : Int) (hv : 0 ≤ v ∧ v < 100) : ∀ i ∈ callA v, i.chk = 0 := by
  intro i hi
  simp only [callA, List.mem_cons, List.not_mem_nil, or_false] at hi
  rcases hi with rfl | rfl | rfl | rfl | rfl
  · decide
  · decide
  · decide
  · exact li_chk _ _ (by decide) (by omega)
  · decide
theorem callC_chk (v : Int) (hv : 0 ≤ v ∧ v < 100) : ∀ i ∈ callC v, i.chk = 0 := by
  intro i hi
  simp only [callC, List.mem_cons, List.not_mem_nil, or_false] at hi
  rcases hi with rfl | rfl
  · exact li_chk _ _ (by decide) (by omega)
  · decide
theorem callB_chk : ∀ i ∈ callB, i.chk = 0 := chk_all (by decide +kernel)
theorem callD_chk : ∀ i ∈ callD, i.chk = 0 := chk_all (by decide +kernel)
set_option maxRecDepth 100000 in
set_option maxHeartbeats 4000000 in
theorem callA_run (v : Int) (hv : 0 ≤ v ∧ v < 100) : (runS (aloneM (callA v)) [] 100).told = [v] ∧ (runS (aloneM (callA v)) [] 100).en = 1 := by
  have hP := with_halt (callA_chk v hv)
  obtain ⟨m, hm⟩ : ∃ m, aloneM (callA v) = m := ⟨_, rfl⟩
  have ht : m.text = encAll (callA v ++ [haltI]) := by rw [← hm]; rfl
  rw [hm]
  have e : runS m [] 100 = runGo m (95 + 1 + 1 + 1 + 1 + 1) (startS m []) := rfl
  rw [e]
  have hs : startS m [] = ⟨List.replicate 8 (0, false), m.data.map fun x => (x, false), [], 0, [], 0, 0⟩ := by rw [← hm]; rfl
  rw [hs]
  rw [ix_flow 0 ht hP rfl rfl rfl rfl, ix_do 3 ht hP rfl rfl rfl rfl, ix_flow 4 ht hP rfl rfl rfl rfl, ix_do 1 ht hP rfl rfl rfl rfl, ix_end 2 ht hP rfl rfl rfl rfl (by decide)]
  exact ⟨rfl, rfl⟩
set_option maxRecDepth 100000 in
set_option maxHeartbeats 4000000 in
theorem callB_run : (runS (aloneM callB) [] 100).told = [] ∧ (runS (aloneM callB) [] 100).en = 4 := by
  have hP := with_halt callB_chk
  obtain ⟨m, hm⟩ : ∃ m, aloneM callB = m := ⟨_, rfl⟩
  have ht : m.text = encAll (callB ++ [haltI]) := by rw [← hm]; rfl
  rw [hm]
  have e : runS m [] 100 = runGo m (98 + 1 + 1) (startS m []) := rfl
  rw [e]
  have hs : startS m [] = ⟨List.replicate 8 (0, false), m.data.map fun x => (x, false), [], 0, [], 0, 0⟩ := by rw [← hm]; rfl
  rw [hs]
  rw [ix_flow 0 ht hP rfl rfl rfl rfl, ix_stop (z := 4) 1 ht hP rfl rfl rfl rfl (by decide)]
  exact ⟨rfl, rfl⟩
set_option maxRecDepth 100000 in
set_option maxHeartbeats 4000000 in
theorem callC_run (v : Int) (hv : 0 ≤ v ∧ v < 100) : (runS (aloneM (callC v)) [] 100).told = [] ∧ (runS (aloneM (callC v)) [] 100).en = 4 := by
  have hP := with_halt (callC_chk v hv)
  obtain ⟨m, hm⟩ : ∃ m, aloneM (callC v) = m := ⟨_, rfl⟩
  have ht : m.text = encAll (callC v ++ [haltI]) := by rw [← hm]; rfl
  rw [hm]
  have e : runS m [] 100 = runGo m (98 + 1 + 1) (startS m []) := rfl
  rw [e]
  have hs : startS m [] = ⟨List.replicate 8 (0, false), m.data.map fun x => (x, false), [], 0, [], 0, 0⟩ := by rw [← hm]; rfl
  rw [hs]
  rw [ix_do 0 ht hP rfl rfl rfl rfl, ix_end (z := 4) 1 ht hP rfl rfl rfl rfl (by decide)]
  exact ⟨rfl, rfl⟩
set_option maxRecDepth 100000 in
set_option maxHeartbeats 4000000 in
theorem callD_run : (runS (aloneM callD) [] 100).told = [] ∧ (runS (aloneM callD) [] 100).en = 4 := by
  have hP := with_halt callD_chk
  obtain ⟨m, hm⟩ : ∃ m, aloneM callD = m := ⟨_, rfl⟩
  have ht : m.text = encAll (callD ++ [haltI]) := by rw [← hm]; rfl
  rw [hm]
  have e : runS m [] 100 = runGo m (96 + 1 + 1 + 1 + 1) (startS m []) := rfl
  rw [e]
  have hs : startS m [] = ⟨List.replicate 8 (0, false), [(5, false), (-3, false), (0, false), (7, false), (1, false), (2, false)], [], 0, [], 0, 0⟩ := by rw [← hm]; rfl
  rw [hs]
  rw [ix_flow 0 ht hP rfl rfl rfl rfl, ix_do 1 ht hP rfl rfl rfl rfl, ix_do 2 ht hP rfl rfl rfl rfl, ix_stop (z := 4) 3 ht hP rfl rfl rfl rfl (by decide)]
  exact ⟨rfl, rfl⟩
end Go.Proofs.YtgeljimckoodiaaDoor
