/- The program of Loops, run; a run's answer, read. -/
import Derived.Test.YtgeljimckoodiaaDoorKeepM
namespace Go.Proofs.YtgeljimckoodiaaDoor
open Go.RowKit
def RunR (w : World) (S : MSt) (e : Ending) (w' : World) : Prop :=
  Below w.heap.size w w' ∧ ∃ A c, e = .returned (.tuple #[runV A S.told.length c S.en S.steps S.pc, .int .i64 0]) ∧ S.told.length ≤ c ∧ RdG w' w'.heap.size A (intsV .i64 S.told)
theorem run_rd (m : Img) (v : ImgV) (iA : Option Addr) (ic : Nat) (L : List Int) (fuel : Int) (w : World) (S : MSt) (hT : Tabs w) (hI : ImgRd w w.heap.size m v) (hO : ImgOk m v) (hin : RdG w w.heap.size iA (intsV .i64 L))
    (hic : L.length ≤ ic) (hil : L.length ≤ 140737488355328) (hf : N64 fuel) (hL : ∀ x ∈ L, N64 x) (h0 : runE m L fuel = 0) (hS : runS m L fuel = S) :
    Calls Tryd.prog 19 #[.agg (m.val v), .slice iA L.length ic, .int .i64 fuel] w (RunR w S) := by
  refine (run_any m v iA ic L fuel w hT hI hO hin hic hil hf hL).mono ?_
  rintro e w' ⟨hb, -, h⟩
  obtain ⟨A, c, rfl, ho⟩ := h h0
  rw [hS] at ho ⊢
  obtain ⟨k1, k2⟩ := own_rd ho (intsV_len _ _)
  exact ⟨hb, A, c, rfl, k1, k2⟩
def RunQ (w : World) (T : List Int) (n : Nat) (E St : Int) (e : Ending) (w' : World) : Prop :=
  Below w.heap.size w w' ∧ ∃ A c p, e = .returned (.tuple #[runV A n c E St p, .int .i64 0]) ∧ n ≤ c ∧ RdG w' w'.heap.size A (intsV .i64 T)
theorem run_rq (m : Img) (v : ImgV) (iA : Option Addr) (ic : Nat) (L : List Int) (fuel : Int) (w : World) (S : MSt) (T : List Int) (n : Nat) (E St : Int) (hT : Tabs w) (hI : ImgRd w w.heap.size m v) (hO : ImgOk m v) (hin : RdG w w.heap.size iA (intsV .i64 L))
    (hic : L.length ≤ ic) (hil : L.length ≤ 140737488355328) (hf : N64 fuel) (hL : ∀ x ∈ L, N64 x) (h0 : runE m L fuel = 0) (hS : runS m L fuel = S) (h1 : S.told = T) (h2 : T.length = n) (h3 : S.en = E) (h4 : S.steps = St) :
    Calls Tryd.prog 19 #[.agg (m.val v), .slice iA L.length ic, .int .i64 fuel] w (RunQ w T n E St) := by
  refine (run_rd m v iA ic L fuel w S hT hI hO hin hic hil hf hL h0 hS).mono ?_
  rintro e w' ⟨hb, A, c, rfl, hc, hr⟩
  rw [h1] at hc hr ⊢
  rw [h2] at hc ⊢
  rw [h3, h4]
  exact ⟨hb, A, c, _, rfl, hc, hr⟩
theorem runE_fuel {m : Img} {I : List Int} {fuel : Int} (h : checkE m = 0) (hf : 0 ≤ fuel ∧ fuel ≤ 100000) (hl : I.length ≤ 100) (hi : ∀ x ∈ I, N41 x) : runE m I fuel = 0 := by
  unfold runE
  rw [if_neg (by rw [h]; simp), if_neg (by omega), if_neg (by omega), if_neg]
  intro hc
  rw [List.any_eq_true] at hc
  obtain ⟨x, hx, ho⟩ := hc
  have := hi x hx
  simp [oddN] at ho
  unfold N41 at this
  omega
def loopL (k : Int) : List Ins := [⟨5, 1, 0, 0, k, false⟩, ⟨17, 0, 1, 0, 0, false⟩, ⟨6, 1, 1, 0, -1, false⟩, ⟨19, 0, 1, 0, -5, false⟩]
theorem loopL_chk (k : Int) (hk : 1 ≤ k ∧ k ≤ 60) : ∀ i ∈ loopL k, i.chk = 0 := by
  intro i hi
  simp only [loopL, List.mem_cons, List.not_mem_nil, or_false] at hi
  rcases hi with rfl | rfl | rfl | rfl
  · exact li_chk _ _ (by decide) (by omega)
  · decide
  · decide
  · decide
def loopSt (D : List (Int × Bool)) (v : Int) (T : List Int) (s : Int) : MSt := ⟨[(0, false), (v, false), (0, false), (0, false), (0, false), (0, false), (0, false), (0, false)], D, [], 4, T, 0, s⟩
def downT : Int → Nat → List Int
  | _, 0 => []
  | v, j + 1 => v :: downT (v - 1) j
theorem downT_len : ∀ (j : Nat) (v : Int), (downT v j).length = j
  | 0, _ => rfl
  | j + 1, v => by simp [downT, downT_len j]
theorem downT_at : ∀ (j : Nat) (v : Int) (i : Nat), i < j → (downT v j)[i]? = some (v - i)
  | 0, _, _, h => absurd h (Nat.not_lt_zero _)
  | j + 1, v, 0, _ => by simp [downT]
  | j + 1, v, i + 1, h => by
    have := downT_at j (v - 1) i (by omega)
    simp only [downT, List.getElem?_cons_succ, this]
    congr 1
    omega
theorem loop_br (r : Int) (ts : List (List Int)) (S : MSt) (h1 : regAt S 1 = (r, false)) (h2 : regAt S 0 = (0, false)) (nx : Int) : flowS ts S 19 1 0 (-5) nx = if (r != 0) = true then (S, 0, S.pc + -5) else (S, 0, nx) := by
  simp [flowS, h1, h2, takenB]
set_option maxRecDepth 100000 in
set_option maxHeartbeats 4000000 in
theorem loop_two (k v : Int) (T D) (s : Int) (f : Nat) (m : Img) (ht : m.text = encAll (loopL k ++ [haltI])) (hk : 1 ≤ k ∧ k ≤ 60) (hv : 1 ≤ v ∧ v ≤ 60) :
    runGo m (f + 1 + 1) (loopSt D v T s) = runGo m f { loopSt D (v - 1) (T ++ [v]) (s + 1 + 1) with pc := 9 } := by
  have hP := with_halt (loopL_chk k hk)
  have hb : bal (v + -1) = v - 1 := by rw [bal_self (by unfold N41; omega)]; omega
  rw [ix_do 1 ht hP rfl (by rfl) rfl (by rfl), ix_do 2 ht hP rfl (by rfl) rfl (by rfl)]
  simp [loopSt, regAt, hb]
  rfl
set_option maxRecDepth 100000 in
set_option maxHeartbeats 4000000 in
theorem loop_round (k v : Int) (T D) (s : Int) (f : Nat) (m : Img) (ht : m.text = encAll (loopL k ++ [haltI])) (hk : 1 ≤ k ∧ k ≤ 60) (hv : 2 ≤ v ∧ v ≤ 60) :
    runGo m (f + 1 + 1 + 1) (loopSt D v T s) = runGo m f (loopSt D (v - 1) (T ++ [v]) (s + 3)) := by
  have hP := with_halt (loopL_chk k hk)
  have hq : (v - 1 != 0) = true := by simp; omega
  rw [loop_two k v T D s (f + 1) m ht hk (by omega)]
  have hb := loop_br (v - 1) m.tables
  simp only [if_pos hq] at hb
  rw [ix_flow 3 ht hP rfl (by rfl) rfl (hb _ rfl rfl _)]
  refine congrArg (runGo m f) ?_
  simp [loopSt]
  omega
theorem loop_rounds (k : Int) (D) (m : Img) (ht : m.text = encAll (loopL k ++ [haltI])) (hk : 1 ≤ k ∧ k ≤ 60) : ∀ (j : Nat) (v : Int) (T) (s : Int) (f : Nat), (j : Int) < v → v ≤ 60 →
    runGo m (f + 3 * j) (loopSt D v T s) = runGo m f (loopSt D (v - j) (T ++ downT v j) (s + 3 * j))
  | 0, v, T, s, f, _, _ => by simp [downT]
  | j + 1, v, T, s, f, h1, h2 => by
    have e : f + 3 * (j + 1) = (f + 3 * j) + 1 + 1 + 1 := by omega
    rw [e, loop_round k v T D s _ m ht hk (by omega), loop_rounds k D m ht hk j (v - 1) _ _ f (by omega) (by omega)]
    have e1 : v - 1 - (j : Int) = v - ((j + 1 : Nat) : Int) := by omega
    have e2 : s + 3 + 3 * (j : Int) = s + 3 * ((j + 1 : Nat) : Int) := by omega
    rw [e1, e2]
    simp [downT]
set_option maxRecDepth 100000 in
set_option maxHeartbeats 4000000 in
theorem loop_run (k : Nat) (hk : 1 ≤ k ∧ k ≤ 60) : ∃ S1 S2, runS (aloneM (loopL k)) [] 1000 = S1 ∧ runS (aloneM (loopL k)) [] (3 * k) = S2 ∧ S1.told = downT k k ∧ S1.en = 1 ∧ S1.steps = 1 + 3 * k ∧ S2.en = 3 ∧ S2.steps = 3 * k := by
  have hP := with_halt (loopL_chk k (by omega))
  obtain ⟨m, hm⟩ : ∃ m, aloneM (loopL k) = m := ⟨_, rfl⟩
  have ht : m.text = encAll (loopL k ++ [haltI]) := by rw [← hm]; rfl
  rw [hm]
  obtain ⟨j, rfl⟩ : ∃ j, k = j + 1 := ⟨k - 1, by omega⟩
  have hs : startS m [] = ⟨List.replicate 8 (0, false), m.data.map fun x => (x, false), [], 0, [], 0, 0⟩ := by rw [← hm]; rfl
  have hst : ∀ f, runGo m (f + 1) (startS m []) = runGo m f (loopSt (m.data.map fun x => (x, false)) ((j + 1 : Nat) : Int) [] 1) := by
    intro f
    rw [hs, ix_do 0 ht hP rfl rfl rfl rfl]
    rfl
  have hr := loop_rounds ((j + 1 : Nat) : Int) (m.data.map fun x => (x, false)) m ht (by omega) j ((j + 1 : Nat) : Int) [] 1
  have hd : downT ((j + 1 : Nat) : Int) (j + 1) = downT ((j + 1 : Nat) : Int) j ++ [1] := by
    apply List.ext_getElem?
    intro i
    rcases Nat.lt_or_ge i j with h | h
    · rw [downT_at _ _ _ (by omega), List.getElem?_append_left (by rw [downT_len]; exact h), downT_at _ _ _ h]
    · rcases Nat.eq_or_lt_of_le h with h | h
      · subst h
        rw [downT_at _ _ _ (by omega), List.getElem?_append_right (by rw [downT_len]; exact Nat.le_refl _), downT_len]
        simp
        omega
      · rw [List.getElem?_eq_none (by rw [downT_len]; omega), List.getElem?_eq_none (by rw [List.length_append, downT_len]; simp; omega)]
  have v1 : ((j + 1 : Nat) : Int) - (j : Int) = 1 := by omega
  rw [v1] at hr
  refine ⟨_, _, rfl, rfl, ?_⟩
  have e1 : runS m [] 1000 = { loopSt (m.data.map fun x => (x, false)) 0 (downT ((j + 1 : Nat) : Int) (j + 1)) (1 + 3 * ((j + 1 : Nat) : Int)) with pc := atP (loopL ((j + 1 : Nat) : Int) ++ [haltI]) 4, en := 1 } := by
    show runGo m (1000 : Int).toNat (startS m []) = _
    have e : (1000 : Int).toNat = ((995 - 3 * j) + 1 + 1 + 1 + 1 + 3 * j) + 1 := by show 1000 = _; omega
    rw [e, hst, hr _ (by omega) (by omega), loop_two _ _ _ _ _ _ m ht (by omega) (by omega)]
    have hb := loop_br (1 - 1) m.tables
    simp only [show ((1 : Int) - 1 != 0) = false from rfl] at hb
    rw [ix_flow 3 ht hP rfl (by rfl) rfl ((hb _ rfl rfl _).trans (if_neg (by decide))), ix_end 4 ht hP rfl (by rfl) rfl (by rfl) (by decide), hd]
    simp [loopSt]
    omega
  have e2 : runS m [] (3 * ((j + 1 : Nat) : Int)) = { loopSt (m.data.map fun x => (x, false)) 0 (downT ((j + 1 : Nat) : Int) j ++ [1]) (3 * ((j + 1 : Nat) : Int)) with pc := 9, en := 3 } := by
    show runGo m (3 * ((j + 1 : Nat) : Int)).toNat (startS m []) = _
    have e : (3 * ((j + 1 : Nat) : Int)).toNat = (0 + 1 + 1 + 3 * j) + 1 := by omega
    rw [e, hst, hr _ (by omega) (by omega), loop_two _ _ _ _ _ _ m ht (by omega) (by omega)]
    simp [loopSt, runGo]
    omega
  rw [e1, e2]
  exact ⟨rfl, rfl, rfl, rfl, rfl⟩
end Go.Proofs.YtgeljimckoodiaaDoor
