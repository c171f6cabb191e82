/- A program of instructions, run: plain facts. A program without jumps, run. A program passes image.Check; what runE says of it. A program without jumps in an image of its own, run to its halt. Programs of instructions, run by the place of each instruction; a program passes image.Check. -/
import Derived.Test.YtgeljimckoodiaaDoorKeepE
namespace Go.Proofs.YtgeljimckoodiaaDoor
open Go.RowKit
theorem encAll_app (L M : List Ins) : encAll (L ++ M) = encAll L ++ encAll M := by simp [encAll]
/-- the instruction at its place is decoded -/
theorem dec_at (pre : List Ins) (i : Ins) (post : List Ins) (h : i.chk = 0) : decB (encAll (pre ++ i :: post)) (encAll pre).length = (i, (i.enc.length : Int), 0) := by
  have e : encAll (pre ++ i :: post) = encAll pre ++ i.enc ++ encAll post := by
    rw [encAll_app, List.append_assoc]
    rfl
  rw [e]
  exact dec_enc _ _ h
/-- one instruction that is followed by the next one, in a run -/
theorem run_do {m : Img} {s s' : MSt} {f : Nat} {i : Ins} {dn : Int} (h : decB m.text s.pc = (i, dn, 0)) (hf : flowsB i.k = false) (hd : doS s i.k i.d i.a i.b i.n = (s', 0)) :
    runGo m (f + 1) s = runGo m f { s' with en := 0, pc := s.pc + dn, steps := s.steps + 1 } := by
  have e := stepS_do h hf hd
  rw [if_pos rfl] at e
  show (if (stepS m s).en = 0 then runGo m f (stepS m s) else stepS m s) = _
  rw [e, if_pos rfl]
theorem run_flow {m : Img} {s s' : MSt} {f : Nat} {i : Ins} {dn x : Int} (h : decB m.text s.pc = (i, dn, 0)) (hf : flowsB i.k = true) (hd : flowS m.tables s i.k i.a i.b i.n (s.pc + dn) = (s', 0, x)) :
    runGo m (f + 1) s = runGo m f { s' with en := 0, pc := x, steps := s.steps + 1 } := by
  have e := stepS_flow h hf hd
  rw [if_pos rfl] at e
  show (if (stepS m s).en = 0 then runGo m f (stepS m s) else stepS m s) = _
  rw [e, if_pos rfl]
theorem run_end {m : Img} {s s' : MSt} {f : Nat} {i : Ins} {dn x z : Int} (h : decB m.text s.pc = (i, dn, 0)) (hf : flowsB i.k = true) (hd : flowS m.tables s i.k i.a i.b i.n (s.pc + dn) = (s', z, x)) (hz : z ≠ 0) :
    runGo m (f + 1) s = { s' with en := z } := by
  have e := stepS_flow h hf hd
  rw [if_neg hz] at e
  show (if (stepS m s).en = 0 then runGo m f (stepS m s) else stepS m s) = _
  rw [e, if_neg hz]
end Go.Proofs.YtgeljimckoodiaaDoor
namespace Go.Proofs.YtgeljimckoodiaaDoor
open Go.RowKit
def stepL (i : Ins) (s : MSt) : MSt := { (doS s i.k i.d i.a i.b i.n).1 with en := 0, pc := s.pc + (i.enc.length : Int), steps := s.steps + 1 }
/-- instructions done one behind the other -/
def lineS : List Ins → MSt → MSt
  | [], s => s
  | i :: r, s => lineS r (stepL i s)
/-- each of them may be done -/
def lineOk : List Ins → MSt → Prop
  | [], _ => True
  | i :: r, s => (i.chk = 0 ∧ flowsB i.k = false ∧ (doS s i.k i.d i.a i.b i.n).2 = 0) ∧ lineOk r (stepL i s)
theorem run_line {m : Img} : ∀ (L pre post : List Ins) (s : MSt) (f : Nat), m.text = encAll (pre ++ L ++ post) → s.pc = (encAll pre).length → lineOk L s → runGo m (f + L.length) s = runGo m f (lineS L s)
  | [], _, _, _, _, _, _, _ => rfl
  | i :: r, pre, post, s, f, hm, hp, hok => by
    obtain ⟨⟨h1, h2, h3⟩, h4⟩ := hok
    have h := dec_at pre i (r ++ post) h1
    have e : pre ++ i :: (r ++ post) = pre ++ i :: r ++ post := by simp
    rw [e, ← hm, ← hp] at h
    have hd : doS s i.k i.d i.a i.b i.n = ((doS s i.k i.d i.a i.b i.n).1, 0) := by rw [← h3]
    have hs := run_do (f := f + r.length) h h2 hd
    show runGo m (f + (r.length + 1)) s = _
    rw [← Nat.add_assoc, hs]
    have ih := run_line r (pre ++ [i]) post (stepL i s) f (by rw [hm]; simp) (by show s.pc + _ = _; rw [hp, encAll_snoc, List.length_append]; simp) h4
    exact ih
/-- .. and then a halt -/
theorem run_halt {m : Img} (L : List Ins) (s : MSt) (f : Nat) (hm : m.text = encAll (L ++ [haltI])) (hp : s.pc = 0) (hok : lineOk L s) (hpc : (lineS L s).pc = (encAll L).length) : runGo m (f + 1 + L.length) s = { lineS L s with en := 1 } := by
  rw [run_line L [] [haltI] s (f + 1) (by simpa using hm) (by rw [hp]; rfl) hok]
  have h := dec_at L haltI [] halt_chk
  rw [← hm, ← hpc] at h
  exact run_end (s' := lineS L s) (z := 1) h rfl rfl (by decide)
theorem lineS_pc : ∀ (L pre : List Ins) (s : MSt), s.pc = (encAll pre).length → (lineS L s).pc = (encAll (pre ++ L)).length
  | [], pre, s, h => by simpa [lineS] using h
  | i :: r, pre, s, h => by
    have := lineS_pc r (pre ++ [i]) (stepL i s) (by show s.pc + _ = _; rw [h, encAll_snoc, List.length_append]; simp)
    simpa [lineS] using this
end Go.Proofs.YtgeljimckoodiaaDoor
namespace Go.Proofs.YtgeljimckoodiaaDoor
open Go.RowKit
theorem runE_of {m : Img} {I : List Int} (h : checkE m = 0) (hl : I.length ≤ 100) (hi : ∀ x ∈ I, N41 x) : runE m I 100 = 0 := by
  unfold runE
  rw [if_neg (by rw [h]; simp), if_neg (by decide), if_neg (by omega), if_neg]
  intro hc
  rw [List.any_eq_true] at hc
  obtain ⟨x, hx, ho⟩ := hc
  have := hi x hx
  simp [oddN] at ho
  unfold N41 at this
  omega
end Go.Proofs.YtgeljimckoodiaaDoor
namespace Go.Proofs.YtgeljimckoodiaaDoor
open Go.RowKit
theorem runS_line (L : List Ins) (I : List Int) (f : Nat) (hL : L.length + f + 1 = 100) (hok : lineOk L (startS (aloneM L) I)) : runS (aloneM L) I 100 = { lineS L (startS (aloneM L) I) with en := 1 } := by
  unfold runS
  have e : (100 : Int).toNat = f + 1 + L.length := by show 100 = _; omega
  rw [e]
  exact run_halt L _ f rfl rfl hok (lineS_pc L [] _ rfl)
end Go.Proofs.YtgeljimckoodiaaDoor
namespace Go.Proofs.YtgeljimckoodiaaDoor
open Go.RowKit
/-- where the j-th instruction stands -/
def atP (P : List Ins) (j : Nat) : Int := ((P.take j).map fun i => sizeK i.k i.l).sum
theorem encAll_sum : ∀ (P : List Ins), (∀ i ∈ P, i.chk = 0) → ((encAll P).length : Int) = (P.map fun i => sizeK i.k i.l).sum
  | [], _ => rfl
  | i :: r, h => by
    have ih := encAll_sum r fun j hj => h j (by simp [hj])
    have h1 := enc_len (h i (by simp))
    have e : encAll (i :: r) = i.enc ++ encAll r := rfl
    rw [e, List.length_append, List.map_cons, List.sum_cons, ← ih, ← h1]
    simp
theorem split_at {P : List Ins} {j : Nat} {i : Ins} (h : P[j]? = some i) : P = P.take j ++ i :: P.drop (j + 1) := by
  obtain ⟨hl, rfl⟩ := List.getElem?_eq_some_iff.1 h
  rw [← List.drop_eq_getElem_cons hl, List.take_append_drop]
theorem dec_ix {P : List Ins} (hP : ∀ i ∈ P, i.chk = 0) {j : Nat} {i : Ins} (h : P[j]? = some i) : decB (encAll P) (atP P j) = (i, sizeK i.k i.l, 0) := by
  have hi : i.chk = 0 := hP i (List.mem_of_getElem? h)
  have e : atP P j = ((encAll (P.take j)).length : Int) := (encAll_sum _ fun x hx => hP x (List.mem_of_mem_take hx)).symm
  rw [e, ← enc_len hi]
  have := dec_at (P.take j) i (P.drop (j + 1)) hi
  rwa [← split_at h] at this
theorem atP_succ {P : List Ins} {j : Nat} {i : Ins} (h : P[j]? = some i) : atP P (j + 1) = atP P j + sizeK i.k i.l := by
  obtain ⟨hl, rfl⟩ := List.getElem?_eq_some_iff.1 h
  unfold atP
  rw [List.take_succ_eq_append_getElem hl, List.map_append, List.sum_append]
  simp
theorem ix_do {m : Img} {P : List Ins} {s s' : MSt} {f : Nat} (j : Nat) {i : Ins} (hm : m.text = encAll P) (hP : ∀ i ∈ P, i.chk = 0) (h : P[j]? = some i) (hp : s.pc = atP P j) (hf : flowsB i.k = false) (hd : doS s i.k i.d i.a i.b i.n = (s', 0)) :
    runGo m (f + 1) s = runGo m f { s' with en := 0, pc := atP P (j + 1), steps := s.steps + 1 } := by
  have hdec := dec_ix hP h
  rw [← hm, ← hp] at hdec
  rw [run_do hdec hf hd, hp, atP_succ h]
theorem ix_stop {m : Img} {P : List Ins} {s s' : MSt} {f : Nat} (j : Nat) {i : Ins} {z : Int} (hm : m.text = encAll P) (hP : ∀ i ∈ P, i.chk = 0) (h : P[j]? = some i) (hp : s.pc = atP P j) (hf : flowsB i.k = false) (hd : doS s i.k i.d i.a i.b i.n = (s', z)) (hz : z ≠ 0) :
    runGo m (f + 1) s = { s' with en := z } := by
  have hdec := dec_ix hP h
  rw [← hm, ← hp] at hdec
  have e := stepS_do hdec hf hd
  rw [if_neg hz] at e
  show (if (stepS m s).en = 0 then runGo m f (stepS m s) else stepS m s) = _
  rw [e, if_neg hz]
theorem ix_flow {m : Img} {P : List Ins} {s s' : MSt} {f : Nat} (j : Nat) {i : Ins} {x : Int} (hm : m.text = encAll P) (hP : ∀ i ∈ P, i.chk = 0) (h : P[j]? = some i) (hp : s.pc = atP P j) (hf : flowsB i.k = true) (hd : flowS m.tables s i.k i.a i.b i.n (atP P (j + 1)) = (s', 0, x)) :
    runGo m (f + 1) s = runGo m f { s' with en := 0, pc := x, steps := s.steps + 1 } := by
  have hdec := dec_ix hP h
  rw [← hm, ← hp] at hdec
  exact run_flow hdec hf (by rw [hp, ← atP_succ h]; exact hd)
theorem ix_end {m : Img} {P : List Ins} {s s' : MSt} {f : Nat} (j : Nat) {i : Ins} {z x : Int} (hm : m.text = encAll P) (hP : ∀ i ∈ P, i.chk = 0) (h : P[j]? = some i) (hp : s.pc = atP P j) (hf : flowsB i.k = true) (hd : flowS m.tables s i.k i.a i.b i.n (atP P (j + 1)) = (s', z, x)) (hz : z ≠ 0) :
    runGo m (f + 1) s = { s' with en := z } := by
  have hdec := dec_ix hP h
  rw [← hm, ← hp] at hdec
  exact run_end hdec hf (by rw [hp, ← atP_succ h]; exact hd) hz
theorem encAll_lenLe (L : List Ins) (h : ∀ i ∈ L, i.chk = 0) : L.length ≤ (encAll L).length := by
  induction L with
  | nil => simp
  | cons i r ih =>
    have h1 := (enc_pos (h i (by simp))).1
    have h2 := ih fun j hj => h j (by simp [hj])
    have e : encAll (i :: r) = i.enc ++ encAll r := rfl
    rw [e, List.length_append, List.length_cons]
    omega
theorem alone_check (L : List Ins) (hk : ∀ i ∈ L, i.chk = 0) (hl : L.length ≤ 1000) : checkE (aloneM L) = 0 := by
  have hk' : ∀ i ∈ L ++ [haltI], i.chk = 0 := by
    intro i hi
    rcases List.mem_append.1 hi with h | h
    · exact hk i h
    · rw [List.mem_singleton.1 h]
      exact halt_chk
  have h1 := encAll_len _ hk'
  have h2 := encAll_lenLe _ hk'
  have hL : (L ++ [haltI]).length = L.length + 1 := by simp
  have hn : nameOk ⟨#[102]⟩ = true := by decide +kernel
  obtain ⟨T, hT⟩ : ∃ T, encAll (L ++ [haltI]) = T := ⟨_, rfl⟩
  have hm : aloneM L = ⟨T, [⟨⟨#[102]⟩, 0, T.length⟩], [], [5, -3, 0, 7, 1, 2], [], 0⟩ := by unfold aloneM; rw [hT]
  rw [hT] at h1 h2
  have hd : ([5, -3, 0, 7, 1, 2] : List Int).any oddN = false := by decide
  rw [hm]
  have hf : funcsE ⟨T, [⟨⟨#[102]⟩, 0, T.length⟩], [], [5, -3, 0, 7, 1, 2], [], 0⟩ = 0 := by
    have ht : ¬ ((T.length : Int) < 1 ∨ (T.length : Int) - 0 < T.length) := by omega
    simp [funcsE, funcsGo, hn]
    omega
  have h8 : ¬ 8000 < T.length := by omega
  simp [checkE, hf, tailE, restE, tablesGo, linesE, linesGo, h8, hd]
theorem alone_runE (L : List Ins) (I : List Int) (hk : ∀ i ∈ L, i.chk = 0) (hl : L.length ≤ 1000) (h1 : I.length ≤ 100) (h2 : ∀ x ∈ I, N41 x) : runE (aloneM L) I 100 = 0 := runE_of (alone_check L hk hl) h1 h2
/-- what a call of told leaves, where the run is known -/
def ToldR (w : World) (T : List Int) (E : Int) (e : Ending) (w' : World) : Prop :=
  ∃ A c, e = .returned (.tuple #[.slice A T.length c, .int .i64 E, .bool true]) ∧ Below w.heap.size w w' ∧ T.length ≤ c ∧ RdG w' w'.heap.size A (intsV .i64 T)
theorem own_rd {w : World} {b : Nat} {n c : Nat} {A : Option Addr} {xs : List Value} (h : w.ownsRow b 3 1 (.slice A n c) n xs) (hn : xs.length = n) : n ≤ c ∧ RdG w w.heap.size A xs := by
  have h0 := h
  obtain ⟨_, hx | ⟨g', cap', cur, hv, hb, hg, hnc, _, _, htk⟩⟩ := h
  · obtain ⟨h1, h2⟩ := hx
    refine ⟨by omega, fun hne => absurd (List.eq_nil_of_length_eq_zero (by omega)) hne⟩
  · injection hv with h1 h2 h3
    subst h1
    obtain ⟨k1, k2, k3, k4⟩ := own_at h0
    exact ⟨k1, fun _ => ⟨g', 0, rfl, k3, fun j u hu => by rw [Nat.zero_add]; exact k4 j u hu⟩⟩
theorem told_of (L : List Ins) (I T : List Int) (E : Int) (g c : Nat) (iA : Option Addr) (ic : Nat) (w : World) (hT : Tabs w) (hL : 0 < L.length) (hm : L.length ≤ 1000) (hcap : L.length ≤ c) (hk : ∀ i ∈ L, i.chk = 0)
    (hg : w.heap[g]? = some (.cells (insR L).toArray 27 (0, 0))) (hin : RdG w w.heap.size iA (intsV .i64 I)) (hic : I.length ≤ ic) (hil : I.length ≤ 100) (hI : ∀ x ∈ I, N41 x)
    (h1 : (runS (aloneM L) I 100).told = T) (h2 : (runS (aloneM L) I 100).en = E) :
    Calls Tryd.prog 15 #[.slice iA I.length ic, .slice (some ⟨g, 0, none⟩) L.length c] w (ToldR w T E) := by
  refine (told_any L g 0 c I iA ic w hT hL hm hcap (Array.getElem?_eq_some_iff.1 hg).1 hk (fun j u hu => by rw [Nat.zero_add, cell_of_row _ _ j _ _ _ hg]; simpa using hu) hin hic (by omega) (fun x hx => ?_) (alone_runE L I hk hm hil hI)).mono ?_
  · have := hI x hx
    unfold N41 at this
    unfold N64
    omega
  · rintro e w' ⟨hb, A, c, rfl, ho⟩
    rw [h1] at ho ⊢
    rw [h2]
    obtain ⟨k1, k2⟩ := own_rd ho (intsV_len _ _)
    exact ⟨A, c, rfl, hb, k1, k2⟩
end Go.Proofs.YtgeljimckoodiaaDoor
