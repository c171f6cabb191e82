/- The keep's told, walked. A program of instructions, run: plain facts. A program without jumps, run. A program passes image.Check; what runE says of it. A program without jumps in an image of its own, run to its halt. Programs of instructions, run by the place of each instruction; a program passes image.Check. The two programs of Sums, run. The programs of Sums, Bits, Memory, run. The programs of Memory, Branches, Calls, run. The program of Loops, run; a run's answer, read. -/
import Derived.Test.YtlekjnnofhjgjaaDoorKeepD
namespace Go.Proofs.YtlekjnnofhjgjaaDoor
open Go.RowKit
def ToldPost (w : World) (L : List Ins) (I : List Int) (e : Ending) (w' : World) : Prop :=
  Below w.heap.size w w' ∧ ∃ A c, e = .returned (.tuple #[.slice A (runS (aloneM L) I 100).told.length c, .int .i64 (runS (aloneM L) I 100).en, .bool true]) ∧
    w'.ownsRow w.heap.size 3 1 (.slice A (runS (aloneM L) I 100).told.length c) (runS (aloneM L) I 100).told.length (intsV .i64 (runS (aloneM L) I 100).told)
end Go.Proofs.YtlekjnnofhjgjaaDoor
namespace Go.Proofs.YtlekjnnofhjgjaaDoor
open Go.RowKit
theorem encAll_app (L M : List Ins) : encAll (L ++ M) = encAll L ++ encAll M := by simp [encAll]
/-- the instruction at its place is decoded -/
theorem dec_at (pre : List Ins) (i : Ins) (post : List Ins) (h : i.chk = 0) : decB (encAll (pre ++ i :: post)) (encAll pre).length = (i, (i.enc.length : Int), 0) := by
  have e : encAll (pre ++ i :: post) = encAll pre ++ i.enc ++ encAll post := by
    rw [encAll_app, List.append_assoc]
    rfl
  rw [e]
  exact dec_enc _ _ h
/-- one instruction that is followed by the next one, in a run -/
theorem run_do {m : Img} {s s' : MSt} {f : Nat} {i : Ins} {dn : Int} (h : decB m.text s.pc = (i, dn, 0)) (hf : flowsB i.k = false) (hd : doS s i.k i.d i.a i.b i.n = (s', 0)) :
    runGo m (f + 1) s = runGo m f { s' with en := 0, pc := s.pc + dn, steps := s.steps + 1 } := by
  have e := stepS_do h hf hd
  rw [if_pos rfl] at e
  show (if (stepS m s).en = 0 then runGo m f (stepS m s) else stepS m s) = _
  rw [e, if_pos rfl]
theorem run_flow {m : Img} {s s' : MSt} {f : Nat} {i : Ins} {dn x : Int} (h : decB m.text s.pc = (i, dn, 0)) (hf : flowsB i.k = true) (hd : flowS m.tables s i.k i.a i.b i.n (s.pc + dn) = (s', 0, x)) :
    runGo m (f + 1) s = runGo m f { s' with en := 0, pc := x, steps := s.steps + 1 } := by
  have e := stepS_flow h hf hd
  rw [if_pos rfl] at e
  show (if (stepS m s).en = 0 then runGo m f (stepS m s) else stepS m s) = _
  rw [e, if_pos rfl]
theorem run_end {m : Img} {s s' : MSt} {f : Nat} {i : Ins} {dn x z : Int} (h : decB m.text s.pc = (i, dn, 0)) (hf : flowsB i.k = true) (hd : flowS m.tables s i.k i.a i.b i.n (s.pc + dn) = (s', z, x)) (hz : z ≠ 0) :
    runGo m (f + 1) s = { s' with en := z } := by
  have e := stepS_flow h hf hd
  rw [if_neg hz] at e
  show (if (stepS m s).en = 0 then runGo m f (stepS m s) else stepS m s) = _
  rw [e, if_neg hz]
end Go.Proofs.YtlekjnnofhjgjaaDoor
namespace Go.Proofs.YtlekjnnofhjgjaaDoor
open Go.RowKit
def stepL (i : Ins) (s : MSt) : MSt := { (doS s i.k i.d i.a i.b i.n).1 with en := 0, pc := s.pc + (i.enc.length : Int), steps := s.steps + 1 }
/-- instructions done one behind the other -/
def lineS : List Ins → MSt → MSt
  | [], s => s
  | i :: r, s => lineS r (stepL i s)
/-- each of them may be done -/
def lineOk : List Ins → MSt → Prop
  | [], _ => True
  | i :: r, s => (i.chk = 0 ∧ flowsB i.k = false ∧ (doS s i.k i.d i.a i.b i.n).2 = 0) ∧ lineOk r (stepL i s)
theorem run_line {m : Img} : ∀ (L pre post : List Ins) (s : MSt) (f : Nat), m.text = encAll (pre ++ L ++ post) → s.pc = (encAll pre).length → lineOk L s → runGo m (f + L.length) s = runGo m f (lineS L s)
  | [], _, _, _, _, _, _, _ => rfl
  | i :: r, pre, post, s, f, hm, hp, hok => by
    obtain ⟨⟨h1, h2, h3⟩, h4⟩ := hok
    have h := dec_at pre i (r ++ post) h1
    have e : pre ++ i :: (r ++ post) = pre ++ i :: r ++ post := by simp
    rw [e, ← hm, ← hp] at h
    have hd : doS s i.k i.d i.a i.b i.n = ((doS s i.k i.d i.a i.b i.n).1, 0) := by rw [← h3]
    have hs := run_do (f := f + r.length) h h2 hd
    show runGo m (f + (r.length + 1)) s = _
    rw [← Nat.add_assoc, hs]
    have ih := run_line r (pre ++ [i]) post (stepL i s) f (by rw [hm]; simp) (by show s.pc + _ = _; rw [hp, encAll_snoc, List.length_append]; simp) h4
    exact ih
/-- .. and then a halt -/
theorem run_halt {m : Img} (L : List Ins) (s : MSt) (f : Nat) (hm : m.text = encAll (L ++ [haltI])) (hp : s.pc = 0) (hok : lineOk L s) (hpc : (lineS L s).pc = (encAll L).length) : runGo m (f + 1 + L.length) s = { lineS L s with en := 1 } := by
  rw [run_line L [] [haltI] s (f + 1) (by simpa using hm) (by rw [hp]; rfl) hok]
  have h := dec_at L haltI [] halt_chk
  rw [← hm, ← hpc] at h
  exact run_end (s' := lineS L s) (z := 1) h rfl rfl (by decide)
theorem lineS_pc : ∀ (L pre : List Ins) (s : MSt), s.pc = (encAll pre).length → (lineS L s).pc = (encAll (pre ++ L)).length
  | [], pre, s, h => by simpa [lineS] using h
  | i :: r, pre, s, h => by
    have := lineS_pc r (pre ++ [i]) (stepL i s) (by show s.pc + _ = _; rw [h, encAll_snoc, List.length_append]; simp)
    simpa [lineS] using this
end Go.Proofs.YtlekjnnofhjgjaaDoor
namespace Go.Proofs.YtlekjnnofhjgjaaDoor
open Go.RowKit
theorem runE_of {m : Img} {I : List Int} (h : checkE m = 0) (hl : I.length ≤ 100) (hi : ∀ x ∈ I, N41 x) : runE m I 100 = 0 := by
  unfold runE
  rw [if_neg (by rw [h]; simp), if_neg (by decide), if_neg (by omega), if_neg]
  intro hc
  rw [List.any_eq_true] at hc
  obtain ⟨x, hx, ho⟩ := hc
  have := hi x hx
  simp [oddN] at ho
  unfold N41 at this
  omega
end Go.Proofs.YtlekjnnofhjgjaaDoor
namespace Go.Proofs.YtlekjnnofhjgjaaDoor
open Go.RowKit
theorem runS_line (L : List Ins) (I : List Int) (f : Nat) (hL : L.length + f + 1 = 100) (hok : lineOk L (startS (aloneM L) I)) : runS (aloneM L) I 100 = { lineS L (startS (aloneM L) I) with en := 1 } := by
  unfold runS
  have e : (100 : Int).toNat = f + 1 + L.length := by show 100 = _; omega
  rw [e]
  exact run_halt L _ f rfl rfl hok (lineS_pc L [] _ rfl)
end Go.Proofs.YtlekjnnofhjgjaaDoor
namespace Go.Proofs.YtlekjnnofhjgjaaDoor
open Go.RowKit
/-- where the j-th instruction stands -/
def atP (P : List Ins) (j : Nat) : Int := ((P.take j).map fun i => sizeK i.k i.l).sum
theorem encAll_sum : ∀ (P : List Ins), (∀ i ∈ P, i.chk = 0) → ((encAll P).length : Int) = (P.map fun i => sizeK i.k i.l).sum
  | [], _ => rfl
  | i :: r, h => by
    have ih := encAll_sum r fun j hj => h j (by simp [hj])
    have h1 := enc_len (h i (by simp))
    have e : encAll (i :: r) = i.enc ++ encAll r := rfl
    rw [e, List.length_append, List.map_cons, List.sum_cons, ← ih, ← h1]
    simp
theorem split_at {P : List Ins} {j : Nat} {i : Ins} (h : P[j]? = some i) : P = P.take j ++ i :: P.drop (j + 1) := by
  obtain ⟨hl, rfl⟩ := List.getElem?_eq_some_iff.1 h
  rw [← List.drop_eq_getElem_cons hl, List.take_append_drop]
theorem dec_ix {P : List Ins} (hP : ∀ i ∈ P, i.chk = 0) {j : Nat} {i : Ins} (h : P[j]? = some i) : decB (encAll P) (atP P j) = (i, sizeK i.k i.l, 0) := by
  have hi : i.chk = 0 := hP i (List.mem_of_getElem? h)
  have e : atP P j = ((encAll (P.take j)).length : Int) := (encAll_sum _ fun x hx => hP x (List.mem_of_mem_take hx)).symm
  rw [e, ← enc_len hi]
  have := dec_at (P.take j) i (P.drop (j + 1)) hi
  rwa [← split_at h] at this
theorem atP_succ {P : List Ins} {j : Nat} {i : Ins} (h : P[j]? = some i) : atP P (j + 1) = atP P j + sizeK i.k i.l := by
  obtain ⟨hl, rfl⟩ := List.getElem?_eq_some_iff.1 h
  unfold atP
  rw [List.take_succ_eq_append_getElem hl, List.map_append, List.sum_append]
  simp
theorem ix_do {m : Img} {P : List Ins} {s s' : MSt} {f : Nat} (j : Nat) {i : Ins} (hm : m.text = encAll P) (hP : ∀ i ∈ P, i.chk = 0) (h : P[j]? = some i) (hp : s.pc = atP P j) (hf : flowsB i.k = false) (hd : doS s i.k i.d i.a i.b i.n = (s', 0)) :
    runGo m (f + 1) s = runGo m f { s' with en := 0, pc := atP P (j + 1), steps := s.steps + 1 } := by
  have hdec := dec_ix hP h
  rw [← hm, ← hp] at hdec
  rw [run_do hdec hf hd, hp, atP_succ h]
theorem ix_stop {m : Img} {P : List Ins} {s s' : MSt} {f : Nat} (j : Nat) {i : Ins} {z : Int} (hm : m.text = encAll P) (hP : ∀ i ∈ P, i.chk = 0) (h : P[j]? = some i) (hp : s.pc = atP P j) (hf : flowsB i.k = false) (hd : doS s i.k i.d i.a i.b i.n = (s', z)) (hz : z ≠ 0) :
    runGo m (f + 1) s = { s' with en := z } := by
  have hdec := dec_ix hP h
  rw [← hm, ← hp] at hdec
  have e := stepS_do hdec hf hd
  rw [if_neg hz] at e
  show (if (stepS m s).en = 0 then runGo m f (stepS m s) else stepS m s) = _
  rw [e, if_neg hz]
theorem ix_flow {m : Img} {P : List Ins} {s s' : MSt} {f : Nat} (j : Nat) {i : Ins} {x : Int} (hm : m.text = encAll P) (hP : ∀ i ∈ P, i.chk = 0) (h : P[j]? = some i) (hp : s.pc = atP P j) (hf : flowsB i.k = true) (hd : flowS m.tables s i.k i.a i.b i.n (atP P (j + 1)) = (s', 0, x)) :
    runGo m (f + 1) s = runGo m f { s' with en := 0, pc := x, steps := s.steps + 1 } := by
  have hdec := dec_ix hP h
  rw [← hm, ← hp] at hdec
  exact run_flow hdec hf (by rw [hp, ← atP_succ h]; exact hd)
theorem ix_end {m : Img} {P : List Ins} {s s' : MSt} {f : Nat} (j : Nat) {i : Ins} {z x : Int} (hm : m.text = encAll P) (hP : ∀ i ∈ P, i.chk = 0) (h : P[j]? = some i) (hp : s.pc = atP P j) (hf : flowsB i.k = true) (hd : flowS m.tables s i.k i.a i.b i.n (atP P (j + 1)) = (s', z, x)) (hz : z ≠ 0) :
    runGo m (f + 1) s = { s' with en := z } := by
  have hdec := dec_ix hP h
  rw [← hm, ← hp] at hdec
  exact run_end hdec hf (by rw [hp, ← atP_succ h]; exact hd) hz
theorem encAll_lenLe (L : List Ins) (h : ∀ i ∈ L, i.chk = 0) : L.length ≤ (encAll L).length := by
  induction L with
  | nil => simp
  | cons i r ih =>
    have h1 := (enc_pos (h i (by simp))).1
    have h2 := ih fun j hj => h j (by simp [hj])
    have e : encAll (i :: r) = i.enc ++ encAll r := rfl
    rw [e, List.length_append, List.length_cons]
    omega
theorem alone_check (L : List Ins) (hk : ∀ i ∈ L, i.chk = 0) (hl : L.length ≤ 1000) : checkE (aloneM L) = 0 := by
  have hk' : ∀ i ∈ L ++ [haltI], i.chk = 0 := by
    intro i hi
    rcases List.mem_append.1 hi with h | h
    · exact hk i h
    · rw [List.mem_singleton.1 h]
      exact halt_chk
  have h1 := encAll_len _ hk'
  have h2 := encAll_lenLe _ hk'
  have hL : (L ++ [haltI]).length = L.length + 1 := by simp
  have hn : nameOk ⟨#[102]⟩ = true := by decide +kernel
  obtain ⟨T, hT⟩ : ∃ T, encAll (L ++ [haltI]) = T := ⟨_, rfl⟩
  have hm : aloneM L = ⟨T, [⟨⟨#[102]⟩, 0, T.length⟩], [], [5, -3, 0, 7, 1, 2], [], 0⟩ := by unfold aloneM; rw [hT]
  rw [hT] at h1 h2
  have hd : ([5, -3, 0, 7, 1, 2] : List Int).any oddN = false := by decide
  rw [hm]
  have hf : funcsE ⟨T, [⟨⟨#[102]⟩, 0, T.length⟩], [], [5, -3, 0, 7, 1, 2], [], 0⟩ = 0 := by
    have ht : ¬ ((T.length : Int) < 1 ∨ (T.length : Int) - 0 < T.length) := by omega
    simp [funcsE, funcsGo, hn]
    omega
  have h8 : ¬ 8000 < T.length := by omega
  simp [checkE, hf, tailE, restE, tablesGo, linesE, linesGo, h8, hd]
theorem alone_runE (L : List Ins) (I : List Int) (hk : ∀ i ∈ L, i.chk = 0) (hl : L.length ≤ 1000) (h1 : I.length ≤ 100) (h2 : ∀ x ∈ I, N41 x) : runE (aloneM L) I 100 = 0 := runE_of (alone_check L hk hl) h1 h2
/-- what a call of told leaves, where the run is known -/
def ToldR (w : World) (T : List Int) (E : Int) (e : Ending) (w' : World) : Prop :=
  ∃ A c, e = .returned (.tuple #[.slice A T.length c, .int .i64 E, .bool true]) ∧ Below w.heap.size w w' ∧ T.length ≤ c ∧ RdG w' w'.heap.size A (intsV .i64 T)
theorem own_rd {w : World} {b : Nat} {n c : Nat} {A : Option Addr} {xs : List Value} (h : w.ownsRow b 3 1 (.slice A n c) n xs) (hn : xs.length = n) : n ≤ c ∧ RdG w w.heap.size A xs := by
  have h0 := h
  obtain ⟨_, hx | ⟨g', cap', cur, hv, hb, hg, hnc, _, _, htk⟩⟩ := h
  · obtain ⟨h1, h2⟩ := hx
    refine ⟨by omega, fun hne => absurd (List.eq_nil_of_length_eq_zero (by omega)) hne⟩
  · injection hv with h1 h2 h3
    subst h1
    obtain ⟨k1, k2, k3, k4⟩ := own_at h0
    exact ⟨k1, fun _ => ⟨g', 0, rfl, k3, fun j u hu => by rw [Nat.zero_add]; exact k4 j u hu⟩⟩
end Go.Proofs.YtlekjnnofhjgjaaDoor
namespace Go.Proofs.YtlekjnnofhjgjaaDoor
open Go.RowKit
def sumsL : List Ins := [⟨16, 1, 0, 0, 0, false⟩, ⟨16, 2, 0, 0, 0, false⟩, ⟨7, 3, 1, 2, 0, false⟩, ⟨8, 4, 3, 2, 0, false⟩, ⟨17, 0, 4, 0, 0, false⟩, ⟨9, 5, 1, 2, 0, false⟩, ⟨9, 6, 2, 1, 0, false⟩, ⟨17, 0, 5, 0, 0, false⟩, ⟨17, 0, 6, 0, 0, false⟩, ⟨17, 0, 3, 0, 0, false⟩]
def sumsM : List Ins := [⟨16, 1, 0, 0, 0, false⟩, ⟨16, 2, 0, 0, 0, false⟩, ⟨9, 3, 1, 2, 0, false⟩, ⟨17, 0, 3, 0, 0, false⟩, ⟨16, 3, 0, 0, 0, false⟩, ⟨17, 0, 3, 0, 0, false⟩]
set_option maxRecDepth 100000 in
theorem sumsM_line (m : Img) (p q : Int) : lineOk sumsM (startS m [p, q]) ∧ (lineS sumsM (startS m [p, q])).told = [arithN 9 p q, 0] := by
  constructor
  · simp [sumsM, lineOk, stepL, doS, startS, regAt, List.replicate, flowsB]
    decide
  · simp [sumsM, lineS, stepL, doS, startS, regAt, List.replicate]
set_option maxRecDepth 100000 in
theorem sumsL_line (m : Img) (x y : Int) : lineOk sumsL (startS m [x, y]) ∧ (lineS sumsL (startS m [x, y])).told = [arithN 8 (arithN 7 x y) y, arithN 9 x y, arithN 9 y x, arithN 7 x y] := by
  constructor
  · simp [sumsL, lineOk, stepL, doS, startS, regAt, List.replicate, flowsB]
    decide
  · simp [sumsL, lineS, stepL, doS, startS, regAt, List.replicate]
end Go.Proofs.YtlekjnnofhjgjaaDoor
namespace Go.Proofs.YtlekjnnofhjgjaaDoor
open Go.RowKit
theorem pow2_split (op : Nat → Nat → Nat) (h2 : ∀ a b, op a b / 2 = op (a / 2) (b / 2)) (a b : Nat) : op a b = 2 * op (a / 2) (b / 2) + op a b % 2 := by
  have := h2 a b
  omega
theorem nat_and_or (a : Nat) : ∀ b, (a &&& b) + (a ||| b) = a + b ∧ (a ||| b) = (a &&& b) + (a ^^^ b) := by
  induction a using Nat.strongRecOn with
  | ind a ih =>
    intro b
    by_cases h0 : a = 0
    · subst h0
      simp
    · have hh := ih (a / 2) (by omega) (b / 2)
      have e1 := pow2_split (· &&& ·) (fun a b => by simpa using (Nat.and_div_two_pow (a := a) (b := b) (n := 1))) a b
      have e2 := pow2_split (· ||| ·) (fun a b => by simpa using (Nat.or_div_two_pow (a := a) (b := b) (n := 1))) a b
      have e3 := pow2_split (· ^^^ ·) (fun a b => by simpa using (Nat.xor_div_two_pow (a := a) (b := b) (n := 1))) a b
      have m1 : (a &&& b) % 2 = (a % 2) &&& (b % 2) := by simpa using (Nat.and_mod_two_pow (a := a) (b := b) (n := 1))
      have m2 : (a ||| b) % 2 = (a % 2) ||| (b % 2) := by simpa using (Nat.or_mod_two_pow (a := a) (b := b) (n := 1))
      have m3 : (a ^^^ b) % 2 = (a % 2) ^^^ (b % 2) := by simpa using (Nat.xor_mod_two_pow (a := a) (b := b) (n := 1))
      have hd : ∀ p q : Fin 2, (p.val &&& q.val) + (p.val ||| q.val) = p.val + q.val ∧ (p.val ||| q.val) = (p.val &&& q.val) + (p.val ^^^ q.val) := by decide
      have hc := hd ⟨a % 2, by omega⟩ ⟨b % 2, by omega⟩
      simp only at hc
      rw [← m1, ← m2, ← m3] at hc
      omega
theorem bits_nat (op : BinOp) (f : Nat → Nat → Nat) (h : op = .and ∧ f = (· &&& ·) ∨ op = .or ∧ f = (· ||| ·) ∨ op = .xor ∧ f = (· ^^^ ·)) (x y : Nat) (hx : x < 1073741824) (hy : y < 1073741824) (hf : f x y < 2147483648) : bits op .i64 (x : Int) (y : Int) = (f x y : Nat) := by
  have ex : BitVec.ofInt 64 (x : Int) = BitVec.ofNat 64 x := by simp
  have ey : BitVec.ofInt 64 (y : Int) = BitVec.ofNat 64 y := by simp
  have hx' : (BitVec.ofNat 64 x).toNat = x := by rw [BitVec.toNat_ofNat]; omega
  have hy' : (BitVec.ofNat 64 y).toNat = y := by rw [BitVec.toNat_ofNat]; omega
  rcases h with ⟨rfl, rfl⟩ | ⟨rfl, rfl⟩ | ⟨rfl, rfl⟩
  · show IntKind.wrap .i64 ((BitVec.ofInt 64 (x : Int) &&& BitVec.ofInt 64 (y : Int)).toNat : Int) = _
    rw [ex, ey, BitVec.toNat_and, hx', hy', IntKind.wrap_i64]
    change x &&& y < 2147483648 at hf
    change _ = ((x &&& y : Nat) : Int)
    omega
  · show IntKind.wrap .i64 ((BitVec.ofInt 64 (x : Int) ||| BitVec.ofInt 64 (y : Int)).toNat : Int) = _
    rw [ex, ey, BitVec.toNat_or, hx', hy', IntKind.wrap_i64]
    change x ||| y < 2147483648 at hf
    change _ = ((x ||| y : Nat) : Int)
    omega
  · show IntKind.wrap .i64 ((BitVec.ofInt 64 (x : Int) ^^^ BitVec.ofInt 64 (y : Int)).toNat : Int) = _
    rw [ex, ey, BitVec.toNat_xor, hx', hy', IntKind.wrap_i64]
    change x ^^^ y < 2147483648 at hf
    change _ = ((x ^^^ y : Nat) : Int)
    omega
theorem bits_fit (x y : Int) (hx : 0 ≤ x ∧ x < 1073741824) (hy : 0 ≤ y ∧ y < 1073741824) : ∃ a o : Int, arithN 10 x y = a ∧ arithN 11 x y = o ∧ arithN 12 x y = o - a ∧ a + o = x + y ∧ 0 ≤ a ∧ a ≤ 2147483648 ∧ 0 ≤ o ∧ o ≤ 2147483648 := by
  obtain ⟨m, rfl⟩ := Int.eq_ofNat_of_zero_le hx.1
  obtain ⟨n, rfl⟩ := Int.eq_ofNat_of_zero_le hy.1
  have h := nat_and_or m n
  have hb : N41 ((m &&& n : Nat) : Int) ∧ N41 ((m ||| n : Nat) : Int) ∧ N41 ((m ^^^ n : Nat) : Int) := by unfold N41; omega
  refine ⟨(m &&& n : Nat), (m ||| n : Nat), ?_, ?_, ?_, by omega, by omega, by omega, by omega, by omega⟩
  · show bal (bits BinOp.and .i64 m n) = _
    rw [bits_nat .and (· &&& ·) (.inl ⟨rfl, rfl⟩) m n (by omega) (by omega) (show m &&& n < 2147483648 by omega)]
    exact bal_self hb.1
  · show bal (bits BinOp.or .i64 m n) = _
    rw [bits_nat .or (· ||| ·) (.inr (.inl ⟨rfl, rfl⟩)) m n (by omega) (by omega) (show m ||| n < 2147483648 by omega)]
    exact bal_self hb.2.1
  · show bal (bits BinOp.xor .i64 m n) = _
    rw [bits_nat .xor (· ^^^ ·) (.inr (.inr ⟨rfl, rfl⟩)) m n (by omega) (by omega) (show m ^^^ n < 2147483648 by omega)]
    rw [bal_self hb.2.2]
    omega
theorem sums_facts (x y : Int) (hx : N41 x) (_hy : N41 y) : ∃ s z k : Int, arithN 7 x y = s ∧ arithN 9 x y = z ∧ arithN 9 y x = z ∧ arithN 8 s y = x ∧ s = x + y + 2199023255553 * k ∧ N41 s ∧ N41 z := by
  obtain ⟨k, hk⟩ := bal_turn (x + y)
  refine ⟨bal (x + y), bal (x * y), k, rfl, rfl, ?_, ?_, hk, bal_bd _, bal_bd _⟩
  · show bal (y * x) = _
    rw [Int.mul_comm]
  · show bal (bal (x + y) - y) = x
    rw [hk]
    exact (bal_of hx (k := -k) (by omega)).symm
theorem sumsL_run (x y : Int) : (runS (aloneM sumsL) [x, y] 100).told = [arithN 8 (arithN 7 x y) y, arithN 9 x y, arithN 9 y x, arithN 7 x y] ∧ (runS (aloneM sumsL) [x, y] 100).en = 1 := by
  have hl := sumsL_line (aloneM sumsL) x y
  have hR := runS_line sumsL [x, y] 89 (by decide) hl.1
  obtain ⟨S, hS⟩ : ∃ S, lineS sumsL (startS (aloneM sumsL) [x, y]) = S := ⟨_, rfl⟩
  rw [hS] at hR hl
  rw [hR]
  exact ⟨hl.2, rfl⟩
theorem sumsM_run (x y : Int) : (runS (aloneM sumsM) [x, y] 100).told = [arithN 9 x y, 0] ∧ (runS (aloneM sumsM) [x, y] 100).en = 1 := by
  have hl := sumsM_line (aloneM sumsM) x y
  have hR := runS_line sumsM [x, y] 93 (by decide) hl.1
  obtain ⟨S, hS⟩ : ∃ S, lineS sumsM (startS (aloneM sumsM) [x, y]) = S := ⟨_, rfl⟩
  rw [hS] at hR hl
  rw [hR]
  exact ⟨hl.2, rfl⟩
theorem small_mul (p q : Int) (hp : -500 ≤ p ∧ p < 500) (hq : -500 ≤ q ∧ q < 500) : -250000 ≤ p * q ∧ p * q ≤ 250000 ∧ arithN 9 p q = p * q := by
  have h : -250000 ≤ p * q ∧ p * q ≤ 250000 := by
    have h1 : (p.natAbs * q.natAbs : Nat) ≤ 500 * 500 := Nat.mul_le_mul (by omega) (by omega)
    rw [← Int.natAbs_mul] at h1
    omega
  refine ⟨h.1, h.2, ?_⟩
  show bal (p * q) = _
  exact bal_self (by unfold N41; omega)
def bitsL : List Ins := [⟨16, 1, 0, 0, 0, false⟩, ⟨16, 2, 0, 0, 0, false⟩, ⟨10, 3, 1, 2, 0, false⟩, ⟨11, 4, 1, 2, 0, false⟩, ⟨12, 5, 1, 2, 0, false⟩, ⟨17, 0, 3, 0, 0, false⟩, ⟨17, 0, 4, 0, 0, false⟩, ⟨17, 0, 5, 0, 0, false⟩, ⟨13, 6, 1, 2, 0, false⟩, ⟨17, 0, 6, 0, 0, false⟩]
set_option maxRecDepth 100000 in
theorem bitsL_line (m : Img) (x y : Int) : lineOk bitsL (startS m [x, y]) ∧ (lineS bitsL (startS m [x, y])).told = [arithN 10 x y, arithN 11 x y, arithN 12 x y, arithN 13 x y] := by
  constructor
  · simp [bitsL, lineOk, stepL, doS, startS, regAt, List.replicate, flowsB]
    decide
  · simp [bitsL, lineS, stepL, doS, startS, regAt, List.replicate]
theorem bitsL_run (x y : Int) : (runS (aloneM bitsL) [x, y] 100).told = [arithN 10 x y, arithN 11 x y, arithN 12 x y, arithN 13 x y] ∧ (runS (aloneM bitsL) [x, y] 100).en = 1 := by
  have hl := bitsL_line (aloneM bitsL) x y
  have hR := runS_line bitsL [x, y] 89 (by decide) hl.1
  obtain ⟨S, hS⟩ : ∃ S, lineS bitsL (startS (aloneM bitsL) [x, y]) = S := ⟨_, rfl⟩
  rw [hS] at hR hl
  rw [hR]
  exact ⟨hl.2, rfl⟩
end Go.Proofs.YtlekjnnofhjgjaaDoor
namespace Go.Proofs.YtlekjnnofhjgjaaDoor
open Go.RowKit
theorem chk_all {P : List Ins} (h : (P.all fun i => i.chk == 0) = true) : ∀ i ∈ P, i.chk = 0 := fun i hi => by
  have := List.all_eq_true.1 h i hi
  simpa using this
theorem fin6 {p : Int → Prop} (h : ∀ n : Fin 6, p (n.val : Int)) (k : Int) (h1 : 0 ≤ k) (h2 : k < 6) : p k := by
  have := h ⟨k.toNat, by omega⟩
  simpa [Int.toNat_of_nonneg h1] using this
theorem with_halt {L : List Ins} (h : ∀ i ∈ L, i.chk = 0) : ∀ i ∈ L ++ [haltI], i.chk = 0 := by
  intro i hi
  rcases List.mem_append.1 hi with h' | h'
  · exact h i h'
  · rw [List.mem_singleton.1 h']
    exact halt_chk
theorem li_chk (d v : Int) (hd : 0 ≤ d ∧ d < 8) (hv : -32768 ≤ v ∧ v ≤ 32767) : (⟨5, d, 0, 0, v, false⟩ : Ins).chk = 0 := by
  rw [ins_chk_zero]
  refine ⟨by simp, ?_, ⟨hd, by simp, by simp⟩, ?_⟩
  · simp [formBad, tab_5, hasD, hasA, hasB, hasN]
  · simp only [nOk, tab_5]
    simp
    rw [inside_iff]
    exact hv
theorem near_chk (k d a b n : Int) (hk : k = 14 ∨ k = 15) (hd : 0 ≤ d ∧ d < 8) (ha : 0 ≤ a ∧ a < 8) (hb : 0 ≤ b ∧ b < 8) (hn : -128 ≤ n ∧ n ≤ 127) (h14 : k = 14 → b = 0) (h15 : k = 15 → d = 0) : (⟨k, d, a, b, n, false⟩ : Ins).chk = 0 := by
  rw [ins_chk_zero]
  rcases hk with rfl | rfl
  · refine ⟨by simp, ?_, ⟨hd, ha, hb⟩, ?_⟩
    · simp [formBad, tab_14, hasD, hasA, hasB, hasN, h14 rfl]
    · simp only [nOk, tab_14]
      simp
      rw [inside_iff]
      exact hn
  · refine ⟨by simp, ?_, ⟨hd, ha, hb⟩, ?_⟩
    · simp [formBad, tab_15, hasD, hasA, hasB, hasN, h15 rfl]
    · simp only [nOk, tab_15]
      simp
      rw [inside_iff]
      exact hn
def memL (v a b : Int) : List Ins := [⟨5, 1, 0, 0, v, false⟩, ⟨15, 0, 0, 1, a, false⟩, ⟨14, 2, 0, 0, a, false⟩, ⟨17, 0, 2, 0, 0, false⟩, ⟨14, 3, 0, 0, b, false⟩, ⟨17, 0, 3, 0, 0, false⟩]
def memN (a : Int) : List Ins := [⟨14, 2, 0, 0, 6 + a, false⟩]
def memO (a : Int) : List Ins := [⟨15, 0, 0, 0, -1 - a, false⟩]
def wasN (v a b : Int) : Int := if a = b then v else [5, -3, 0, 7, 1, 2].getD b.toNat 0
theorem memL_chk (v a b : Int) (hv : 0 ≤ v ∧ v < 1000) (ha : 0 ≤ a ∧ a < 6) (hb : 0 ≤ b ∧ b < 6) : ∀ i ∈ memL v a b, i.chk = 0 := by
  intro i hi
  simp only [memL, List.mem_cons, List.not_mem_nil, or_false] at hi
  rcases hi with rfl | rfl | rfl | rfl | rfl | rfl
  · exact li_chk _ _ (by decide) (by omega)
  · exact near_chk _ _ _ _ _ (by decide) (by decide) (by decide) (by decide) (by omega) (by decide) (by decide)
  · exact near_chk _ _ _ _ _ (by decide) (by decide) (by decide) (by decide) (by omega) (by decide) (by decide)
  · decide
  · exact near_chk _ _ _ _ _ (by decide) (by decide) (by decide) (by decide) (by omega) (by decide) (by decide)
  · decide
theorem memN_chk (a : Int) (ha : 0 ≤ a ∧ a < 6) : ∀ i ∈ memN a, i.chk = 0 := by
  intro i hi
  simp only [memN, List.mem_singleton] at hi
  subst hi
  exact near_chk _ _ _ _ _ (by decide) (by decide) (by decide) (by decide) (by omega) (by decide) (by decide)
theorem memO_chk (a : Int) (ha : 0 ≤ a ∧ a < 6) : ∀ i ∈ memO a, i.chk = 0 := by
  intro i hi
  simp only [memO, List.mem_singleton] at hi
  subst hi
  exact near_chk _ _ _ _ _ (by decide) (by decide) (by decide) (by decide) (by omega) (by decide) (by decide)
/-- each of them is done -/
def lineDo : List Ins → MSt → Prop
  | [], _ => True
  | i :: r, s => (flowsB i.k = false ∧ (doS s i.k i.d i.a i.b i.n).2 = 0) ∧ lineDo r (stepL i s)
theorem lineOk_of : ∀ (L : List Ins) (s : MSt), (∀ i ∈ L, i.chk = 0) → lineDo L s → lineOk L s
  | [], _, _, _ => trivial
  | i :: r, s, h, hd => ⟨⟨h i (by simp), hd.1.1, hd.1.2⟩, lineOk_of r _ (fun j hj => h j (by simp [hj])) hd.2⟩
set_option maxRecDepth 100000 in
set_option maxHeartbeats 4000000 in
theorem memL_line (v : Int) (m : Img) (hm : m.data = [5, -3, 0, 7, 1, 2]) (a b : Int) (ha : 0 ≤ a ∧ a < 6) (hb : 0 ≤ b ∧ b < 6) : lineDo (memL v a b) (startS m []) ∧ (lineS (memL v a b) (startS m [])).told = [v, wasN v a b] := by
  have ha' : a = 0 ∨ a = 1 ∨ a = 2 ∨ a = 3 ∨ a = 4 ∨ a = 5 := by omega
  have hb' : b = 0 ∨ b = 1 ∨ b = 2 ∨ b = 3 ∨ b = 4 ∨ b = 5 := by omega
  clear ha hb
  rcases ha' with rfl | rfl | rfl | rfl | rfl | rfl <;> rcases hb' with rfl | rfl | rfl | rfl | rfl | rfl <;> exact ⟨by simp [memL, lineDo, stepL, doS, memS, startS, regAt, List.replicate, hm, flowsB], by simp [memL, lineS, stepL, doS, memS, startS, regAt, List.replicate, hm, wasN]⟩
theorem memL_run (v a b : Int) (hv : 0 ≤ v ∧ v < 1000) (ha : 0 ≤ a ∧ a < 6) (hb : 0 ≤ b ∧ b < 6) : (runS (aloneM (memL v a b)) [] 100).told = [v, wasN v a b] ∧ (runS (aloneM (memL v a b)) [] 100).en = 1 := by
  have hl := memL_line v (aloneM (memL v a b)) rfl a b ha hb
  have hR := runS_line (memL v a b) [] 93 (by simp [memL]) (lineOk_of _ _ (memL_chk v a b hv ha hb) hl.1)
  obtain ⟨S, hS⟩ : ∃ S, lineS (memL v a b) (startS (aloneM (memL v a b)) []) = S := ⟨_, rfl⟩
  rw [hS] at hR hl
  rw [hR]
  exact ⟨hl.2, rfl⟩
theorem runS_stop (L : List Ins) (i : Ins) (r : List Ins) (I : List Int) (z : Int) (hL : L = i :: r) (hk : ∀ i ∈ L, i.chk = 0) (hf : flowsB i.k = false) (hd : doS (startS (aloneM L) I) i.k i.d i.a i.b i.n = (startS (aloneM L) I, z)) (hz : z ≠ 0) :
    (runS (aloneM L) I 100).told = [] ∧ (runS (aloneM L) I 100).en = z := by
  have h := ix_stop (m := aloneM L) (f := 99) (s := startS (aloneM L) I) 0 rfl (with_halt hk) (i := i) (by rw [hL]; rfl) rfl hf hd hz
  have e : runS (aloneM L) I 100 = runGo (aloneM L) (99 + 1) (startS (aloneM L) I) := rfl
  rw [e, h]
  exact ⟨rfl, rfl⟩
theorem memN_run (a : Int) (ha : 0 ≤ a ∧ a < 6) : (runS (aloneM (memN a)) [] 100).told = [] ∧ (runS (aloneM (memN a)) [] 100).en = 2 := by
  refine runS_stop (memN a) ⟨14, 2, 0, 0, 6 + a, false⟩ [] [] 2 rfl (memN_chk a ha) rfl ?_ (by decide)
  simp [doS, memS, startS, regAt, aloneM, List.replicate]
  omega
theorem memO_run (a : Int) (ha : 0 ≤ a ∧ a < 6) : (runS (aloneM (memO a)) [] 100).told = [] ∧ (runS (aloneM (memO a)) [] 100).en = 2 := by
  refine runS_stop (memO a) ⟨15, 0, 0, 0, -1 - a, false⟩ [] [] 2 rfl (memO_chk a ha) rfl ?_ (by decide)
  simp [doS, memS, startS, regAt, aloneM, List.replicate]
  omega
/-- a branch over one instruction -/
def brL (k n : Int) (l : Bool) : List Ins := [⟨16, 1, 0, 0, 0, false⟩, ⟨16, 2, 0, 0, 0, false⟩, ⟨k, 0, 1, 2, n, l⟩, ⟨17, 0, 1, 0, 0, false⟩, ⟨17, 0, 2, 0, 0, false⟩]
theorem brL_chk (k : Int) (l : Bool) (hk : 18 ≤ k ∧ k ≤ 21) : ∀ i ∈ brL k (if l then 6 else 5) l, i.chk = 0 := by
  have : k = 18 ∨ k = 19 ∨ k = 20 ∨ k = 21 := by omega
  rcases this with rfl | rfl | rfl | rfl <;> cases l <;> exact chk_all (by decide +kernel)
theorem size_branch (k : Int) (l : Bool) (hk : 18 ≤ k ∧ k ≤ 21) : sizeK k l = if l then 4 else 3 := by
  have : k = 18 ∨ k = 19 ∨ k = 20 ∨ k = 21 := by omega
  rcases this with rfl | rfl | rfl | rfl <;> cases l <;> decide +kernel
set_option maxRecDepth 100000 in
set_option maxHeartbeats 4000000 in
theorem brL_run (k x y : Int) (l : Bool) (hk : 18 ≤ k ∧ k ≤ 21) (n : Int) (hn : n = if l then 6 else 5) : (runS (aloneM (brL k n l)) [x, y] 100).told = (if takenB k x y = true then [y] else [x, y]) ∧ (runS (aloneM (brL k n l)) [x, y] 100).en = 1 := by
  have hch : ∀ i ∈ brL k n l, i.chk = 0 := by rw [hn]; exact brL_chk k l hk
  have hP := with_halt hch
  have hf : flowsB k = true := by simp [flowsB]; omega
  have hsz := size_branch k l hk
  have hk1 : ¬ k = 1 ∧ ¬ k = 2 ∧ ¬ k = 3 ∧ ¬ k = 22 ∧ ¬ k = 23 ∧ ¬ k = 24 := by omega
  obtain ⟨m, hm⟩ : ∃ m, aloneM (brL k n l) = m := ⟨_, rfl⟩
  have ht : m.text = encAll (brL k n l ++ [haltI]) := by rw [← hm]; rfl
  have a1 : atP (brL k n l ++ [haltI]) 1 = 2 := by simp [atP, brL]; decide
  have a2 : atP (brL k n l ++ [haltI]) 2 = 4 := by rw [atP_succ (j := 1) rfl, a1]; decide
  have a3 : atP (brL k n l ++ [haltI]) 3 = 4 + sizeK k l := by rw [atP_succ (j := 2) rfl, a2]
  have a4 : atP (brL k n l ++ [haltI]) 4 = 6 + sizeK k l := by rw [atP_succ (j := 3) rfl, a3]; show 4 + sizeK k l + 2 = _; omega
  rw [hm]
  have e : runS m [x, y] 100 = runGo m (94 + 1 + 1 + 1 + 1 + 1 + 1) (startS m [x, y]) := rfl
  rw [e]
  have hs : startS m [x, y] = ⟨List.replicate 8 (0, false), m.data.map fun x => (x, false), [x, y], 0, [], 0, 0⟩ := by rw [← hm]; rfl
  rw [hs]
  rw [ix_do 0 ht hP rfl rfl rfl rfl, ix_do 1 ht hP rfl rfl rfl rfl]
  have hb : ∀ S : MSt, regAt S 1 = (x, false) → regAt S 2 = (y, false) → ∀ ts nx, flowS ts S k 1 2 n nx = if takenB k x y = true then (S, 0, S.pc + n) else (S, 0, nx) := by
    intro S h1 h2 ts nx
    simp [flowS, hk1, h1, h2]
  by_cases htk : takenB k x y = true
  · rw [if_pos htk]
    simp only [if_pos htk] at hb
    rw [ix_flow 2 ht hP rfl rfl hf (hb _ rfl rfl _ _)]
    rw [ix_do 4 ht hP rfl (by show atP _ 2 + n = _; rw [a2, a4, hsz, hn]; cases l <;> rfl) rfl rfl, ix_end 5 ht hP rfl rfl rfl rfl (by decide)]
    exact ⟨rfl, rfl⟩
  · rw [if_neg htk]
    simp only [if_neg htk] at hb
    rw [ix_flow 2 ht hP rfl rfl hf (hb _ rfl rfl _ _)]
    rw [ix_do 3 ht hP rfl rfl rfl rfl, ix_do 4 ht hP rfl rfl rfl rfl, ix_end 5 ht hP rfl rfl rfl rfl (by decide)]
    exact ⟨rfl, rfl⟩
def callA (v : Int) : List Ins := [⟨23, 0, 0, 0, 6, false⟩, ⟨17, 0, 1, 0, 0, false⟩, ⟨1, 0, 0, 0, 0, false⟩, ⟨5, 1, 0, 0, v, false⟩, ⟨3, 0, 0, 0, 0, false⟩]
def callB : List Ins := [⟨23, 0, 0, 0, 3, false⟩, ⟨17, 0, 7, 0, 0, false⟩]
def callC (v : Int) : List Ins := [⟨5, 7, 0, 0, v, false⟩, ⟨3, 0, 0, 0, 0, false⟩]
def callD : List Ins := [⟨23, 0, 0, 0, 3, false⟩, ⟨15, 0, 0, 7, 2, false⟩, ⟨14, 1, 0, 0, 2, false⟩, ⟨6, 1, 1, 0, 0, false⟩]
theorem callA_chk (v : Int) (hv : 0 ≤ v ∧ v < 100) : ∀ i ∈ callA v, i.chk = 0 := by
  intro i hi
  simp only [callA, List.mem_cons, List.not_mem_nil, or_false] at hi
  rcases hi with rfl | rfl | rfl | rfl | rfl
  · decide
  · decide
  · decide
  · exact li_chk _ _ (by decide) (by omega)
  · decide
theorem callC_chk (v : Int) (hv : 0 ≤ v ∧ v < 100) : ∀ i ∈ callC v, i.chk = 0 := by
  intro i hi
  simp only [callC, List.mem_cons, List.not_mem_nil, or_false] at hi
  rcases hi with rfl | rfl
  · exact li_chk _ _ (by decide) (by omega)
  · decide
theorem callB_chk : ∀ i ∈ callB, i.chk = 0 := chk_all (by decide +kernel)
theorem callD_chk : ∀ i ∈ callD, i.chk = 0 := chk_all (by decide +kernel)
set_option maxRecDepth 100000 in
set_option maxHeartbeats 4000000 in
theorem callA_run (v : Int) (hv : 0 ≤ v ∧ v < 100) : (runS (aloneM (callA v)) [] 100).told = [v] ∧ (runS (aloneM (callA v)) [] 100).en = 1 := by
  have hP := with_halt (callA_chk v hv)
  obtain ⟨m, hm⟩ : ∃ m, aloneM (callA v) = m := ⟨_, rfl⟩
  have ht : m.text = encAll (callA v ++ [haltI]) := by rw [← hm]; rfl
  rw [hm]
  have e : runS m [] 100 = runGo m (95 + 1 + 1 + 1 + 1 + 1) (startS m []) := rfl
  rw [e]
  have hs : startS m [] = ⟨List.replicate 8 (0, false), m.data.map fun x => (x, false), [], 0, [], 0, 0⟩ := by rw [← hm]; rfl
  rw [hs]
  rw [ix_flow 0 ht hP rfl rfl rfl rfl, ix_do 3 ht hP rfl rfl rfl rfl, ix_flow 4 ht hP rfl rfl rfl rfl, ix_do 1 ht hP rfl rfl rfl rfl, ix_end 2 ht hP rfl rfl rfl rfl (by decide)]
  exact ⟨rfl, rfl⟩
set_option maxRecDepth 100000 in
set_option maxHeartbeats 4000000 in
theorem callB_run : (runS (aloneM callB) [] 100).told = [] ∧ (runS (aloneM callB) [] 100).en = 4 := by
  have hP := with_halt callB_chk
  obtain ⟨m, hm⟩ : ∃ m, aloneM callB = m := ⟨_, rfl⟩
  have ht : m.text = encAll (callB ++ [haltI]) := by rw [← hm]; rfl
  rw [hm]
  have e : runS m [] 100 = runGo m (98 + 1 + 1) (startS m []) := rfl
  rw [e]
  have hs : startS m [] = ⟨List.replicate 8 (0, false), m.data.map fun x => (x, false), [], 0, [], 0, 0⟩ := by rw [← hm]; rfl
  rw [hs]
  rw [ix_flow 0 ht hP rfl rfl rfl rfl, ix_stop (z := 4) 1 ht hP rfl rfl rfl rfl (by decide)]
  exact ⟨rfl, rfl⟩
set_option maxRecDepth 100000 in
set_option maxHeartbeats 4000000 in
theorem callC_run (v : Int) (hv : 0 ≤ v ∧ v < 100) : (runS (aloneM (callC v)) [] 100).told = [] ∧ (runS (aloneM (callC v)) [] 100).en = 4 := by
  have hP := with_halt (callC_chk v hv)
  obtain ⟨m, hm⟩ : ∃ m, aloneM (callC v) = m := ⟨_, rfl⟩
  have ht : m.text = encAll (callC v ++ [haltI]) := by rw [← hm]; rfl
  rw [hm]
  have e : runS m [] 100 = runGo m (98 + 1 + 1) (startS m []) := rfl
  rw [e]
  have hs : startS m [] = ⟨List.replicate 8 (0, false), m.data.map fun x => (x, false), [], 0, [], 0, 0⟩ := by rw [← hm]; rfl
  rw [hs]
  rw [ix_do 0 ht hP rfl rfl rfl rfl, ix_end (z := 4) 1 ht hP rfl rfl rfl rfl (by decide)]
  exact ⟨rfl, rfl⟩
set_option maxRecDepth 100000 in
set_option maxHeartbeats 4000000 in
theorem callD_run : (runS (aloneM callD) [] 100).told = [] ∧ (runS (aloneM callD) [] 100).en = 4 := by
  have hP := with_halt callD_chk
  obtain ⟨m, hm⟩ : ∃ m, aloneM callD = m := ⟨_, rfl⟩
  have ht : m.text = encAll (callD ++ [haltI]) := by rw [← hm]; rfl
  rw [hm]
  have e : runS m [] 100 = runGo m (96 + 1 + 1 + 1 + 1) (startS m []) := rfl
  rw [e]
  have hs : startS m [] = ⟨List.replicate 8 (0, false), [(5, false), (-3, false), (0, false), (7, false), (1, false), (2, false)], [], 0, [], 0, 0⟩ := by rw [← hm]; rfl
  rw [hs]
  rw [ix_flow 0 ht hP rfl rfl rfl rfl, ix_do 1 ht hP rfl rfl rfl rfl, ix_do 2 ht hP rfl rfl rfl rfl, ix_stop (z := 4) 3 ht hP rfl rfl rfl rfl (by decide)]
  exact ⟨rfl, rfl⟩
end Go.Proofs.YtlekjnnofhjgjaaDoor
namespace Go.Proofs.YtlekjnnofhjgjaaDoor
open Go.RowKit
def RunR (w : World) (S : MSt) (e : Ending) (w' : World) : Prop :=
  Below w.heap.size w w' ∧ ∃ A c, e = .returned (.tuple #[runV A S.told.length c S.en S.steps S.pc, .int .i64 0]) ∧ S.told.length ≤ c ∧ RdG w' w'.heap.size A (intsV .i64 S.told)
theorem run_rd (m : Img) (v : ImgV) (iA : Option Addr) (ic : Nat) (L : List Int) (fuel : Int) (w : World) (S : MSt) (hT : Tabs w) (hI : ImgRd w w.heap.size m v) (hO : ImgOk m v) (hin : RdG w w.heap.size iA (intsV .i64 L))
    (hic : L.length ≤ ic) (hil : L.length ≤ 140737488355328) (hf : N64 fuel) (hL : ∀ x ∈ L, N64 x) (h0 : runE m L fuel = 0) (hS : runS m L fuel = S) :
    Calls Tryd.prog 15 #[.agg (m.val v), .slice iA L.length ic, .int .i64 fuel] w (RunR w S) := by
  refine (run_any m v iA ic L fuel w hT hI hO hin hic hil hf hL).mono ?_
  rintro e w' ⟨hb, -, h⟩
  obtain ⟨A, c, rfl, ho⟩ := h h0
  rw [hS] at ho ⊢
  obtain ⟨k1, k2⟩ := own_rd ho (intsV_len _ _)
  exact ⟨hb, A, c, rfl, k1, k2⟩
def RunQ (w : World) (T : List Int) (n : Nat) (E St : Int) (e : Ending) (w' : World) : Prop :=
  Below w.heap.size w w' ∧ ∃ A c p, e = .returned (.tuple #[runV A n c E St p, .int .i64 0]) ∧ n ≤ c ∧ RdG w' w'.heap.size A (intsV .i64 T)
theorem run_rq (m : Img) (v : ImgV) (iA : Option Addr) (ic : Nat) (L : List Int) (fuel : Int) (w : World) (S : MSt) (T : List Int) (n : Nat) (E St : Int) (hT : Tabs w) (hI : ImgRd w w.heap.size m v) (hO : ImgOk m v) (hin : RdG w w.heap.size iA (intsV .i64 L))
    (hic : L.length ≤ ic) (hil : L.length ≤ 140737488355328) (hf : N64 fuel) (hL : ∀ x ∈ L, N64 x) (h0 : runE m L fuel = 0) (hS : runS m L fuel = S) (h1 : S.told = T) (h2 : T.length = n) (h3 : S.en = E) (h4 : S.steps = St) :
    Calls Tryd.prog 15 #[.agg (m.val v), .slice iA L.length ic, .int .i64 fuel] w (RunQ w T n E St) := by
  refine (run_rd m v iA ic L fuel w S hT hI hO hin hic hil hf hL h0 hS).mono ?_
  rintro e w' ⟨hb, A, c, rfl, hc, hr⟩
  rw [h1] at hc hr ⊢
  rw [h2] at hc ⊢
  rw [h3, h4]
  exact ⟨hb, A, c, _, rfl, hc, hr⟩
theorem runE_fuel {m : Img} {I : List Int} {fuel : Int} (h : checkE m = 0) (hf : 0 ≤ fuel ∧ fuel ≤ 100000) (hl : I.length ≤ 100) (hi : ∀ x ∈ I, N41 x) : runE m I fuel = 0 := by
  unfold runE
  rw [if_neg (by rw [h]; simp), if_neg (by omega), if_neg (by omega), if_neg]
  intro hc
  rw [List.any_eq_true] at hc
  obtain ⟨x, hx, ho⟩ := hc
  have := hi x hx
  simp [oddN] at ho
  unfold N41 at this
  omega
def loopL (k : Int) : List Ins := [⟨5, 1, 0, 0, k, false⟩, ⟨17, 0, 1, 0, 0, false⟩, ⟨6, 1, 1, 0, -1, false⟩, ⟨19, 0, 1, 0, -5, false⟩]
theorem loopL_chk (k : Int) (hk : 1 ≤ k ∧ k ≤ 60) : ∀ i ∈ loopL k, i.chk = 0 := by
  intro i hi
  simp only [loopL, List.mem_cons, List.not_mem_nil, or_false] at hi
  rcases hi with rfl | rfl | rfl | rfl
  · exact li_chk _ _ (by decide) (by omega)
  · decide
  · decide
  · decide
def loopSt (D : List (Int × Bool)) (v : Int) (T : List Int) (s : Int) : MSt := ⟨[(0, false), (v, false), (0, false), (0, false), (0, false), (0, false), (0, false), (0, false)], D, [], 4, T, 0, s⟩
def downT : Int → Nat → List Int
  | _, 0 => []
  | v, j + 1 => v :: downT (v - 1) j
theorem downT_len : ∀ (j : Nat) (v : Int), (downT v j).length = j
  | 0, _ => rfl
  | j + 1, v => by simp [downT, downT_len j]
theorem downT_at : ∀ (j : Nat) (v : Int) (i : Nat), i < j → (downT v j)[i]? = some (v - i)
  | 0, _, _, h => absurd h (Nat.not_lt_zero _)
  | j + 1, v, 0, _ => by simp [downT]
  | j + 1, v, i + 1, h => by
    have := downT_at j (v - 1) i (by omega)
    simp only [downT, List.getElem?_cons_succ, this]
    congr 1
    omega
theorem loop_br (r : Int) (ts : List (List Int)) (S : MSt) (h1 : regAt S 1 = (r, false)) (h2 : regAt S 0 = (0, false)) (nx : Int) : flowS ts S 19 1 0 (-5) nx = if (r != 0) = true then (S, 0, S.pc + -5) else (S, 0, nx) := by
  simp [flowS, h1, h2, takenB]
set_option maxRecDepth 100000 in
set_option maxHeartbeats 4000000 in
theorem loop_two (k v : Int) (T D) (s : Int) (f : Nat) (m : Img) (ht : m.text = encAll (loopL k ++ [haltI])) (hk : 1 ≤ k ∧ k ≤ 60) (hv : 1 ≤ v ∧ v ≤ 60) :
    runGo m (f + 1 + 1) (loopSt D v T s) = runGo m f { loopSt D (v - 1) (T ++ [v]) (s + 1 + 1) with pc := 9 } := by
  have hP := with_halt (loopL_chk k hk)
  have hb : bal (v + -1) = v - 1 := by rw [bal_self (by unfold N41; omega)]; omega
  rw [ix_do 1 ht hP rfl (by rfl) rfl (by rfl), ix_do 2 ht hP rfl (by rfl) rfl (by rfl)]
  simp [loopSt, regAt, hb]
  rfl
set_option maxRecDepth 100000 in
set_option maxHeartbeats 4000000 in
theorem loop_round (k v : Int) (T D) (s : Int) (f : Nat) (m : Img) (ht : m.text = encAll (loopL k ++ [haltI])) (hk : 1 ≤ k ∧ k ≤ 60) (hv : 2 ≤ v ∧ v ≤ 60) :
    runGo m (f + 1 + 1 + 1) (loopSt D v T s) = runGo m f (loopSt D (v - 1) (T ++ [v]) (s + 3)) := by
  have hP := with_halt (loopL_chk k hk)
  have hq : (v - 1 != 0) = true := by simp; omega
  rw [loop_two k v T D s (f + 1) m ht hk (by omega)]
  have hb := loop_br (v - 1) m.tables
  simp only [if_pos hq] at hb
  rw [ix_flow 3 ht hP rfl (by rfl) rfl (hb _ rfl rfl _)]
  refine congrArg (runGo m f) ?_
  simp [loopSt]
  omega
theorem loop_rounds (k : Int) (D) (m : Img) (ht : m.text = encAll (loopL k ++ [haltI])) (hk : 1 ≤ k ∧ k ≤ 60) : ∀ (j : Nat) (v : Int) (T) (s : Int) (f : Nat), (j : Int) < v → v ≤ 60 →
    runGo m (f + 3 * j) (loopSt D v T s) = runGo m f (loopSt D (v - j) (T ++ downT v j) (s + 3 * j))
  | 0, v, T, s, f, _, _ => by simp [downT]
  | j + 1, v, T, s, f, h1, h2 => by
    have e : f + 3 * (j + 1) = (f + 3 * j) + 1 + 1 + 1 := by omega
    rw [e, loop_round k v T D s _ m ht hk (by omega), loop_rounds k D m ht hk j (v - 1) _ _ f (by omega) (by omega)]
    have e1 : v - 1 - (j : Int) = v - ((j + 1 : Nat) : Int) := by omega
    have e2 : s + 3 + 3 * (j : Int) = s + 3 * ((j + 1 : Nat) : Int) := by omega
    rw [e1, e2]
    simp [downT]
set_option maxRecDepth 100000 in
set_option maxHeartbeats 4000000 in
theorem loop_run (k : Nat) (hk : 1 ≤ k ∧ k ≤ 60) : ∃ S1 S2, runS (aloneM (loopL k)) [] 1000 = S1 ∧ runS (aloneM (loopL k)) [] (3 * k) = S2 ∧ S1.told = downT k k ∧ S1.en = 1 ∧ S1.steps = 1 + 3 * k ∧ S2.en = 3 ∧ S2.steps = 3 * k := by
  have hP := with_halt (loopL_chk k (by omega))
  obtain ⟨m, hm⟩ : ∃ m, aloneM (loopL k) = m := ⟨_, rfl⟩
  have ht : m.text = encAll (loopL k ++ [haltI]) := by rw [← hm]; rfl
  rw [hm]
  obtain ⟨j, rfl⟩ : ∃ j, k = j + 1 := ⟨k - 1, by omega⟩
  have hs : startS m [] = ⟨List.replicate 8 (0, false), m.data.map fun x => (x, false), [], 0, [], 0, 0⟩ := by rw [← hm]; rfl
  have hst : ∀ f, runGo m (f + 1) (startS m []) = runGo m f (loopSt (m.data.map fun x => (x, false)) ((j + 1 : Nat) : Int) [] 1) := by
    intro f
    rw [hs, ix_do 0 ht hP rfl rfl rfl rfl]
    rfl
  have hr := loop_rounds ((j + 1 : Nat) : Int) (m.data.map fun x => (x, false)) m ht (by omega) j ((j + 1 : Nat) : Int) [] 1
  have hd : downT ((j + 1 : Nat) : Int) (j + 1) = downT ((j + 1 : Nat) : Int) j ++ [1] := by
    apply List.ext_getElem?
    intro i
    rcases Nat.lt_or_ge i j with h | h
    · rw [downT_at _ _ _ (by omega), List.getElem?_append_left (by rw [downT_len]; exact h), downT_at _ _ _ h]
    · rcases Nat.eq_or_lt_of_le h with h | h
      · subst h
        rw [downT_at _ _ _ (by omega), List.getElem?_append_right (by rw [downT_len]; exact Nat.le_refl _), downT_len]
        simp
        omega
      · rw [List.getElem?_eq_none (by rw [downT_len]; omega), List.getElem?_eq_none (by rw [List.length_append, downT_len]; simp; omega)]
  have v1 : ((j + 1 : Nat) : Int) - (j : Int) = 1 := by omega
  rw [v1] at hr
  refine ⟨_, _, rfl, rfl, ?_⟩
  have e1 : runS m [] 1000 = { loopSt (m.data.map fun x => (x, false)) 0 (downT ((j + 1 : Nat) : Int) (j + 1)) (1 + 3 * ((j + 1 : Nat) : Int)) with pc := atP (loopL ((j + 1 : Nat) : Int) ++ [haltI]) 4, en := 1 } := by
    show runGo m (1000 : Int).toNat (startS m []) = _
    have e : (1000 : Int).toNat = ((995 - 3 * j) + 1 + 1 + 1 + 1 + 3 * j) + 1 := by show 1000 = _; omega
    rw [e, hst, hr _ (by omega) (by omega), loop_two _ _ _ _ _ _ m ht (by omega) (by omega)]
    have hb := loop_br (1 - 1) m.tables
    simp only [show ((1 : Int) - 1 != 0) = false from rfl] at hb
    rw [ix_flow 3 ht hP rfl (by rfl) rfl ((hb _ rfl rfl _).trans (if_neg (by decide))), ix_end 4 ht hP rfl (by rfl) rfl (by rfl) (by decide), hd]
    simp [loopSt]
    omega
  have e2 : runS m [] (3 * ((j + 1 : Nat) : Int)) = { loopSt (m.data.map fun x => (x, false)) 0 (downT ((j + 1 : Nat) : Int) j ++ [1]) (3 * ((j + 1 : Nat) : Int)) with pc := 9, en := 3 } := by
    show runGo m (3 * ((j + 1 : Nat) : Int)).toNat (startS m []) = _
    have e : (3 * ((j + 1 : Nat) : Int)).toNat = (0 + 1 + 1 + 3 * j) + 1 := by omega
    rw [e, hst, hr _ (by omega) (by omega), loop_two _ _ _ _ _ _ m ht (by omega) (by omega)]
    simp [loopSt, runGo]
    omega
  rw [e1, e2]
  exact ⟨rfl, rfl, rfl, rfl, rfl⟩
end Go.Proofs.YtlekjnnofhjgjaaDoor
