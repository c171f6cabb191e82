/- step.Run: words and plain facts. step.Run, walked. -/
import Derived.Test.YtbdlmafhcgndeaaDoorStepH
import Derived.Test.YtbdlmafhcgndeaaDoorCfA
import Derived.Test.YtbdlmafhcgndeaaDoorImgE
import Derived.Test.YtbdlmafhcgndeaaDoorIsaJ
import Derived.Test.YtbdlmafhcgndeaaDoorIsaG
import Derived.Deep.LoopGhost
namespace Go.Proofs.YtbdlmafhcgndeaaDoor
open Go.RowKit
def runE (m : Img) (L : List Int) (fuel : Int) : Int := if checkE m ≠ 0 then checkE m else if fuel < 0 ∨ 100000 < fuel then 2 else if 100 < L.length then 1 else if L.any oddN = true then 2 else 0
/-- one instruction -/
def stepS (m : Img) (s : MSt) : MSt :=
  if (decB m.text s.pc).2.2 ≠ 0 then { s with en := 2 } else
  if flowsB (decB m.text s.pc).1.k = true then
    (if (flowS m.tables s (decB m.text s.pc).1.k (decB m.text s.pc).1.a (decB m.text s.pc).1.b (decB m.text s.pc).1.n (s.pc + (decB m.text s.pc).2.1)).2.1 = 0 then
      { (flowS m.tables s (decB m.text s.pc).1.k (decB m.text s.pc).1.a (decB m.text s.pc).1.b (decB m.text s.pc).1.n (s.pc + (decB m.text s.pc).2.1)).1 with en := 0, pc := (flowS m.tables s (decB m.text s.pc).1.k (decB m.text s.pc).1.a (decB m.text s.pc).1.b (decB m.text s.pc).1.n (s.pc + (decB m.text s.pc).2.1)).2.2, steps := s.steps + 1 }
    else { (flowS m.tables s (decB m.text s.pc).1.k (decB m.text s.pc).1.a (decB m.text s.pc).1.b (decB m.text s.pc).1.n (s.pc + (decB m.text s.pc).2.1)).1 with en := (flowS m.tables s (decB m.text s.pc).1.k (decB m.text s.pc).1.a (decB m.text s.pc).1.b (decB m.text s.pc).1.n (s.pc + (decB m.text s.pc).2.1)).2.1 })
  else
    (if (doS s (decB m.text s.pc).1.k (decB m.text s.pc).1.d (decB m.text s.pc).1.a (decB m.text s.pc).1.b (decB m.text s.pc).1.n).2 = 0 then
      { (doS s (decB m.text s.pc).1.k (decB m.text s.pc).1.d (decB m.text s.pc).1.a (decB m.text s.pc).1.b (decB m.text s.pc).1.n).1 with en := 0, pc := s.pc + (decB m.text s.pc).2.1, steps := s.steps + 1 }
    else { (doS s (decB m.text s.pc).1.k (decB m.text s.pc).1.d (decB m.text s.pc).1.a (decB m.text s.pc).1.b (decB m.text s.pc).1.n).1 with en := (doS s (decB m.text s.pc).1.k (decB m.text s.pc).1.d (decB m.text s.pc).1.a (decB m.text s.pc).1.b (decB m.text s.pc).1.n).2 })
/-- a machine's run, with so many steps left -/
def runGo (m : Img) : Nat → MSt → MSt
  | 0, s => { s with en := 3 }
  | k + 1, s => if (stepS m s).en = 0 then runGo m k (stepS m s) else stepS m s
def gho (fuel : Int) (s : MSt) : Nat := 2 * (fuel - s.steps).toNat + (if s.en = 0 then 1 else 0)
def startS (m : Img) (L : List Int) : MSt :=
  { regs := List.replicate 8 (0, false), data := m.data.map fun x => (x, false), inp := L, pc := (m.funcs.getD m.entry.toNat ⟨default, 0, 0⟩).start, told := [], en := 0, steps := 0 }
def runS (m : Img) (L : List Int) (fuel : Int) : MSt := runGo m fuel.toNat (startS m L)
def runV (A : Option Addr) (n c : Nat) (en steps at_ : Int) : Value := .agg #[.slice A n c, .int .i64 en, .int .i64 steps, .int .i64 at_]
def RunPost (w : World) (m : Img) (L : List Int) (fuel : Int) (e : Ending) (w' : World) : Prop :=
  Below w.heap.size w w' ∧
  (runE m L fuel ≠ 0 → e = .returned (.tuple #[runV none 0 0 0 0 0, .int .i64 (runE m L fuel)])) ∧
  (runE m L fuel = 0 → ∃ A c, e = .returned (.tuple #[runV A (runS m L fuel).told.length c (runS m L fuel).en (runS m L fuel).steps (runS m L fuel).pc, .int .i64 0]) ∧
    w'.ownsRow w.heap.size 3 1 (.slice A (runS m L fuel).told.length c) (runS m L fuel).told.length (intsV .i64 (runS m L fuel).told))
theorem RdG.bytes {w : World} {B : Nat} {A : Option Addr} {L : List Int} (h : RdG w B A (intsV .u8 L)) (hb : ∀ x ∈ L, 0 ≤ x ∧ x < 256) : RdB w B A L :=
  ⟨hb, fun hn => by
    obtain ⟨b, o, e, hlt, hc⟩ := h (by cases L with | nil => exact absurd rfl hn | cons a r => simp [intsV])
    exact ⟨b, o, e, hlt, fun j x hx => hc j _ (intsV_at .u8 hx)⟩⟩
theorem any_odd {L : List Int} (h : L.any oddN = false) : ∀ x ∈ L, N41 x := fun x hx => by
  rw [List.any_eq_false] at h
  have := h x hx
  simp [oddN] at this
  unfold N41
  omega
theorem check0 {m : Img} (h : checkE m = 0) : m.text.length ≤ 8000 ∧ funcsE m = 0 ∧ 0 ≤ m.entry ∧ m.entry < m.funcs.length ∧ m.tables.length ≤ 20 ∧ m.data.length ≤ 64 ∧ tablesGo m.text.length m.tables = 0 ∧ (∀ x ∈ m.data, N41 x) ∧ linesE m = 0 := by
  unfold checkE at h
  split at h
  · cases h
  split at h
  · exact absurd h (by assumption)
  split at h
  · cases h
  split at h
  · cases h
  have hf : funcsE m = 0 := by rename_i h2 _ _; exact Classical.not_not.1 h2
  have hb : m.text.length ≤ 8000 ∧ 0 ≤ m.entry ∧ m.entry < m.funcs.length ∧ m.tables.length ≤ 20 ∧ m.data.length ≤ 64 := by omega
  unfold tailE at h
  split at h
  · rename_i ht
    unfold restE at h
    split at h
    · cases h
    · rename_i hd
      rw [Bool.not_eq_true] at hd
      exact ⟨hb.1, hf, hb.2.1, hb.2.2.1, hb.2.2.2.1, hb.2.2.2.2, ht, any_odd hd, h⟩
  · rename_i ht
    exact absurd h ht
theorem getD_get {α : Type} {L : List α} {j : Nat} (d : α) (h : j < L.length) : L[j]? = some (L.getD j d) := by simp [List.getD, List.getElem?_eq_getElem h]
theorem dec_good {L : List Int} {p : Int} (h : (decB L p).2.2 = 0) : 0 ≤ p ∧ p < L.length ∧ (decB L p).1.chk = 0 ∧ (decB L p).2.1 = sizeK (decB L p).1.k (decB L p).1.l := by
  unfold decB at h ⊢
  split
  · rename_i hc
    rw [if_pos hc] at h
    cases h
  · rename_i hc
    rw [if_neg hc] at h
    simp only at h ⊢
    split
    · rename_i h1
      rw [if_pos h1] at h
      cases h
    · rename_i h1
      rw [if_neg h1] at h
      split
      · rename_i h2
        rw [if_pos h2] at h
        cases h
      · rename_i h2
        rw [if_neg h2] at h
        split
        · rename_i h3
          have hkl := insOf_kl (kindOf (L.getD p.toNat 0)).1 (kindOf (L.getD p.toNat 0)).2 (L.getD (p.toNat + 1) 0) (L.getD (p.toNat + 2) 0) (L.getD (p.toNat + 3) 0)
          exact ⟨by omega, by omega, h3, by simp only [hkl.1, hkl.2]⟩
        · rename_i h3
          rw [if_neg h3] at h
          cases h
theorem ins_num {i : Ins} (h : i.chk = 0) : (-32768 ≤ i.n ∧ i.n ≤ 32767) ∧ (i.k = 24 → 0 ≤ i.n ∧ i.n ≤ 19) := by
  have hn := (ins_chk_zero.1 h).2.2.2
  have hl := fun hh => ins_long h hh
  unfold nOk at hn
  split at hn
  · rename_i hc
    rw [inside_iff] at hn
    refine ⟨hn, fun hk => ?_⟩
    exfalso
    rw [hk] at hl hc
    cases hil : i.l
    · rw [hil] at hc
      exact absurd hc (by decide)
    · exact hl hil (by decide)
  · split at hn
    · rw [inside_iff] at hn
      exact ⟨by omega, fun _ => hn⟩
    · rename_i hc
      rw [inside_iff] at hn
      refine ⟨by omega, fun hk => ?_⟩
      rw [hk] at hc
      exact absurd (by decide) hc
theorem doS_keep (s : MSt) (k d a b n : Int) : (doS s k d a b n).1.pc = s.pc ∧ (doS s k d a b n).1.en = s.en ∧ (doS s k d a b n).1.steps = s.steps ∧ (doS s k d a b n).1.told.length ≤ s.told.length + 1 ∧ ((doS s k d a b n).2 ≠ 0 → (doS s k d a b n).1 = s) := by
  unfold doS memS
  repeat' split
  all_goals refine ⟨rfl, rfl, rfl, by simp, fun h => ?_⟩
  all_goals first | rfl | exact absurd rfl h
theorem flowS_keep (ts : List (List Int)) (s : MSt) (k a b n x : Int) : (flowS ts s k a b n x).1.pc = s.pc ∧ (flowS ts s k a b n x).1.en = s.en ∧ (flowS ts s k a b n x).1.steps = s.steps ∧ (flowS ts s k a b n x).1.told = s.told ∧ (flowS ts s k a b n x).1.data = s.data ∧ (flowS ts s k a b n x).1.inp = s.inp ∧
    ((∀ v ∈ s.regs, N41 v.1) → N41 x → ∀ v ∈ (flowS ts s k a b n x).1.regs, N41 v.1) := by
  unfold flowS
  repeat' split
  all_goals refine ⟨rfl, rfl, rfl, rfl, rfl, rfl, fun h1 h2 => ?_⟩
  all_goals first
    | exact h1
    | (intro v hv
       rcases List.mem_or_eq_of_mem_set hv with hv | rfl
       · exact h1 v hv
       · exact h2)
theorem stepS_do {m : Img} {s : MSt} {i : Ins} {dn : Int} (h : decB m.text s.pc = (i, dn, 0)) (hf : flowsB i.k = false) {s' : MSt} {z : Int} (hd : doS s i.k i.d i.a i.b i.n = (s', z)) :
    stepS m s = if z = 0 then { s' with en := 0, pc := s.pc + dn, steps := s.steps + 1 } else { s' with en := z } := by
  unfold stepS
  rw [h, if_neg (by simp), if_neg (by simp [hf])]
  simp only [hd]
theorem stepS_flow {m : Img} {s : MSt} {i : Ins} {dn : Int} (h : decB m.text s.pc = (i, dn, 0)) (hf : flowsB i.k = true) {s' : MSt} {z x : Int} (hd : flowS m.tables s i.k i.a i.b i.n (s.pc + dn) = (s', z, x)) :
    stepS m s = if z = 0 then { s' with en := 0, pc := x, steps := s.steps + 1 } else { s' with en := z } := by
  unfold stepS
  rw [h, if_neg (by simp), if_pos hf]
  simp only [hd]
/-- what the loop of Run keeps: the run from here ends at RS -/
def NextR (m : Img) (fuel : Int) (RS s : MSt) : Prop := (s.en = 0 → runGo m (fuel - s.steps).toNat s = RS) ∧ (s.en ≠ 0 → s = RS)
theorem next_rel {m : Img} {s s' : MSt} {fuel : Int} {f : Nat} {RS : MSt} (h : runGo m (f + 1) s = RS) (hs : stepS m s = s') (hst : s'.en = 0 → (fuel - s'.steps).toNat = f) : NextR m fuel RS s' := by
  unfold runGo at h
  rw [hs] at h
  refine ⟨fun he => ?_, fun he => ?_⟩
  · rw [if_pos he] at h
    rw [hst he]
    exact h
  · rw [if_neg he] at h
    exact h
theorem gho_end {fuel : Int} {s s' : MSt} (h : s.en = 0) (h1 : s'.en ≠ 0) (h2 : s'.steps = s.steps) : gho fuel s' < gho fuel s := by
  unfold gho
  rw [if_pos h, if_neg h1, h2]
  omega
theorem gho_step {fuel : Int} {s s' : MSt} (h : s.en = 0) (h1 : s'.en = 0) (h2 : s'.steps = s.steps + 1) (h3 : s.steps < fuel) : gho fuel s' < gho fuel s := by
  unfold gho
  rw [if_pos h, if_pos h1, h2]
  omega
end Go.Proofs.YtbdlmafhcgndeaaDoor
namespace Go.Proofs.YtbdlmafhcgndeaaDoor
open Go.RowKit
end Go.Proofs.YtbdlmafhcgndeaaDoor
