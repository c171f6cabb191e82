/- step.Run: words and plain facts. step.Run, walked. -/
import Derived.Test.YtlekjnnofhjgjaaDoorStepH
import Derived.Test.YtlekjnnofhjgjaaDoorCfA
import Derived.Test.YtlekjnnofhjgjaaDoorImgE
import Derived.Test.YtlekjnnofhjgjaaDoorIsaJ
import Derived.Test.YtlekjnnofhjgjaaDoorIsaG
import Derived.Deep.LoopGhost
namespace Go.Proofs.YtlekjnnofhjgjaaDoor
open Go.RowKit
theorem oddR_any (n : Int) (w : World) : Calls Tryd.prog 36 #[.int .i64 n] w fun e w' => e = .returned (.bool (oddN n)) ∧ w = w' := by
  obtain ⟨r, hr⟩ : ∃ r, oddN n = r := ⟨_, rfl⟩
  rw [hr]
  have HR := Lib.hid hr
  clear hr
  by_cases h : n < -1099511627776
  · go_enter Tryd.func36, Tryd.ntmps36
    go_wp2
    go_ret
    exact ⟨by rw [← HR.out]; simp [oddN, h], rfl⟩
  · go_enter Tryd.func36, Tryd.ntmps36
    go_wp2
    go_ret
    exact ⟨by rw [← HR.out]; simp [oddN]; omega, rfl⟩
def runE (m : Img) (L : List Int) (fuel : Int) : Int := if checkE m ≠ 0 then checkE m else if fuel < 0 ∨ 100000 < fuel then 2 else if 100 < L.length then 1 else if L.any oddN = true then 2 else 0
/-- one instruction -/
def stepS (m : Img) (s : MSt) : MSt :=
  if (decB m.text s.pc).2.2 ≠ 0 then { s with en := 2 } else
  if flowsB (decB m.text s.pc).1.k = true then
    (if (flowS m.tables s (decB m.text s.pc).1.k (decB m.text s.pc).1.a (decB m.text s.pc).1.b (decB m.text s.pc).1.n (s.pc + (decB m.text s.pc).2.1)).2.1 = 0 then
      { (flowS m.tables s (decB m.text s.pc).1.k (decB m.text s.pc).1.a (decB m.text s.pc).1.b (decB m.text s.pc).1.n (s.pc + (decB m.text s.pc).2.1)).1 with en := 0, pc := (flowS m.tables s (decB m.text s.pc).1.k (decB m.text s.pc).1.a (decB m.text s.pc).1.b (decB m.text s.pc).1.n (s.pc + (decB m.text s.pc).2.1)).2.2, steps := s.steps + 1 }
    else { (flowS m.tables s (decB m.text s.pc).1.k (decB m.text s.pc).1.a (decB m.text s.pc).1.b (decB m.text s.pc).1.n (s.pc + (decB m.text s.pc).2.1)).1 with en := (flowS m.tables s (decB m.text s.pc).1.k (decB m.text s.pc).1.a (decB m.text s.pc).1.b (decB m.text s.pc).1.n (s.pc + (decB m.text s.pc).2.1)).2.1 })
  else
    (if (doS s (decB m.text s.pc).1.k (decB m.text s.pc).1.d (decB m.text s.pc).1.a (decB m.text s.pc).1.b (decB m.text s.pc).1.n).2 = 0 then
      { (doS s (decB m.text s.pc).1.k (decB m.text s.pc).1.d (decB m.text s.pc).1.a (decB m.text s.pc).1.b (decB m.text s.pc).1.n).1 with en := 0, pc := s.pc + (decB m.text s.pc).2.1, steps := s.steps + 1 }
    else { (doS s (decB m.text s.pc).1.k (decB m.text s.pc).1.d (decB m.text s.pc).1.a (decB m.text s.pc).1.b (decB m.text s.pc).1.n).1 with en := (doS s (decB m.text s.pc).1.k (decB m.text s.pc).1.d (decB m.text s.pc).1.a (decB m.text s.pc).1.b (decB m.text s.pc).1.n).2 })
/-- a machine's run, with so many steps left -/
def runGo (m : Img) : Nat → MSt → MSt
  | 0, s => { s with en := 3 }
  | k + 1, s => if (stepS m s).en = 0 then runGo m k (stepS m s) else stepS m s
def gho (fuel : Int) (s : MSt) : Nat := 2 * (fuel - s.steps).toNat + (if s.en = 0 then 1 else 0)
def startS (m : Img) (L : List Int) : MSt :=
  { regs := List.replicate 8 (0, false), data := m.data.map fun x => (x, false), inp := L, pc := (m.funcs.getD m.entry.toNat ⟨default, 0, 0⟩).start, told := [], en := 0, steps := 0 }
def runS (m : Img) (L : List Int) (fuel : Int) : MSt := runGo m fuel.toNat (startS m L)
def runV (A : Option Addr) (n c : Nat) (en steps at_ : Int) : Value := .agg #[.slice A n c, .int .i64 en, .int .i64 steps, .int .i64 at_]
def RunPost (w : World) (m : Img) (L : List Int) (fuel : Int) (e : Ending) (w' : World) : Prop :=
  Below w.heap.size w w' ∧
  (runE m L fuel ≠ 0 → e = .returned (.tuple #[runV none 0 0 0 0 0, .int .i64 (runE m L fuel)])) ∧
  (runE m L fuel = 0 → ∃ A c, e = .returned (.tuple #[runV A (runS m L fuel).told.length c (runS m L fuel).en (runS m L fuel).steps (runS m L fuel).pc, .int .i64 0]) ∧
    w'.ownsRow w.heap.size 3 1 (.slice A (runS m L fuel).told.length c) (runS m L fuel).told.length (intsV .i64 (runS m L fuel).told))
theorem infoVal : (Tryd.prog.info? 88).map (fun i => (i.zero, i.size, i.bytes)) = some (some (.agg #[.int .i64 0, .bool false]), 2, 16) := by kernel_rfl
theorem app_val_lies {w : World} {ops : Array Oper} {rest : List Oper} {o : Oper} {a : Act} {Q : Exit → Act → World → Prop} (hgd : o.guard = none) (s x : Operand)
    (ho : o.op = .call { callee := .builtin .append, args := #[s, x], argTypes := #[90, 90] }) (base : Nat) (v : Value) (n : Nat) (L : List (Int × Bool)) (hs : a.eval s = v) (hown : w.ownsRow base 88 2 v n (valsC L))
    (g c : Nat) (hx : a.eval x = .slice (some ⟨g, 0, none⟩) 1 c) (z : Int) (b : Bool) (fr : Nat × Nat) (hb : w.heap[g]? = some (.cells #[.int .i64 z, .bool b] 88 fr)) (hn : n ≤ 1000000000000) (hbase : base ≤ w.heap.size)
    (h : ∀ g' cap' w', w'.ownsRow base 88 2 (.slice (some ⟨g', 0, none⟩) (n + 1) cap') (n + 1) (valsC (L ++ [(z, b)])) → w.grownBy w' v.ownBlock → (v.ownBlock = some g' ∨ g' = w.heap.size) → g' < w'.heap.size → wpList Tryd.prog ops Q rest (a.put o.dst (.slice (some ⟨g', 0, none⟩) (n + 1) cap')) w') : wpList Tryd.prog ops Q (o :: rest) a w := by
  obtain ⟨i0, hi, hz0, hz1, hz2⟩ := info_parts infoVal
  refine wpList_append_lies w hgd s x 90 ho base 88 i0 _ 2 16 Tryd.underlying90 hi hz0 hz1 hz2 rfl (by decide) v _ _ hs hown ⟨g, 0, none⟩ 1 c [.int .i64 z, .bool b] hx rfl (World.news_of_block hb) (by simp [Value.oneCell']) (by decide) (by unfold maxLen; omega) (by omega) hbase _ rfl (fun g' c' w' h1 => h g' c' w' ?_)
  have e : valsC (L ++ [(z, b)]) = valsC L ++ [.int .i64 z, .bool b] := by simp [valsC, valC]
  rw [e]
  exact h1
theorem RdG.bytes {w : World} {B : Nat} {A : Option Addr} {L : List Int} (h : RdG w B A (intsV .u8 L)) (hb : ∀ x ∈ L, 0 ≤ x ∧ x < 256) : RdB w B A L :=
  ⟨hb, fun hn => by
    obtain ⟨b, o, e, hlt, hc⟩ := h (by cases L with | nil => exact absurd rfl hn | cons a r => simp [intsV])
    exact ⟨b, o, e, hlt, fun j x hx => hc j _ (intsV_at .u8 hx)⟩⟩
theorem any_odd {L : List Int} (h : L.any oddN = false) : ∀ x ∈ L, N41 x := fun x hx => by
  rw [List.any_eq_false] at h
  have := h x hx
  simp [oddN] at this
  unfold N41
  omega
theorem check0 {m : Img} (h : checkE m = 0) : m.text.length ≤ 8000 ∧ funcsE m = 0 ∧ 0 ≤ m.entry ∧ m.entry < m.funcs.length ∧ m.tables.length ≤ 20 ∧ m.data.length ≤ 64 ∧ tablesGo m.text.length m.tables = 0 ∧ (∀ x ∈ m.data, N41 x) ∧ linesE m = 0 := by
  unfold checkE at h
  split at h
  · cases h
  split at h
  · exact absurd h (by assumption)
  split at h
  · cases h
  split at h
  · cases h
  have hf : funcsE m = 0 := by rename_i h2 _ _; exact Classical.not_not.1 h2
  have hb : m.text.length ≤ 8000 ∧ 0 ≤ m.entry ∧ m.entry < m.funcs.length ∧ m.tables.length ≤ 20 ∧ m.data.length ≤ 64 := by omega
  unfold tailE at h
  split at h
  · rename_i ht
    unfold restE at h
    split at h
    · cases h
    · rename_i hd
      rw [Bool.not_eq_true] at hd
      exact ⟨hb.1, hf, hb.2.1, hb.2.2.1, hb.2.2.2.1, hb.2.2.2.2, ht, any_odd hd, h⟩
  · rename_i ht
    exact absurd h ht
theorem getD_get {α : Type} {L : List α} {j : Nat} (d : α) (h : j < L.length) : L[j]? = some (L.getD j d) := by simp [List.getD, List.getElem?_eq_getElem h]
theorem dec_good {L : List Int} {p : Int} (h : (decB L p).2.2 = 0) : 0 ≤ p ∧ p < L.length ∧ (decB L p).1.chk = 0 ∧ (decB L p).2.1 = sizeK (decB L p).1.k (decB L p).1.l := by
  unfold decB at h ⊢
  split
  · rename_i hc
    rw [if_pos hc] at h
    cases h
  · rename_i hc
    rw [if_neg hc] at h
    simp only at h ⊢
    split
    · rename_i h1
      rw [if_pos h1] at h
      cases h
    · rename_i h1
      rw [if_neg h1] at h
      split
      · rename_i h2
        rw [if_pos h2] at h
        cases h
      · rename_i h2
        rw [if_neg h2] at h
        split
        · rename_i h3
          have hkl := insOf_kl (kindOf (L.getD p.toNat 0)).1 (kindOf (L.getD p.toNat 0)).2 (L.getD (p.toNat + 1) 0) (L.getD (p.toNat + 2) 0) (L.getD (p.toNat + 3) 0)
          exact ⟨by omega, by omega, h3, by simp only [hkl.1, hkl.2]⟩
        · rename_i h3
          rw [if_neg h3] at h
          cases h
theorem ins_num {i : Ins} (h : i.chk = 0) : (-32768 ≤ i.n ∧ i.n ≤ 32767) ∧ (i.k = 24 → 0 ≤ i.n ∧ i.n ≤ 19) := by
  have hn := (ins_chk_zero.1 h).2.2.2
  have hl := fun hh => ins_long h hh
  unfold nOk at hn
  split at hn
  · rename_i hc
    rw [inside_iff] at hn
    refine ⟨hn, fun hk => ?_⟩
    exfalso
    rw [hk] at hl hc
    cases hil : i.l
    · rw [hil] at hc
      exact absurd hc (by decide)
    · exact hl hil (by decide)
  · split at hn
    · rw [inside_iff] at hn
      exact ⟨by omega, fun _ => hn⟩
    · rename_i hc
      rw [inside_iff] at hn
      refine ⟨by omega, fun hk => ?_⟩
      rw [hk] at hc
      exact absurd (by decide) hc
theorem doS_keep (s : MSt) (k d a b n : Int) : (doS s k d a b n).1.pc = s.pc ∧ (doS s k d a b n).1.en = s.en ∧ (doS s k d a b n).1.steps = s.steps ∧ (doS s k d a b n).1.told.length ≤ s.told.length + 1 ∧ ((doS s k d a b n).2 ≠ 0 → (doS s k d a b n).1 = s) := by
  unfold doS memS
  repeat' split
  all_goals refine ⟨rfl, rfl, rfl, by simp, fun h => ?_⟩
  all_goals first | rfl | exact absurd rfl h
theorem flowS_keep (ts : List (List Int)) (s : MSt) (k a b n x : Int) : (flowS ts s k a b n x).1.pc = s.pc ∧ (flowS ts s k a b n x).1.en = s.en ∧ (flowS ts s k a b n x).1.steps = s.steps ∧ (flowS ts s k a b n x).1.told = s.told ∧ (flowS ts s k a b n x).1.data = s.data ∧ (flowS ts s k a b n x).1.inp = s.inp ∧
    ((∀ v ∈ s.regs, N41 v.1) → N41 x → ∀ v ∈ (flowS ts s k a b n x).1.regs, N41 v.1) := by
  unfold flowS
  repeat' split
  all_goals refine ⟨rfl, rfl, rfl, rfl, rfl, rfl, fun h1 h2 => ?_⟩
  all_goals first
    | exact h1
    | (intro v hv
       rcases List.mem_or_eq_of_mem_set hv with hv | rfl
       · exact h1 v hv
       · exact h2)
theorem stepS_do {m : Img} {s : MSt} {i : Ins} {dn : Int} (h : decB m.text s.pc = (i, dn, 0)) (hf : flowsB i.k = false) {s' : MSt} {z : Int} (hd : doS s i.k i.d i.a i.b i.n = (s', z)) :
    stepS m s = if z = 0 then { s' with en := 0, pc := s.pc + dn, steps := s.steps + 1 } else { s' with en := z } := by
  unfold stepS
  rw [h, if_neg (by simp), if_neg (by simp [hf])]
  simp only [hd]
theorem stepS_flow {m : Img} {s : MSt} {i : Ins} {dn : Int} (h : decB m.text s.pc = (i, dn, 0)) (hf : flowsB i.k = true) {s' : MSt} {z x : Int} (hd : flowS m.tables s i.k i.a i.b i.n (s.pc + dn) = (s', z, x)) :
    stepS m s = if z = 0 then { s' with en := 0, pc := x, steps := s.steps + 1 } else { s' with en := z } := by
  unfold stepS
  rw [h, if_neg (by simp), if_pos hf]
  simp only [hd]
/-- what the loop of Run keeps: the run from here ends at RS -/
def NextR (m : Img) (fuel : Int) (RS s : MSt) : Prop := (s.en = 0 → runGo m (fuel - s.steps).toNat s = RS) ∧ (s.en ≠ 0 → s = RS)
theorem next_rel {m : Img} {s s' : MSt} {fuel : Int} {f : Nat} {RS : MSt} (h : runGo m (f + 1) s = RS) (hs : stepS m s = s') (hst : s'.en = 0 → (fuel - s'.steps).toNat = f) : NextR m fuel RS s' := by
  unfold runGo at h
  rw [hs] at h
  refine ⟨fun he => ?_, fun he => ?_⟩
  · rw [if_pos he] at h
    rw [hst he]
    exact h
  · rw [if_neg he] at h
    exact h
theorem gho_end {fuel : Int} {s s' : MSt} (h : s.en = 0) (h1 : s'.en ≠ 0) (h2 : s'.steps = s.steps) : gho fuel s' < gho fuel s := by
  unfold gho
  rw [if_pos h, if_neg h1, h2]
  omega
theorem gho_step {fuel : Int} {s s' : MSt} (h : s.en = 0) (h1 : s'.en = 0) (h2 : s'.steps = s.steps + 1) (h3 : s.steps < fuel) : gho fuel s' < gho fuel s := by
  unfold gho
  rw [if_pos h, if_pos h1, h2]
  omega
end Go.Proofs.YtlekjnnofhjgjaaDoor
namespace Go.Proofs.YtlekjnnofhjgjaaDoor
open Go.RowKit
set_option maxHeartbeats 8000000 in
set_option maxRecDepth 100000 in
theorem run_any (m : Img) (v : ImgV) (iA : Option Addr) (ic : Nat) (L : List Int) (fuel : Int) (w : World) (hT : Tabs w) (hI : ImgRd w w.heap.size m v) (hO : ImgOk m v) (hin : RdG w w.heap.size iA (intsV .i64 L))
    (hic : L.length ≤ ic) (hil : L.length ≤ 140737488355328) (hf : N64 fuel) (hL : ∀ x ∈ L, N64 x) :
    Calls Tryd.prog 15 #[.agg (m.val v), .slice iA L.length ic, .int .i64 fuel] w (RunPost w m L fuel) := by
  obtain ⟨hf1, hf2⟩ := hf
  have HT := Lib.hid hT
  have HI := Lib.hid hI
  have HO := Lib.hid hO
  have HIN := Lib.hid hin
  have HL := Lib.hid hL
  obtain ⟨R, hR⟩ : ∃ R, runE m L fuel = R := ⟨_, rfl⟩
  have herr : ∀ (e : Ending) (w' : World), R ≠ 0 → Below w.heap.size w w' → e = .returned (.tuple #[runV none 0 0 0 0 0, .int .i64 R]) → RunPost w m L fuel e w' := fun e w' h0 hb he =>
    ⟨hb, fun _ => by rw [hR]; exact he, fun h => absurd (hR.symm.trans h) h0⟩
  have HERR := Lib.hid herr
  have HR0 := Lib.hid hR
  unfold runE at hR
  have HV : Hid (m.val v = #[.slice v.tA m.text.length v.tc, .slice v.fA m.funcs.length v.fc, .slice v.bA m.tables.length v.bc, .slice v.dA m.data.length v.dc, .slice v.lA m.lines.length v.lc, .int .i64 m.entry]) := Lib.hid rfl
  rw [HV.out]
  have hB0 : Below w.heap.size w ((w.alloc (.cells (m.val v) 31)).alloc (.cells #[.slice none 0 0, .int .i64 0, .int .i64 0, .int .i64 0] 33)) := ((Below.refl _ _).alloc (Nat.le_refl _) _).alloc (by simp) _
  have HB0 := Lib.hid hB0
  have HRR := Lib.hid hR
  clear hT hI hO hin hL herr hB0 hR
  go_enter Tryd.func15, Tryd.ntmps15
  go_wp2_with fail
  have hcc := imgCheck_any m v ((w.alloc (.cells (m.val v) 31)).alloc (.cells #[.slice none 0 0, .int .i64 0, .int .i64 0, .int .i64 0] 33)) ((HI.out.below HB0.out).more (by simp; omega)) HO.out
  rw [HV.out] at hcc
  refine hcc.mono ?_
  clear hcc
  rintro e w1 ⟨rfl, hb1⟩
  have hx1 : w1.heap[w.heap.size]? = some (.cells #[.slice v.tA m.text.length v.tc, .slice v.fA m.funcs.length v.fc, .slice v.bA m.tables.length v.bc, .slice v.dA m.data.length v.dc, .slice v.lA m.lines.length v.lc, .int .i64 m.entry] 31 (0, 0)) :=
    (hb1.block _ (by simp; omega)).trans ((heap_alloc_old _ _ (by simp)).trans (heap_alloc_new w _))
  have hr1 : w1.heap[w.heap.size + 1]? = some (.cells #[.slice none 0 0, .int .i64 0, .int .i64 0, .int .i64 0] 33 (0, 0)) := (hb1.block _ (by simp)).trans (heap_alloc2_new w _ _)
  have hs1 : w.heap.size + 2 ≤ w1.heap.size := by have := hb1.size; simp at this; omega
  have hlx : w.heap.size < w1.heap.size := by omega
  have hlr : w.heap.size + 1 < w1.heap.size := by omega
  have hB1 : Below w.heap.size w w1 := HB0.out.trans (hb1.mono (by simp; omega))
  clear hb1 HB0
  obtain ⟨cE, hcE⟩ : ∃ c, checkE m = c := ⟨_, rfl⟩
  rw [hcE] at HRR ⊢
  have HCE := Lib.hid hcE
  have hfr : w1.frozen? ⟨w.heap.size + 1, 0, none⟩ = false ∧ w1.frozen? ⟨w.heap.size + 1, 1, none⟩ = false ∧ w1.frozen? ⟨w.heap.size + 1, 2, none⟩ = false ∧ w1.frozen? ⟨w.heap.size + 1, 3, none⟩ = false := ⟨frozen_of_row _ _ _ _ _ hr1, frozen_of_row _ _ _ _ _ hr1, frozen_of_row _ _ _ _ _ hr1, frozen_of_row _ _ _ _ _ hr1⟩
  obtain ⟨fz0, fz1, fz2, fz3⟩ := hfr
  have rc0 : w1.cell? ⟨w.heap.size + 1, 0, none⟩ = some (.slice none 0 0) := cell_of_row _ _ 0 _ _ _ hr1
  have rc1 : w1.cell? ⟨w.heap.size + 1, 1, none⟩ = some (.int .i64 0) := cell_of_row _ _ 1 _ _ _ hr1
  have rc2 : w1.cell? ⟨w.heap.size + 1, 2, none⟩ = some (.int .i64 0) := cell_of_row _ _ 2 _ _ _ hr1
  have rc3 : w1.cell? ⟨w.heap.size + 1, 3, none⟩ = some (.int .i64 0) := cell_of_row _ _ 3 _ _ _ hr1
  have hEB : ∀ a b c d : Value, Below w.heap.size w ((((w1.setCell ⟨w.heap.size + 1, 0, none⟩ a).setCell ⟨w.heap.size + 1, 1, none⟩ b).setCell ⟨w.heap.size + 1, 2, none⟩ c).setCell ⟨w.heap.size + 1, 3, none⟩ d) := fun a b c d =>
    hB1.trans (gb_to_below (gb_setCell (gb_setCell (gb_setCell (gb_setCell (gb_refl w1 (some (w.heap.size + 1))) 0 a) 1 b) 2 c) 3 d) (by omega) (by omega))
  have HEB := Lib.hid hEB
  have HX1 := Lib.hid hx1
  have HR1 := Lib.hid hr1
  have HB1 := Lib.hid hB1
  clear hcE hEB hx1 hr1 hB1
  by_cases c0 : ¬ cE = 0
  · have hR := HRR.out
    rw [if_pos c0] at hR
    have HR2 := Lib.hid hR
    have c0' : (cE != 0) = true := by simpa using c0
    have C0 := Lib.hid c0
    clear hR HRR c0
    go_wp2
    refine bodyPost_ret (v := .tuple #[.agg #[.slice none 0 0, .int .i64 0, .int .i64 0, .int .i64 0], .int .i64 cE]) (by simp [results, Tryd.results15, go_sem, *]) rfl (HERR.out _ _ (by rw [← HR2.out]; exact C0.out) (HEB.out _ _ _ _) (by rw [← HR2.out]; rfl))
  have hR := HRR.out
  rw [if_neg c0] at hR
  rw [Classical.not_not] at c0
  subst c0
  have HRR2 := Lib.hid hR
  clear hR HRR
  by_cases c1 : fuel < 0 ∨ 100000 < fuel
  · have hR := HRR2.out
    rw [if_pos c1] at hR
    have HR2 := Lib.hid hR
    clear hR HRR2
    by_cases c2 : fuel < 0
    · clear c1
      go_wp2
      refine bodyPost_ret (v := .tuple #[.agg #[.slice none 0 0, .int .i64 0, .int .i64 0, .int .i64 0], .int .i64 2]) (by simp [results, Tryd.results15, go_sem, *]) rfl (HERR.out _ _ (by rw [← HR2.out]; decide) (HEB.out _ _ _ _) (by rw [← HR2.out]; rfl))
    · have c3 : 100000 < fuel := by omega
      clear c1
      go_wp2
      refine bodyPost_ret (v := .tuple #[.agg #[.slice none 0 0, .int .i64 0, .int .i64 0, .int .i64 0], .int .i64 2]) (by simp [results, Tryd.results15, go_sem, *]) rfl (HERR.out _ _ (by rw [← HR2.out]; decide) (HEB.out _ _ _ _) (by rw [← HR2.out]; rfl))
  · have hR := HRR2.out
    rw [if_neg c1] at hR
    have HRR3 := Lib.hid hR
    have f1 : 0 ≤ fuel := by omega
    have f2 : fuel ≤ 100000 := by omega
    have g1 : decide (fuel < 0) = false := by simpa using f1
    have g2 : decide (100000 < fuel) = false := by simpa using f2
    clear hR HRR2 c1
    by_cases c2 : 100 < L.length
    · have hR := HRR3.out
      rw [if_pos c2] at hR
      have HR2 := Lib.hid hR
      have c2' : (100 : Int) < L.length := by omega
      clear hR HRR3
      go_wp2
      refine bodyPost_ret (v := .tuple #[.agg #[.slice none 0 0, .int .i64 0, .int .i64 0, .int .i64 0], .int .i64 1]) (by simp [results, Tryd.results15, go_sem, *]) rfl (HERR.out _ _ (by rw [← HR2.out]; decide) (HEB.out _ _ _ _) (by rw [← HR2.out]; rfl))
    · have hR := HRR3.out
      rw [if_neg c2] at hR
      have HRR4 := Lib.hid hR
      have c2' : ¬ (100 : Int) < L.length := by omega
      clear hR HRR3
      go_wp2_with fail
      refine (cf_inputs L oddN iA L.length ic w1 ((HIN.out.below HB1.out).more (by omega)) rfl hil (fun x _ => oddR_any x w1)).mono ?_
      rintro e w2 ⟨rfl, rfl⟩
      obtain ⟨q, hq⟩ : ∃ q, L.any oddN = q := ⟨_, rfl⟩
      rw [hq] at HRR4 ⊢
      have HQ := Lib.hid hq
      clear hq
      cases q
      case true =>
        have hR := HRR4.out
        rw [if_pos rfl] at hR
        have HR2 := Lib.hid hR
        clear hR HRR4
        go_wp2
        refine bodyPost_ret (v := .tuple #[.agg #[.slice none 0 0, .int .i64 0, .int .i64 0, .int .i64 0], .int .i64 2]) (by simp [results, Tryd.results15, go_sem, *]) rfl (HERR.out _ _ (by rw [← HR2.out]; decide) (HEB.out _ _ _ _) (by rw [← HR2.out]; rfl))
      have hR := HRR4.out
      rw [if_neg (by decide)] at hR
      subst hR
      clear HRR4 HERR HEB
      obtain ⟨k1, k2, k3, k4, k5, k6, k7, k8, k9⟩ := check0 HCE.out
      have hLN := any_odd HQ.out
      have HLN := Lib.hid hLN
      have HK := Lib.hid (And.intro k1 (And.intro k6 k8))
      obtain ⟨bi, hbi⟩ : ∃ j : Nat, m.entry = j := ⟨m.entry.toNat, by omega⟩
      have hfe := getD_get (L := m.funcs) (j := bi) ⟨default, 0, 0⟩ (by omega)
      obtain ⟨pc0, hpc⟩ : ∃ p, (m.funcs.getD bi ⟨default, 0, 0⟩).start = p := ⟨_, rfl⟩
      obtain ⟨fb, fo, hfA, hfb, fc0, fc1, fc2⟩ := (HI.out.below HB1.out).funcs.at3 hfe
      rw [hpc] at fc1
      have hbi' : (bi : Int) < m.funcs.length := by omega
      have HPC := Lib.hid hpc
      have HBI := Lib.hid hbi
      have hfw : fb < w1.heap.size := by omega
      rw [hbi]
      have hx1 := HX1.out
      rw [hbi, hfA] at hx1
      have xc0 : w1.cell? ⟨w.heap.size, 0, none⟩ = some (.slice v.tA m.text.length v.tc) := cell_of_row _ _ 0 _ _ _ hx1
      have xc1 : w1.cell? ⟨w.heap.size, 1, none⟩ = some (.slice (some ⟨fb, fo, none⟩) m.funcs.length v.fc) := cell_of_row _ _ 1 _ _ _ hx1
      have xc2 : w1.cell? ⟨w.heap.size, 2, none⟩ = some (.slice v.bA m.tables.length v.bc) := cell_of_row _ _ 2 _ _ _ hx1
      have xc3 : w1.cell? ⟨w.heap.size, 3, none⟩ = some (.slice v.dA m.data.length v.dc) := cell_of_row _ _ 3 _ _ _ hx1
      have xc4 : w1.cell? ⟨w.heap.size, 4, none⟩ = some (.slice v.lA m.lines.length v.lc) := cell_of_row _ _ 4 _ _ _ hx1
      have xc5 : w1.cell? ⟨w.heap.size, 5, none⟩ = some (.int .i64 bi) := cell_of_row _ _ 5 _ _ _ hx1
      have HX2 := Lib.hid hx1
      have XC0 := Lib.hid xc0
      have XC2 := Lib.hid xc2
      have HFA := Lib.hid hfA
      have hOf := HO.out.fc
      clear k1 k2 k3 k4 k5 k6 k7 k8 k9 hLN hfe hpc hbi hfA hx1 HX1 fc0 fc2
      go_upto_region 10 with fail
      clear rc0 rc1 rc2 rc3 fz0 fz1 fz2 fz3
      go_still_tail 10, (by kernel_rfl)
      change wpList _ _ _ _ _ w1.drew
      go_wp2_with fail
      obtain ⟨iv, hiv⟩ : ∃ iv : List Value, iv = [.slice v.tA m.text.length v.tc, .slice (some ⟨fb, fo, none⟩) m.funcs.length v.fc, .slice v.bA m.tables.length v.bc, .slice v.dA m.data.length v.dc, .slice v.lA m.lines.length v.lc, .int .i64 bi] := ⟨_, rfl⟩
      obtain ⟨W2, hW2⟩ : ∃ W2, (w1.alloc
        (Obj.cells
          #[Value.slice v.tA m.text.length v.tc, Value.slice (some ⟨fb, fo, none⟩) m.funcs.length v.fc,
            Value.slice v.bA m.tables.length v.bc, Value.slice v.dA m.data.length v.dc,
            Value.slice v.lA m.lines.length v.lc, Value.int IntKind.i64 bi, Value.int IntKind.i64 0, Value.bool false,
            Value.int IntKind.i64 0, Value.bool false, Value.int IntKind.i64 0, Value.bool false,
            Value.int IntKind.i64 0, Value.bool false, Value.int IntKind.i64 0, Value.bool false,
            Value.int IntKind.i64 0, Value.bool false, Value.int IntKind.i64 0, Value.bool false,
            Value.int IntKind.i64 0, Value.bool false, Value.slice none 0 0, Value.slice iA L.length ic,
            Value.int IntKind.i64 pc0, Value.slice none 0 0, Value.int IntKind.i64 0, Value.int IntKind.i64 0,
            Value.int IntKind.i64 0]
          92)).drew = W2 := ⟨_, rfl⟩
      rw [hW2]
      have hb2 : Below w1.heap.size w1 W2 := by rw [← hW2]; exact ((Below.refl _ _).alloc (Nat.le_refl _) _).drew
      have hM2 : MInv W2 w1.heap.size w1.heap.size iv ⟨List.replicate 8 (0, false), [], L, pc0, [], 0, 0⟩ ⟨none, 0, iA, ic, none, 0⟩ := by
        refine ⟨⟨?_, by rw [hiv]; rfl, rfl⟩, Nat.le_refl _, ⟨rfl, .inl ⟨rfl, rfl⟩⟩, ⟨rfl, .inl ⟨rfl, rfl⟩⟩, ((HIN.out.below (HB1.out.trans (hb2.mono (by omega)))).more (by omega)), hic, (by intro e; cases e), (by intro e; cases e), .inl rfl, ?_, ?_, HLN.out, (by simp), (by simp), (by simp only; omega)⟩
        · rw [← hW2, hiv]
          exact heap_alloc_new w1 _
        · intro u hu
          rw [List.eq_of_mem_replicate hu]
          exact ⟨by decide, by decide⟩
        · intro u hu
          cases hu
      have HM2 := Lib.hid hM2
      have HB2 := Lib.hid hb2
      have HIV := Lib.hid hiv
      clear hM2 hb2 hiv hW2 fc1 xc0 xc1 xc2 xc3 xc4 xc5 HX2
      have kd := HK.out.2.1
      go_loopw [50] (fun v50 wr => ∃ (k : Nat) (A : Option Addr) (c : Nat), k ≤ m.data.length ∧ v50 = .int .i64 k ∧ Hid (MInv wr w1.heap.size w1.heap.size iv ⟨List.replicate 8 (0, false), (m.data.take k).map (fun x => (x, false)), L, pc0, [], 0, 0⟩ ⟨A, c, iA, ic, none, 0⟩) ∧ Hid (Below w1.heap.size w1 wr)) (fun v50 _ => m.data.length - (intOf v50).toNat)
      case atStart => exact ⟨0, none, 0, Nat.zero_le _, rfl, HM2, HB2⟩
      case round =>
        obtain ⟨k, A, c, hk, rfl, HM, HB⟩ := hrel
        by_cases hlt : k < m.data.length
        · have hx : m.data[k]? = some (m.data[k]'hlt) := List.getElem?_eq_getElem _
          obtain ⟨x, hxx⟩ : ∃ x, m.data[k]'hlt = x := ⟨_, rfl⟩
          rw [hxx] at hx
          have htk : (m.data.take (k + 1)).map (fun x => (x, false)) = (m.data.take k).map (fun x => (x, false)) ++ [(x, false)] := by rw [List.take_add_one, hx]; simp
          have HTK := Lib.hid htk
          have HXD := Lib.hid (HK.out.2.2 x (List.mem_of_getElem? hx))
          have hBw : Below w.heap.size w wr := HB1.out.trans (HB.out.mono (by omega))
          obtain ⟨db, dof, hdA, hdb, hdc⟩ := (HI.out.below hBw).data.at (intsV_at .i64 hx)
          obtain ⟨DL, hDL⟩ : ∃ D, (m.data.take k).map (fun x => (x, false)) = D := ⟨_, rfl⟩
          rw [hDL] at HM HTK
          have hDl : DL.length = k := by rw [← hDL]; simp; omega
          have c22 : wr.cell? ⟨w1.heap.size, 22, none⟩ = some (.slice A DL.length c) := HM.out.blk.rest 0
          rw [hDl] at c22
          have HDL := Lib.hid hDl
          have hltX := HM.out.blk.lt
          have hdw : db < wr.heap.size := by omega
          have hki : (k : Int) < m.data.length := by omega
          have HBW := Lib.hid hBw
          rw [hdA]
          clear hx hxx htk hBw hdA hDL hDl
          go_wp2_with (first | (refine app_val_lies rfl _ _ rfl w1.heap.size _ k DL rfl (by have := HM.out.data; rw [HDL.out] at this; exact this.alloc _) wr.heap.size 1 rfl x false _ (heap_alloc_new wr _) (by omega) (by simp; omega) ?a1))
          case a1 =>
            rintro g' c' w4 ho4 hgr4 hat4 hlt4
            have hMA := HM.out.alloc (.cells #[.int .i64 x, .bool false] 88)
            have hMd : wr.ownsRow w1.heap.size 88 2 (.slice A k c) k (valsC DL) := by have := HM.out.data; rw [HDL.out] at this; exact this
            have hs1 : (Value.slice A k c).ownBlock ≠ some w1.heap.size := by have := HM.out.s1; rw [HDL.out] at this; exact this
            have hblk : MBlk w4 w1.heap.size iv _ _ := ⟨(hgr4.block w1.heap.size (by simp; omega) (fun e => hs1 e.symm)).trans hMA.blk.blk, hMA.blk.ivl, hMA.blk.rl⟩
            have hgX : g' ≠ w1.heap.size := by
              rcases hat4 with e | e
              · exact fun e2 => hs1 (by rw [e, e2])
              · have e' : g' = wr.heap.size + 1 := by simpa using e
                omega
            have hB4 : Below w1.heap.size wr w4 := ((Below.refl _ _).alloc (by omega) _).grown hgr4 (by simp; omega) (fun q hq => (World.ownsRow.lt hMd q hq).1)
            have hg5 : w4.grownBy (w4.setCell ⟨w1.heap.size, 22, none⟩ (.slice (some ⟨g', 0, none⟩) (k + 1) c')) (some w1.heap.size) := gb_setCell (gb_refl _ _) _ _
            have hB5 : Below w1.heap.size wr (w4.setCell ⟨w1.heap.size, 22, none⟩ (.slice (some ⟨g', 0, none⟩) (k + 1) c')) := hB4.trans (gb_to_below hg5 (Nat.le_refl _) (by have := hB4.size; omega))
            have hl1 : (DL ++ [(x, false)]).length = k + 1 := by simp [HDL.out]
            have hM5 : MInv (w4.setCell ⟨w1.heap.size, 22, none⟩ (.slice (some ⟨g', 0, none⟩) (k + 1) c')) w1.heap.size w1.heap.size iv ⟨List.replicate 8 (0, false), DL ++ [(x, false)], L, pc0, [], 0, 0⟩ ⟨some ⟨g', 0, none⟩, c', iA, ic, none, 0⟩ := by
              have hst := hblk.setData (DL ++ [(x, false)]) (some ⟨g', 0, none⟩) c'
              rw [hl1] at hst
              refine ⟨hst, Nat.le_refl _, ?_, ⟨rfl, .inl ⟨rfl, rfl⟩⟩, HM.out.inp.below hB5, hic, ?_, (by intro e; cases e), .inr (by intro e; cases e), HM.out.rb, ?_, HLN.out, ?_, (by simp), HM.out.il⟩
              · simp only [hl1]
                exact own_gb ho4 hg5 (fun e => hgX (by injection e))
              · intro e
                exact hgX (by injection e)
              · intro u hu
                rw [List.mem_append] at hu
                rcases hu with hu | hu
                · exact HM.out.db u hu
                · rw [List.mem_singleton] at hu
                  rw [hu]
                  exact HXD.out
              · simp only [hl1]
                omega
            rw [← HTK.out] at hM5
            have HM5 := Lib.hid hM5
            have HB5 := Lib.hid (HB.out.trans (hB5.mono (by have := HB.out.size; omega)))
            have z22 : w4.cell? ⟨w1.heap.size, 22, none⟩ = some (.slice A DL.length c) := hblk.rest 0
            have zf : w4.frozen? ⟨w1.heap.size, 22, none⟩ = false := frozen_of_row _ _ _ _ _ hblk.blk
            have hk1 : k + 1 ≤ m.data.length := by omega
            clear hMA hMd hs1 hblk hgX hB4 hg5 hB5 hl1 hM5 ho4 hgr4 hat4
            go_wp2
            go_roundw
            case rel => exact ⟨k + 1, _, _, hk1, by go_num, HM5, HB5⟩
            case measure => simp [intOf]; omega
        · obtain rfl : k = m.data.length := by omega
          clear hlt
          have hM := HM.out
          rw [List.take_length] at hM
          have hst : (⟨List.replicate 8 (0, false), m.data.map (fun x => (x, false)), L, pc0, [], 0, 0⟩ : MSt) = startS m L := by
            unfold startS
            rw [HBI.out, Int.toNat_natCast, HPC.out]
          rw [hst] at hM
          obtain ⟨RS, hRS⟩ : ∃ RS, runS m L fuel = RS := ⟨_, rfl⟩
          have HRS := Lib.hid hRS
          have HM' := Lib.hid hM
          have hrun : (startS m L).en = 0 → runGo m (fuel - (startS m L).steps).toNat (startS m L) = RS := fun _ => by rw [← hRS]; show runGo m (fuel - 0).toNat _ = _; rw [Int.sub_zero]; rfl
          have HRN := Lib.hid (show NextR m fuel RS (startS m L) from ⟨hrun, fun h => absurd rfl h⟩)
          clear hM hst hRS HM hrun
          go_wp2_with fail
          go_loopg [] (gho fuel (startS m L)) (fun gk wr => ∃ (s : MSt) (d : MAd), Hid (MInv wr w1.heap.size w1.heap.size iv s d) ∧ Hid (Below w1.heap.size w1 wr) ∧ 0 ≤ s.steps ∧ s.steps ≤ fuel ∧ (s.told.length : Int) ≤ s.steps ∧ Hid (NextR m fuel RS s) ∧ gho fuel s ≤ gk)
          case atStart => exact ⟨startS m L, _, HM', HB, by simp [startS], f1, by simp [startS], HRN, Nat.le_refl _⟩
          case round =>
            obtain ⟨s, d, HM, HB, hs0, hsf, htl, HRN, hgk⟩ := hrel
            obtain ⟨q, hq⟩ : ∃ q, s.en = q := ⟨_, rfl⟩
            have x26 : wr.cell? ⟨w1.heap.size, 26, none⟩ = some (.int .i64 s.en) := HM.out.blk.rest 4
            have x24 : wr.cell? ⟨w1.heap.size, 24, none⟩ = some (.int .i64 s.pc) := HM.out.blk.rest 2
            have x27 : wr.cell? ⟨w1.heap.size, 27, none⟩ = some (.int .i64 s.steps) := HM.out.blk.rest 5
            have hltX := HM.out.blk.lt
            have hBw : Below w.heap.size w wr := HB1.out.trans (HB.out.mono (by omega))
            have HBW := Lib.hid hBw
            have HTr := Lib.hid (HT.out.below hBw)
            have xt0 : wr.cell? ⟨w.heap.size, 0, none⟩ = some (.slice v.tA m.text.length v.tc) := (HB.out.cell (p := ⟨w.heap.size, 0, none⟩) hlx).trans XC0.out
            have fz : ∀ j, wr.frozen? ⟨w1.heap.size, j, none⟩ = false := fun j => frozen_of_row _ _ _ _ _ HM.out.blk.blk
            have fz24 := fz 24
            have fz26 := fz 26
            have fz27 := fz 27
            have hbx : w.heap.size < wr.heap.size := by omega
            have HDEC := Lib.hid (fun (W : World) (hb : Below wr.heap.size wr W) => decode_any m.text v.tA m.text.length v.tc s.pc W (HTr.out.below hb) rfl (((HI.out.below (hBw.trans (hb.mono (by omega)))).text.bytes HO.out.tb).more (by have := hb.size; omega)) HO.out.tl HO.out.tc)
            rw [hq] at x26
            clear fz hBw
            by_cases hq0 : q = 0
            · subst hq0
              have HQ0 := Lib.hid hq
              clear hq
              obtain ⟨pc, hpc⟩ : ∃ p, s.pc = p := ⟨_, rfl⟩
              rw [hpc] at x24 HDEC
              obtain ⟨dr, hdr⟩ : ∃ r, decB m.text pc = r := ⟨_, rfl⟩
              rw [hdr] at HDEC
              obtain ⟨⟨ik, id, ia, ib, iN, il⟩, dn, de⟩ := dr
              have HPC1 := Lib.hid hpc
              have HDR := Lib.hid hdr
              clear hpc hdr
              have HDC := Lib.hid (fun (W : World) (hb : Below wr.heap.size wr W) => (HDEC.out W hb).mono (R' := fun e w' => e = .returned (.tuple #[.agg #[.int .i64 ik, .int .i64 id, .int .i64 ia, .int .i64 ib, .int .i64 iN, .bool il], .int .i64 dn, .int .i64 de]) ∧ Below W.heap.size W w' ∧ Below wr.heap.size wr w' ∧ w'.cell? ⟨w.heap.size, 0, none⟩ = some (.slice v.tA m.text.length v.tc) ∧ w'.cell? ⟨w1.heap.size, 24, none⟩ = some (.int .i64 pc)) (fun e w' h => by
                have hbb : Below wr.heap.size wr w' := hb.trans (h.2.mono hb.size)
                exact ⟨h.1, h.2, hbb, (hbb.cell (p := ⟨w.heap.size, 0, none⟩) hbx).trans xt0, (hbb.cell (p := ⟨w1.heap.size, 24, none⟩) hltX).trans x24⟩))
              have hn1 : ¬ wr.heap.size = w.heap.size := by omega
              have hn2 : ¬ wr.heap.size = w1.heap.size := by omega
              go_upto_region 17 with fail
              go_cut [12, 13, 14] (fun s12 s13 s14 wx => ∃ Y, s12 = .pointer (some ⟨Y, 0, none⟩) ∧ s13 = .int .i64 dn ∧ s14 = .int .i64 de ∧ wr.heap.size ≤ Y ∧ Y < wx.heap.size ∧ wx.heap[Y]? = some (.cells #[.int .i64 ik, .int .i64 id, .int .i64 ia, .int .i64 ib, .int .i64 iN, .bool il] 47 (0, 0)) ∧ Below wr.heap.size wr wx)
              case first =>
                go_region_held3 (fun w' => w'.cell? ⟨w.heap.size, 0, none⟩ = some (.slice v.tA m.text.length v.tc) ∧ w'.cell? ⟨w1.heap.size, 24, none⟩ = some (.int .i64 pc)) (go_keep) ((go_at_call 18; refine (HDC.out _ (by first | exact Below.refl _ _ | exact (Below.refl _ _).drew | exact (Below.refl _ _).alloc (Nat.le_refl _) _ | exact ((Below.refl _ _).alloc (Nat.le_refl _) _).drew | exact (Below.refl _ _).drew.alloc (Nat.le_refl _) _)).mono ?_; rintro e w3 ⟨rfl, hb3, hbb3, y0, y24⟩; try (have hY := (hb3.block wr.heap.size (by simp)).trans (heap_alloc_new _ _); have zc0 := cell_of_row _ _ 0 _ _ _ hY; have zc1 := cell_of_row _ _ 1 _ _ _ hY; have zc2 := cell_of_row _ _ 2 _ _ _ hY; have zc3 := cell_of_row _ _ 3 _ _ _ hY; have zc4 := cell_of_row _ _ 4 _ _ _ hY; have zc5 := cell_of_row _ _ 5 _ _ _ hY; have zcf : ∀ j, w3.frozen? ⟨wr.heap.size, j, none⟩ = false := fun j => frozen_of_row _ _ _ _ _ hY; have zcl : wr.heap.size < w3.heap.size := (Array.getElem?_eq_some_iff.1 hY).1; simp at zc0 zc1 zc2 zc3 zc4 zc5)))
                all_goals (go_wp2; go_meet)
                all_goals clear HDC HDEC HT HI HO HIN HL HV HCE
                · exact ⟨_, rfl, rfl, rfl, hbb3.size, (by simp), heap_alloc_new w3 _, hbb3.alloc hbb3.size _⟩
                · exact ⟨_, rfl, rfl, rfl, Nat.le_refl _, (by simpa [World.setCell] using zcl), (blk_set (blk_set (blk_set (blk_set (blk_set (blk_set hY 0 _) 1 _) 2 _) 3 _) 4 _) 5 _), hbb3.trans (gb_to_below (gb_setCell (gb_setCell (gb_setCell (gb_setCell (gb_setCell (gb_setCell (gb_refl w3 (some wr.heap.size)) _ _) _ _) _ _) _ _) _ _) _ _) (Nat.le_refl _) hbb3.size)⟩
              case rest =>
                obtain ⟨Y, rfl, rfl, rfl, hY1, hY2, hY3, hbx2⟩ := hcut
                have hM2 := HM.out.below hbx2
                have HMx := Lib.hid hM2
                have HBx := Lib.hid (HB.out.trans (hbx2.mono (by have := HB.out.size; omega)))
                have HTx := Lib.hid (HTr.out.below hbx2)
                have x26' : wc.cell? ⟨w1.heap.size, 26, none⟩ = some (.int .i64 0) := (hbx2.cell (p := ⟨w1.heap.size, 26, none⟩) hltX).trans x26
                have x24' : wc.cell? ⟨w1.heap.size, 24, none⟩ = some (.int .i64 pc) := (hbx2.cell (p := ⟨w1.heap.size, 24, none⟩) hltX).trans x24
                have x27' : wc.cell? ⟨w1.heap.size, 27, none⟩ = some (.int .i64 s.steps) := (hbx2.cell (p := ⟨w1.heap.size, 27, none⟩) hltX).trans x27
                have hltx : w1.heap.size < wc.heap.size := hM2.blk.lt
                have fz : ∀ j, wc.frozen? ⟨w1.heap.size, j, none⟩ = false := fun j => frozen_of_row _ _ _ _ _ hM2.blk.blk
                have fz24' := fz 24
                have fz26' := fz 26
                have fz27' := fz 27
                have y0 : wc.cell? ⟨Y, 0, none⟩ = some (.int .i64 ik) := cell_of_row _ _ 0 _ _ _ hY3
                have y1 : wc.cell? ⟨Y, 1, none⟩ = some (.int .i64 id) := cell_of_row _ _ 1 _ _ _ hY3
                have y2 : wc.cell? ⟨Y, 2, none⟩ = some (.int .i64 ia) := cell_of_row _ _ 2 _ _ _ hY3
                have y3 : wc.cell? ⟨Y, 3, none⟩ = some (.int .i64 ib) := cell_of_row _ _ 3 _ _ _ hY3
                have y4 : wc.cell? ⟨Y, 4, none⟩ = some (.int .i64 iN) := cell_of_row _ _ 4 _ _ _ hY3
                have y5 : wc.cell? ⟨Y, 5, none⟩ = some (.bool il) := cell_of_row _ _ 5 _ _ _ hY3
                have HY3 := Lib.hid hY3
                have hXY : ¬ w1.heap.size = Y := by omega
                clear hM2 hY3 hbx2 fz x26 x24 x27 xt0 fz24 fz26 fz27 hn1 hn2 HDC HDEC
                have hen0 := HQ0.out
                have hgo := HRN.out.1 hen0
                by_cases hA : s.steps = fuel
                · have hgo0 : { s with en := 3 } = RS := by
                    rw [hA, Int.sub_self] at hgo
                    simpa [runGo] using hgo
                  have HGO := Lib.hid hgo0
                  have hMA : MInv (wc.setCell ⟨w1.heap.size, 26, none⟩ (.int .i64 3)) w1.heap.size w1.heap.size iv { s with en := 3 } d := HMx.out.gb (gb_setCell (gb_refl _ _) _ _) (HMx.out.blk.setEn 3) HMx.out.rb rfl rfl rfl (Int.le_refl _)
                  have HMA := Lib.hid hMA
                  have HBA := Lib.hid (HBx.out.trans (gb_to_below (gb_setCell (gb_refl wc (some w1.heap.size)) 26 (.int .i64 3)) (Nat.le_refl _) (by omega)))
                  have hmea : gho fuel { s with en := 3 } < gho fuel s := by
                    unfold gho
                    rw [if_pos hen0]
                    simp
                  have HME := Lib.hid hmea
                  have hAA : (s.steps == fuel) = true := by simp [hA]
                  clear hgo hgo0 hMA hmea hen0
                  go_wp2
                  go_roundg (gho fuel { s with en := 3 })
                  case measure => have := HME.out; omega
                  case rel => exact ⟨{ s with en := 3 }, d, HMA, HBA, hs0, hsf, htl, Lib.hid (show NextR m fuel RS { s with en := 3 } from ⟨fun h => absurd (show (3 : Int) = 0 from h) (by decide), fun _ => HGO.out⟩), Nat.le_refl _⟩
                · have hAA : (s.steps == fuel) = false := by simpa using hA
                  obtain ⟨f, hf⟩ : ∃ f : Nat, (fuel - s.steps).toNat = f + 1 := ⟨(fuel - s.steps).toNat - 1, by omega⟩
                  rw [hf] at hgo
                  by_cases hE : de = 0
                  · subst hE
                    have hdr := HDR.out
                    have hgood := dec_good (by rw [hdr])
                    rw [hdr] at hgood
                    obtain ⟨p1, p2, hchk, hsz⟩ := hgood
                    have hkk := ins_chk_zero.1 hchk
                    obtain ⟨⟨n1, n2⟩, n24⟩ := ins_num hchk
                    obtain ⟨⟨kk1, kk2⟩, -, ⟨⟨d1, d2⟩, ⟨a1, a2⟩, ⟨b1, b2⟩⟩, -⟩ := hkk
                    obtain ⟨s1, s2⟩ := sizeK_bd hchk
                    simp only at hsz kk1 kk2 d1 d2 a1 a2 b1 b2 n1 n2 n24 s1 s2
                    rw [← hsz] at s1 s2
                    have htx := HK.out.1
                    have hdr' : decB m.text s.pc = (⟨ik, id, ia, ib, iN, il⟩, dn, 0) := by rw [HPC1.out]; exact hdr
                    have HDR2 := Lib.hid hdr'
                    have HAA := Lib.hid hAA
                    clear hsz hchk hdr hdr' HDR
                    by_cases hfl : flowsB ik = true
                    · have hfk := flowS_keep m.tables s ik ia ib iN (pc + dn)
                      have hk4 : (1 ≤ ik ∧ ik ≤ 3) ∨ (18 ≤ ik ∧ ik ≤ 24) := by simp [flowsB] at hfl; omega
                      have hiv2 : iv[2]? = some (.slice v.bA m.tables.length v.bc) := by rw [HIV.out]; rfl
                      have HFO := Lib.hid (fun (W : World) (hb : Below w.heap.size w W) (h : MBlk W w1.heap.size iv s d) => flow_any (B := w.heap.size) m.tables v.bA v.bc ik id ia ib iN (pc + dn) il W h hiv2 (by omega) (HI.out.tables.keep hb) hk4 ⟨a1, a2⟩ ⟨b1, b2⟩ ⟨n1, n2⟩ (by rw [HPC1.out]; omega) (fun h => (n24 h).1))
                      obtain ⟨sd, hsd⟩ : ∃ q, flowS m.tables s ik ia ib iN (pc + dn) = q := ⟨_, rfl⟩
                      rw [hsd] at HFO hfk
                      obtain ⟨s', z, x⟩ := sd
                      obtain ⟨e1, e2, e3, e4, e5, e6, e7⟩ := hfk
                      have hSS := stepS_flow (s' := s') (z := z) (x := x) HDR2.out hfl (by rw [HPC1.out]; exact hsd)
                      simp only at e1 e2 e3 e4 e5 e6 e7 hSS
                      have HSS := Lib.hid hSS
                      have HE := Lib.hid (And.intro e1 (And.intro e2 (And.intro e3 (And.intro e4 (And.intro e5 (And.intro e6 e7))))))
                      have HGO := Lib.hid hgo
                      have HF := Lib.hid hf
                      have HFL := Lib.hid hfl
                      have HNF := Lib.hid hA
                      have HEN := Lib.hid hen0
                      have hN : N41 (pc + dn) := ⟨by omega, by omega⟩
                      have HN := Lib.hid hN
                      have ew : IntKind.i64.wrap (pc + dn) = pc + dn := by rw [IntKind.wrap_i64]; omega
                      clear hSS e1 e2 e3 e4 e5 e6 e7 hsd hfl hgo hf hA hen0 n24 kk1 kk2 hk4 hiv2 hN
                      go_wp2_with fail
                      refine (flows_any _ _ _ _ _ _ _).mono ?_
                      rintro e w5 ⟨rfl, hb5⟩
                      rw [HFL.out]
                      have hM5 := HMx.out.below hb5
                      have HM5 := Lib.hid hM5
                      have HB5 := Lib.hid (HBx.out.trans (hb5.mono (by omega)))
                      have HBW5 := Lib.hid (HB1.out.trans (HB5.out.mono (by omega)))
                      have hY5b := (hb5.block Y hY2).trans HY3.out
                      have hl5 : w1.heap.size < w5.heap.size := hM5.blk.lt
                      have hY5 : Y < w5.heap.size := by have := hb5.size; omega
                      have v0 : w5.cell? ⟨Y, 0, none⟩ = some (.int .i64 ik) := cell_of_row _ _ 0 _ _ _ hY5b
                      have v1 : w5.cell? ⟨Y, 1, none⟩ = some (.int .i64 id) := cell_of_row _ _ 1 _ _ _ hY5b
                      have v2 : w5.cell? ⟨Y, 2, none⟩ = some (.int .i64 ia) := cell_of_row _ _ 2 _ _ _ hY5b
                      have v3 : w5.cell? ⟨Y, 3, none⟩ = some (.int .i64 ib) := cell_of_row _ _ 3 _ _ _ hY5b
                      have v4 : w5.cell? ⟨Y, 4, none⟩ = some (.int .i64 iN) := cell_of_row _ _ 4 _ _ _ hY5b
                      have v5 : w5.cell? ⟨Y, 5, none⟩ = some (.bool il) := cell_of_row _ _ 5 _ _ _ hY5b
                      have t24 : w5.cell? ⟨w1.heap.size, 24, none⟩ = some (.int .i64 pc) := (hb5.cell (p := ⟨w1.heap.size, 24, none⟩) hltx).trans x24'
                      have HFC := Lib.hid (fun (W : World) (hb : Below w5.heap.size w5 W) => (HFO.out W (HBW5.out.trans (hb.mono HBW5.out.size)) (HM5.out.blk.below hb)).mono (R' := fun e w' => e = .returned (.tuple #[.int .i64 z, .int .i64 x]) ∧ w5.grownBy w' (some w1.heap.size) ∧ MInv w' w1.heap.size w1.heap.size iv s' d ∧ w1.heap.size < w'.heap.size ∧
                          (w'.cell? ⟨Y, 0, none⟩ = some (.int .i64 ik) ∧ w'.cell? ⟨Y, 1, none⟩ = some (.int .i64 id) ∧ w'.cell? ⟨Y, 2, none⟩ = some (.int .i64 ia) ∧ w'.cell? ⟨Y, 3, none⟩ = some (.int .i64 ib) ∧ w'.cell? ⟨Y, 4, none⟩ = some (.int .i64 iN) ∧ w'.cell? ⟨Y, 5, none⟩ = some (.bool il)) ∧
                          w'.cell? ⟨w1.heap.size, 24, none⟩ = some (.int .i64 pc) ∧ w'.cell? ⟨w1.heap.size, 26, none⟩ = some (.int .i64 0) ∧ w'.cell? ⟨w1.heap.size, 27, none⟩ = some (.int .i64 s.steps) ∧ w'.frozen? ⟨w1.heap.size, 24, none⟩ = false ∧ w'.frozen? ⟨w1.heap.size, 26, none⟩ = false ∧ w'.frozen? ⟨w1.heap.size, 27, none⟩ = false ∧ (∀ u : Int, (w'.setCell ⟨w1.heap.size, 26, none⟩ (.int .i64 u)).cell? ⟨w1.heap.size, 24, none⟩ = some (.int .i64 pc))) (fun e w' h => by
                        obtain ⟨h1, h2, h3⟩ := h
                        have hg := gb_trans (gb_below (row := some w1.heap.size) hb) h2
                        have hmv : MInv w' w1.heap.size w1.heap.size iv s' d := HM5.out.gb hg h3 (HE.out.2.2.2.2.2.2 HM5.out.rb HN.out) HE.out.2.2.2.2.1 HE.out.2.2.2.1 HE.out.2.2.2.2.2.1 (by have := HE.out.2.2.1; omega)
                        have hyb := (hg.block Y hY5 (fun e => hXY (by injection e with e'; exact e'.symm))).trans hY5b
                        have q24 := h3.rest 2
                        have q26 := h3.rest 4
                        have q27 := h3.rest 5
                        refine ⟨h1, hg, hmv, h3.lt, ⟨cell_of_row _ _ 0 _ _ _ hyb, cell_of_row _ _ 1 _ _ _ hyb, cell_of_row _ _ 2 _ _ _ hyb, cell_of_row _ _ 3 _ _ _ hyb, cell_of_row _ _ 4 _ _ _ hyb, cell_of_row _ _ 5 _ _ _ hyb⟩, q24.trans ?_, q26.trans ?_, q27.trans ?_, frozen_of_row _ _ _ _ _ h3.blk, frozen_of_row _ _ _ _ _ h3.blk, frozen_of_row _ _ _ _ _ h3.blk, fun u => ((h3.setEn u).rest 2).trans ?_⟩
                        · have := HE.out.1
                          have h2 := HPC1.out
                          simp [this, h2]
                        · have := HE.out.2.1
                          have h2 := HEN.out
                          simp [this, h2]
                        · have := HE.out.2.2.1
                          simp [this]
                        · have := HE.out.1
                          have h2 := HPC1.out
                          simp [this, h2]))
                      clear hM5 hb5 y0 y1 y2 y3 y4 y5 x26' x24' x27' fz24' fz26' fz27' hY5b
                      have fin : ∀ (w6 : World), w5.grownBy w6 (some w1.heap.size) → MInv w6 w1.heap.size w1.heap.size iv s' d → z = 0 →
                          MInv (((w6.setCell ⟨w1.heap.size, 26, none⟩ (.int .i64 0)).setCell ⟨w1.heap.size, 24, none⟩ (.int .i64 x)).setCell ⟨w1.heap.size, 27, none⟩ (.int .i64 (s.steps + 1))) w1.heap.size w1.heap.size iv { s' with en := 0, pc := x, steps := s.steps + 1 } d ∧ Below w1.heap.size w1 (((w6.setCell ⟨w1.heap.size, 26, none⟩ (.int .i64 0)).setCell ⟨w1.heap.size, 24, none⟩ (.int .i64 x)).setCell ⟨w1.heap.size, 27, none⟩ (.int .i64 (s.steps + 1))) := fun w6 hg hM _ =>
                        ⟨hM.gb (gb_setCell (gb_setCell (gb_setCell (gb_refl _ _) _ _) _ _) _ _) (((hM.blk.setEn 0).setPc x).setSteps (s.steps + 1)) hM.rb rfl rfl rfl (by have := HE.out.2.2.1; simp only; omega),
                         HB5.out.trans (gb_to_below (gb_setCell (gb_setCell (gb_setCell hg 26 (.int .i64 0)) 24 (.int .i64 x)) 27 (.int .i64 (s.steps + 1))) (Nat.le_refl _) (by omega))⟩
                      have fin2 : ∀ (w6 : World), w5.grownBy w6 (some w1.heap.size) → MInv w6 w1.heap.size w1.heap.size iv s' d →
                          MInv (w6.setCell ⟨w1.heap.size, 26, none⟩ (.int .i64 z)) w1.heap.size w1.heap.size iv { s' with en := z } d ∧ Below w1.heap.size w1 (w6.setCell ⟨w1.heap.size, 26, none⟩ (.int .i64 z)) := fun w6 hg hM =>
                        ⟨hM.gb (gb_setCell (gb_refl _ _) _ _) (hM.blk.setEn z) hM.rb rfl rfl rfl (Int.le_refl _), HB5.out.trans (gb_to_below (gb_setCell hg 26 (.int .i64 z)) (Nat.le_refl _) (by omega))⟩
                      have FIN := Lib.hid fin
                      have FIN2 := Lib.hid fin2
                      clear fin fin2
                      go_upto_region 28 with fail
                      by_cases hz : z = 0
                      · subst hz
                        have HNR := Lib.hid (next_rel HGO.out (HSS.out.trans (if_pos rfl)) (fuel := fuel) (fun _ => by have := HF.out; simp only; omega))
                        have HME := Lib.hid (gho_step (fuel := fuel) (s := s) (s' := { s' with en := 0, pc := x, steps := s.steps + 1 }) HEN.out rfl rfl (by have := HNF.out; omega))
                        have htl' : (s'.told.length : Int) ≤ s.steps + 1 := by rw [HE.out.2.2.2.1]; omega
                        have hsf' : s.steps + 1 ≤ fuel := by have := HNF.out; omega
                        go_region_held3 (fun w' => w'.cell? ⟨Y, 0, none⟩ = some (.int .i64 ik) ∧ w'.cell? ⟨Y, 1, none⟩ = some (.int .i64 id) ∧ w'.cell? ⟨Y, 2, none⟩ = some (.int .i64 ia) ∧ w'.cell? ⟨Y, 3, none⟩ = some (.int .i64 ib) ∧ w'.cell? ⟨Y, 4, none⟩ = some (.int .i64 iN) ∧ w'.cell? ⟨Y, 5, none⟩ = some (.bool il) ∧ w'.cell? ⟨w1.heap.size, 24, none⟩ = some (.int .i64 pc)) (go_keep) ((go_at_call 38; refine (HFC.out _ (by first | exact Below.refl _ _ | exact (Below.refl _ _).drew)).mono ?_; rintro e w6 ⟨rfl, hg6, hM6, hl6, ⟨r0, r1, r2, r3, r4, r5⟩, u24, u26, u27, g24, g26, g27, gk24⟩))
                        all_goals
                          have HFN := Lib.hid (FIN.out w6 hg6 hM6 (by first | rfl | trivial))
                          clear hg6 hM6
                          go_wp2
                          go_roundg (gho fuel { s' with en := 0, pc := x, steps := s.steps + 1 })
                          case measure => have := HME.out; omega
                          case rel => exact ⟨{ s' with en := 0, pc := x, steps := s.steps + 1 }, d, Lib.hid HFN.out.1, Lib.hid HFN.out.2, by simp only; omega, hsf', htl', HNR, Nat.le_refl _⟩
                      · have hz' : (z == 0) = false := by simpa using hz
                        have HNR := Lib.hid (next_rel HGO.out (HSS.out.trans (if_neg hz)) (fuel := fuel) (fun h => absurd h hz))
                        have HME := Lib.hid (gho_end (fuel := fuel) (s := s) (s' := { s' with en := z }) HEN.out hz HE.out.2.2.1)
                        have htl' : (s'.told.length : Int) ≤ s'.steps := by rw [HE.out.2.2.2.1, HE.out.2.2.1]; omega
                        have hsf' : s'.steps ≤ fuel := by rw [HE.out.2.2.1]; exact hsf
                        have hs0' : 0 ≤ s'.steps := by rw [HE.out.2.2.1]; exact hs0
                        clear hz
                        go_region_held3 (fun w' => w'.cell? ⟨Y, 0, none⟩ = some (.int .i64 ik) ∧ w'.cell? ⟨Y, 1, none⟩ = some (.int .i64 id) ∧ w'.cell? ⟨Y, 2, none⟩ = some (.int .i64 ia) ∧ w'.cell? ⟨Y, 3, none⟩ = some (.int .i64 ib) ∧ w'.cell? ⟨Y, 4, none⟩ = some (.int .i64 iN) ∧ w'.cell? ⟨Y, 5, none⟩ = some (.bool il) ∧ w'.cell? ⟨w1.heap.size, 24, none⟩ = some (.int .i64 pc)) (go_keep) ((go_at_call 38; refine (HFC.out _ (by first | exact Below.refl _ _ | exact (Below.refl _ _).drew)).mono ?_; rintro e w6 ⟨rfl, hg6, hM6, hl6, ⟨r0, r1, r2, r3, r4, r5⟩, u24, u26, u27, g24, g26, g27, gk24⟩))
                        all_goals
                          have HFN := Lib.hid (FIN2.out w6 hg6 hM6)
                          clear hg6 hM6
                          go_wp2
                          go_roundg (gho fuel { s' with en := z })
                          case measure => have := HME.out; omega
                          case rel => exact ⟨{ s' with en := z }, d, Lib.hid HFN.out.1, Lib.hid HFN.out.2, hs0', hsf', htl', HNR, Nat.le_refl _⟩
                    · rw [Bool.not_eq_true] at hfl
                      have hdk := doS_keep s ik id ia ib iN
                      have hk4 : 4 ≤ ik ∧ ik ≤ 17 := by simp [flowsB] at hfl; omega
                      have HDO := Lib.hid (fun (W : World) (h : MInv W w1.heap.size w1.heap.size iv s d) => do_any ik id ia ib iN il W h hk4 ⟨d1, d2⟩ ⟨a1, a2⟩ ⟨b1, b2⟩ ⟨n1, n2⟩ htl (by omega))
                      obtain ⟨sd, hsd⟩ : ∃ q, doS s ik id ia ib iN = q := ⟨_, rfl⟩
                      rw [hsd] at HDO hdk
                      obtain ⟨s', z⟩ := sd
                      obtain ⟨e1, e2, e3, e4, e5⟩ := hdk
                      have hSS := stepS_do HDR2.out hfl hsd
                      rw [HPC1.out] at hSS
                      simp only at e1 e2 e3 e4 e5 hSS
                      have HSS := Lib.hid hSS
                      have HE := Lib.hid (And.intro e1 (And.intro e2 (And.intro e3 (And.intro e4 e5))))
                      have HGO := Lib.hid hgo
                      have HF := Lib.hid hf
                      have HFL := Lib.hid hfl
                      have HNF := Lib.hid hA
                      have HEN := Lib.hid hen0
                      clear hSS e1 e2 e3 e4 e5 hsd hfl hgo hf hA hen0 n24 kk1 kk2
                      go_wp2_with fail
                      refine (flows_any _ _ _ _ _ _ _).mono ?_
                      rintro e w5 ⟨rfl, hb5⟩
                      rw [HFL.out]
                      have hM5 := HMx.out.below hb5
                      have HM5 := Lib.hid hM5
                      have HB5 := Lib.hid (HBx.out.trans (hb5.mono (by omega)))
                      have v0 : w5.cell? ⟨Y, 0, none⟩ = some (.int .i64 ik) := (hb5.cell (p := ⟨Y, 0, none⟩) hY2).trans y0
                      have v1 : w5.cell? ⟨Y, 1, none⟩ = some (.int .i64 id) := (hb5.cell (p := ⟨Y, 1, none⟩) hY2).trans y1
                      have v2 : w5.cell? ⟨Y, 2, none⟩ = some (.int .i64 ia) := (hb5.cell (p := ⟨Y, 2, none⟩) hY2).trans y2
                      have v3 : w5.cell? ⟨Y, 3, none⟩ = some (.int .i64 ib) := (hb5.cell (p := ⟨Y, 3, none⟩) hY2).trans y3
                      have v4 : w5.cell? ⟨Y, 4, none⟩ = some (.int .i64 iN) := (hb5.cell (p := ⟨Y, 4, none⟩) hY2).trans y4
                      have v5 : w5.cell? ⟨Y, 5, none⟩ = some (.bool il) := (hb5.cell (p := ⟨Y, 5, none⟩) hY2).trans y5
                      have hl5 : w1.heap.size < w5.heap.size := hM5.blk.lt
                      have hY5 : Y < w5.heap.size := by have := hb5.size; omega
                      clear hM5 hb5 y0 y1 y2 y3 y4 y5 x26' x24' x27' fz24' fz26' fz27'
                      go_wp2_with fail
                      refine (HDO.out _ HM5.out).mono ?_
                      rintro e w6 ⟨rfl, hb6, d', hM6⟩
                      have HM6 := Lib.hid hM6
                      have HB6 := Lib.hid (HB5.out.trans (hb6.mono (by omega)))
                      have u26 : w6.cell? ⟨w1.heap.size, 26, none⟩ = some (.int .i64 s'.en) := hM6.blk.rest 4
                      have u24 : w6.cell? ⟨w1.heap.size, 24, none⟩ = some (.int .i64 s'.pc) := hM6.blk.rest 2
                      have u27 : w6.cell? ⟨w1.heap.size, 27, none⟩ = some (.int .i64 s'.steps) := hM6.blk.rest 5
                      have hl6 : w1.heap.size < w6.heap.size := hM6.blk.lt
                      have fz : ∀ j, w6.frozen? ⟨w1.heap.size, j, none⟩ = false := fun j => frozen_of_row _ _ _ _ _ hM6.blk.blk
                      have g24 := fz 24
                      have g26 := fz 26
                      have g27 := fz 27
                      rw [HE.out.1, HPC1.out] at u24
                      rw [HE.out.2.1, HEN.out] at u26
                      rw [HE.out.2.2.1] at u27
                      clear hM6 hb6 fz v0 v1 v2 v3 v4 v5
                      by_cases hz : z = 0
                      · subst hz
                        have e1 : IntKind.i64.wrap (pc + dn) = pc + dn := by rw [IntKind.wrap_i64]; omega
                        have hM7 : MInv (((w6.setCell ⟨w1.heap.size, 26, none⟩ (.int .i64 0)).setCell ⟨w1.heap.size, 24, none⟩ (.int .i64 (pc + dn))).setCell ⟨w1.heap.size, 27, none⟩ (.int .i64 (s.steps + 1))) w1.heap.size w1.heap.size iv { s' with en := 0, pc := pc + dn, steps := s.steps + 1 } d' :=
                          HM6.out.gb (gb_setCell (gb_setCell (gb_setCell (gb_refl _ _) _ _) _ _) _ _) (((HM6.out.blk.setEn 0).setPc (pc + dn)).setSteps (s.steps + 1)) HM6.out.rb rfl rfl rfl (by have := HE.out.2.2.1; simp only; omega)
                        have HM7 := Lib.hid hM7
                        have HB7 := Lib.hid (HB6.out.trans (gb_to_below (gb_setCell (gb_setCell (gb_setCell (gb_refl w6 (some w1.heap.size)) 26 (.int .i64 0)) 24 (.int .i64 (pc + dn))) 27 (.int .i64 (s.steps + 1))) (Nat.le_refl _) (by omega)))
                        have HNR := Lib.hid (next_rel HGO.out (HSS.out.trans (if_pos rfl)) (fuel := fuel) (fun _ => by have := HF.out; simp only; omega))
                        have HME := Lib.hid (gho_step (fuel := fuel) (s := s) (s' := { s' with en := 0, pc := pc + dn, steps := s.steps + 1 }) HEN.out rfl rfl (by have := HNF.out; omega))
                        have htl' : (s'.told.length : Int) ≤ s.steps + 1 := by have := HE.out.2.2.2.1; omega
                        have hsf' : s.steps + 1 ≤ fuel := by have := HNF.out; omega
                        clear hM7
                        go_wp2
                        go_roundg (gho fuel { s' with en := 0, pc := pc + dn, steps := s.steps + 1 })
                        case measure => have := HME.out; omega
                        case rel => exact ⟨{ s' with en := 0, pc := pc + dn, steps := s.steps + 1 }, d', HM7, HB7, by simp only; omega, hsf', htl', HNR, Nat.le_refl _⟩
                      · have hz' : (z == 0) = false := by simpa using hz
                        have hss := HE.out.2.2.2.2 hz
                        have hM7 : MInv (w6.setCell ⟨w1.heap.size, 26, none⟩ (.int .i64 z)) w1.heap.size w1.heap.size iv { s' with en := z } d' := HM6.out.gb (gb_setCell (gb_refl _ _) _ _) (HM6.out.blk.setEn z) HM6.out.rb rfl rfl rfl (Int.le_refl _)
                        have HM7 := Lib.hid hM7
                        have HB7 := Lib.hid (HB6.out.trans (gb_to_below (gb_setCell (gb_refl w6 (some w1.heap.size)) 26 (.int .i64 z)) (Nat.le_refl _) (by omega)))
                        have HZ := Lib.hid hz
                        have HNR := Lib.hid (next_rel HGO.out (HSS.out.trans (if_neg hz)) (fuel := fuel) (fun h => absurd h hz))
                        have HME := Lib.hid (gho_end (fuel := fuel) (s := s) (s' := { s' with en := z }) HEN.out hz (by simp only; rw [hss]))
                        have htl' : (s'.told.length : Int) ≤ s'.steps := by rw [hss]; exact htl
                        have hsf' : s'.steps ≤ fuel := by rw [hss]; exact hsf
                        have hs0' : 0 ≤ s'.steps := by rw [hss]; exact hs0
                        clear hM7 hss hz
                        go_wp2
                        go_roundg (gho fuel { s' with en := z })
                        case measure => have := HME.out; omega
                        case rel => exact ⟨{ s' with en := z }, d', HM7, HB7, hs0', hsf', htl', HNR, Nat.le_refl _⟩
                  · have hE' : (de != 0) = true := by simpa using hE
                    have hSS : stepS m s = { s with en := 2 } := by
                      unfold stepS
                      rw [HPC1.out, HDR.out]
                      exact if_pos hE
                    have HNR := Lib.hid (next_rel hgo hSS (fuel := fuel) (fun h => by cases h))
                    have hMA : MInv (wc.setCell ⟨w1.heap.size, 26, none⟩ (.int .i64 2)) w1.heap.size w1.heap.size iv { s with en := 2 } d := HMx.out.gb (gb_setCell (gb_refl _ _) _ _) (HMx.out.blk.setEn 2) HMx.out.rb rfl rfl rfl (Int.le_refl _)
                    have HMA := Lib.hid hMA
                    have HBA := Lib.hid (HBx.out.trans (gb_to_below (gb_setCell (gb_refl wc (some w1.heap.size)) 26 (.int .i64 2)) (Nat.le_refl _) (by omega)))
                    have HME := Lib.hid (gho_end (fuel := fuel) (s := s) (s' := { s with en := 2 }) hen0 (by simp) rfl)
                    clear hgo hSS hMA hen0 hf hE
                    go_wp2
                    go_roundg (gho fuel { s with en := 2 })
                    case measure => have := HME.out; omega
                    case rel => exact ⟨{ s with en := 2 }, d, HMA, HBA, hs0, hsf, htl, HNR, Nat.le_refl _⟩
            · have hq0' : (q == 0) = false := by simpa using hq0
              have hRS := HRN.out.2 (by rw [hq]; exact hq0)
              have HRS1 := Lib.hid hRS
              have hrb := (HB.out.block _ hlr).trans HR1.out
              have x25 : wr.cell? ⟨w1.heap.size, 25, none⟩ = some (.slice d.tA s.told.length d.tc) := HM.out.blk.rest 3
              have x28 : wr.cell? ⟨w1.heap.size, 28, none⟩ = some (.int .i64 0) := HM.out.blk.rest 6
              have fz28 : wr.frozen? ⟨w1.heap.size, 28, none⟩ = false := frozen_of_row _ _ _ _ _ HM.out.blk.blk
              have rc0 : wr.cell? ⟨w.heap.size + 1, 0, none⟩ = some (.slice none 0 0) := cell_of_row _ _ 0 _ _ _ hrb
              have rc1 : wr.cell? ⟨w.heap.size + 1, 1, none⟩ = some (.int .i64 0) := cell_of_row _ _ 1 _ _ _ hrb
              have rc2 : wr.cell? ⟨w.heap.size + 1, 2, none⟩ = some (.int .i64 0) := cell_of_row _ _ 2 _ _ _ hrb
              have rc3 : wr.cell? ⟨w.heap.size + 1, 3, none⟩ = some (.int .i64 0) := cell_of_row _ _ 3 _ _ _ hrb
              have fr0 : wr.frozen? ⟨w.heap.size + 1, 0, none⟩ = false := frozen_of_row _ _ _ _ _ hrb
              have fr1 : wr.frozen? ⟨w.heap.size + 1, 1, none⟩ = false := frozen_of_row _ _ _ _ _ hrb
              have fr2 : wr.frozen? ⟨w.heap.size + 1, 2, none⟩ = false := frozen_of_row _ _ _ _ _ hrb
              have fr3 : wr.frozen? ⟨w.heap.size + 1, 3, none⟩ = false := frozen_of_row _ _ _ _ _ hrb
              have hne1 : ¬ w1.heap.size = w.heap.size + 1 := by omega
              have hne2 : ¬ w.heap.size + 1 = w1.heap.size := by omega
              have hlrr : w.heap.size + 1 < wr.heap.size := by omega
              have hfin : ∀ (a0 a1 a2 a3 a4 : Value), RunPost w m L fuel (.returned (.tuple #[.agg #[.slice d.tA s.told.length d.tc, .int .i64 q, .int .i64 s.steps, .int .i64 s.pc], .int .i64 0])) (((((wr.setCell ⟨w1.heap.size, 28, none⟩ a0).setCell ⟨w.heap.size + 1, 0, none⟩ a1).setCell ⟨w.heap.size + 1, 1, none⟩ a2).setCell ⟨w.heap.size + 1, 2, none⟩ a3).setCell ⟨w.heap.size + 1, 3, none⟩ a4) := by
                intro a0 a1 a2 a3 a4
                have g0 : wr.grownBy (wr.setCell ⟨w1.heap.size, 28, none⟩ a0) (some w1.heap.size) := gb_setCell (gb_refl _ _) _ _
                have g1 := gb_setCell (gb_setCell (gb_setCell (gb_setCell (gb_refl (wr.setCell ⟨w1.heap.size, 28, none⟩ a0) (some (w.heap.size + 1))) 0 a1) 1 a2) 2 a3) 3 a4
                have b0 : Below w.heap.size wr (wr.setCell ⟨w1.heap.size, 28, none⟩ a0) := gb_to_below g0 (by omega) (by omega)
                have b1 := gb_to_below g1 (B := w.heap.size) (by omega) (by have := b0.size; omega)
                refine ⟨(HBW.out.trans b0).trans b1, fun h => absurd HR0.out h, fun _ => ?_⟩
                have hrr : runS m L fuel = s := HRS.out.trans HRS1.out.symm
                rw [hrr]
                refine ⟨d.tA, d.tc, by rw [hq]; rfl, ?_⟩
                have o0 := own_gb HM.out.told g0 HM.out.s2
                have o1 := own_gb o0 g1 (fun e => by have := (World.ownsRow.lt o0 _ e).1; omega)
                exact own_more o1 (by omega)
              have HFIN := Lib.hid hfin
              clear hfin hrb hRS
              go_wp2
              refine bodyPost_ret (v := .tuple #[.agg #[.slice d.tA s.told.length d.tc, .int .i64 q, .int .i64 s.steps, .int .i64 s.pc], .int .i64 0]) (by simp [results, Tryd.results15, go_sem, *]) rfl (HFIN.out _ _ _ _ _)
end Go.Proofs.YtlekjnnofhjgjaaDoor
