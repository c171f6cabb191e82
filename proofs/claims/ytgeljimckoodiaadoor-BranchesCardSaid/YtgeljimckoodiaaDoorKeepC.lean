/- The keep's out and li; slices.Clone at instructions. -/
import Derived.Test.YtgeljimckoodiaaDoorStepJ
import Derived.Test.YtgeljimckoodiaaDoorApp
import Derived.Lib.LazyBuf
namespace Go.Proofs.YtgeljimckoodiaaDoor
open Go.RowKit
theorem out_any (a : Int) (w : World) : Calls Tryd.prog 16 #[.int .i64 a] w fun e w' => e = .returned (.agg #[.int .i64 17, .int .i64 0, .int .i64 a, .int .i64 0, .int .i64 0, .bool false]) ∧ Below w.heap.size w w' := by
  go_enter Tryd.func16, Tryd.ntmps16
  go_wp2
  refine bodyPost_ret (results_cell_row rfl _ _ w.heap.size 27 _ (0, 0) _ rfl (heap_alloc_new w _) Tryd.underlying27 rfl (by kernel_rfl)) rfl ⟨rfl, (Below.refl _ _).alloc (Nat.le_refl _) _⟩
theorem li_any (d n : Int) (w : World) : Calls Tryd.prog 18 #[.int .i64 d, .int .i64 n] w fun e w' => e = .returned (.agg #[.int .i64 5, .int .i64 d, .int .i64 0, .int .i64 0, .int .i64 n, .bool false]) ∧ Below w.heap.size w w' := by
  go_enter Tryd.func18, Tryd.ntmps18
  go_wp2
  refine bodyPost_ret (results_cell_row rfl _ _ w.heap.size 27 _ (0, 0) _ rfl (heap_alloc_new w _) Tryd.underlying27 rfl (by kernel_rfl)) rfl ⟨rfl, (Below.refl _ _).alloc (Nat.le_refl _) _⟩
/-- instructions in a row -/
def insC (i : Ins) : List Value := [.int .i64 i.k, .int .i64 i.d, .int .i64 i.a, .int .i64 i.b, .int .i64 i.n, .bool i.l]
def insR (L : List Ins) : List Value := L.flatMap insC
theorem insR_len (L : List Ins) : (insR L).length = L.length * 6 := flat_len insC 6 (fun _ => rfl) L
theorem insR_one (L : List Ins) : ∀ u ∈ insR L, u.oneCell' = true := by
  intro u hu
  simp only [insR, List.mem_flatMap] at hu
  obtain ⟨i, _, hi⟩ := hu
  simp only [insC, List.mem_cons, List.not_mem_nil, or_false] at hi
  rcases hi with h | h | h | h | h | h <;> (rw [h]; rfl)
theorem addr_addO (b o j : Nat) : ((⟨b, o, none⟩ : Addr).add j) = ⟨b, o + j, none⟩ := by unfold Addr.add; split <;> simp_all
theorem app_insL_lies {w : World} {ops : Array Oper} {rest : List Oper} {o : Oper} {a : Act} {Q : Exit → Act → World → Prop} (hgd : o.guard = none) (s x : Operand)
    (ho : o.op = .call { callee := .builtin .append, args := #[s, x], argTypes := #[57, 57] }) (base : Nat) (v : Value) (n : Nat) (L0 L : List Ins) (hs : a.eval s = v) (hown : w.ownsRow base 27 6 v n (insR L0))
    (g og m c : Nat) (hx : a.eval x = .slice (some ⟨g, og, none⟩) m c) (hm : L.length = m) (hm0 : 0 < m) (hc : ∀ j u, (insR L)[j]? = some u → w.cell? ⟨g, og + j, none⟩ = some u) (hn : n + m ≤ 1000000000000) (hbase : base ≤ w.heap.size)
    (h : ∀ g' cap' w', w'.ownsRow base 27 6 (.slice (some ⟨g', 0, none⟩) (n + m) cap') (n + m) (insR (L0 ++ L)) → w.grownBy w' v.ownBlock → (v.ownBlock = some g' ∨ g' = w.heap.size) → g' < w'.heap.size → wpList Tryd.prog ops Q rest (a.put o.dst (.slice (some ⟨g', 0, none⟩) (n + m) cap')) w') : wpList Tryd.prog ops Q (o :: rest) a w := by
  obtain ⟨i0, hi, hz0, hz1, hz2⟩ := info_parts infoI
  refine wpList_append_lies w hgd s x 57 ho base 27 i0 _ 6 48 Tryd.underlying57 hi hz0 hz1 hz2 rfl (by decide) v _ _ hs hown ⟨g, og, none⟩ m c (insR L) hx (by rw [insR_len, hm]) ?_ (insR_one L) hm0 (by unfold maxLen; omega) (by omega) hbase _ rfl (fun g' cap' w' h1 => h g' cap' w' ?_)
  · intro j u hu
    rw [addr_addO]
    exact hc j u hu
  · have e : insR (L0 ++ L) = insR L0 ++ insR L := by simp [insR]
    rw [e]
    exact h1
set_option maxRecDepth 100000 in
theorem clone_any (L : List Ins) (g og c : Nat) (w : World) (hL : 0 < L.length) (hm : L.length ≤ 1000000) (_hcap : L.length ≤ c) (hg : g < w.heap.size) (hc : ∀ j u, (insR L)[j]? = some u → w.cell? ⟨g, og + j, none⟩ = some u) :
    Calls Tryd.prog 28 #[.slice (some ⟨g, og, none⟩) L.length c] w fun e w' => ∃ g' c', e = .returned (.slice (some ⟨g', 0, none⟩) L.length c') ∧ Below w.heap.size w w' ∧ w'.ownsRow w.heap.size 27 6 (.slice (some ⟨g', 0, none⟩) L.length c') L.length (insR L) := by
  have HC := Lib.hid hc
  obtain ⟨n, hn⟩ : ∃ n, L.length = n := ⟨_, rfl⟩
  rw [hn] at hL hm ⊢
  have HN := Lib.hid hn
  clear hc hn
  have hu : (binOp .eql 57 (.slice (some ⟨g, og, none⟩) n c) (.slice none 0 0)).run Tryd.prog w = .ok (.bool false) w := run_eql_slice_nil w _ _ _ n c Tryd.underlying57
  go_enter Tryd.func28, Tryd.ntmps28
  go_wp2_with (first | (refine app_insL_lies rfl _ _ rfl w.heap.size _ 0 [] L rfl ?o1 g og n c rfl HN.out hL ?c1 (by omega) (by simp) ?a1))
  case o1 => exact ⟨rfl, .inr ⟨w.heap.size, 0, #[], rfl, Nat.le_refl _, heap_alloc_new w _, Nat.le_refl _, by decide, rfl, rfl⟩⟩
  case c1 => exact fun j u hj => (((Below.refl w.heap.size w).alloc (Nat.le_refl _) _).cell (p := ⟨g, og + j, none⟩) hg).trans (HC.out j u hj)
  case a1 =>
    intro g' c' w' ho hgr hat hlt
    have hb0 : Below w.heap.size w (w.alloc (.cells #[] 27)) := (Below.refl _ _).alloc (Nat.le_refl _) _
    have hB : Below w.heap.size w w' := hb0.grown hgr (by simp) (fun q hq => by have e : some w.heap.size = some q := hq; injection e with e; omega)
    have HO := Lib.hid ho
    have HB := Lib.hid hB
    have hnm : 0 + n = n := by omega
    clear ho hgr hat hB hb0
    go_wp2
    go_ret
    exact ⟨g', c', rfl, HB.out, HO.out⟩
end Go.Proofs.YtgeljimckoodiaaDoor
