/- Clone, Reverse and Equal of edges; a tally's sums. -/
import Derived.Test.YtcdlgjhdbmmomaaGreatDoorMpT

import Derived.Shelf.SlicesQ.Reverse
import Derived.Lib.SliceRun
import Derived.Deep.DeepCutAuto
import Derived.IntWalk
import Derived.WalkLawsBesides
namespace Go.Proofs.YtcdlgjhdbmmomaaGreatDoor
open Go.RowKit Go.Deep
theorem app_liesO {w : World} {ops : Array Oper} {rest : List Oper} {o : Oper} {a : Act} {Q : Exit → Act → World → Prop} (hgd : o.guard = none) (s x : Operand) (ST ET sz by_ : Nat) (z : Value)
    (hu : Tryz.prog.underlying ST = some (.slice ET)) (hinfo : (Tryz.prog.info? ET).map (fun i => (i.zero, i.size, i.bytes)) = some (some z, sz, by_)) (hzs : z.cells.size = sz) (hsz : 0 < sz)
    (ho : o.op = .call { callee := .builtin .append, args := #[s, x], argTypes := #[ST, ST] }) (base : Nat) (v : Value) (n : Nat) (xs : List Value) (hs : a.eval s = v) (hown : w.ownsRow base ET sz v n xs)
    (ad : Addr) (m c : Nat) (cs : List Value) (hx : a.eval x = .slice (some ad) m c) (hcl : cs.length = m * sz) (hb : ∀ j u, cs[j]? = some u → w.cell? (ad.add j) = some u) (h1 : ∀ u ∈ cs, u.oneCell' = true) (hm : 0 < m)
    (hn : n + m ≤ maxLen) (hn2 : (n + m) * by_ ≤ 140737488355328) (hbase : base ≤ w.heap.size) (H : Nat) (hH : w.heap.size = H)
    (h : ∀ g' cap' w', w'.ownsRow base ET sz (.slice (some ⟨g', 0, none⟩) (n + m) cap') (n + m) (xs ++ cs) → w.grownBy w' v.ownBlock → (v.ownBlock = some g' ∨ g' = H) → g' < w'.heap.size → wpList Tryz.prog ops Q rest (a.put o.dst (.slice (some ⟨g', 0, none⟩) (n + m) cap')) w') : wpList Tryz.prog ops Q (o :: rest) a w := by
  obtain ⟨i0, hi, hz0, hz1, hz2⟩ := info_parts hinfo
  exact wpList_append_lies w hgd s x ST ho base ET i0 z sz by_ hu hi hz0 hz1 hz2 hzs hsz v n xs hs hown ad m c cs hx hcl hb h1 hm hn hn2 hbase H hH h
theorem step_app_liesO {w : World} {ops : Array Oper} {o : Oper} {a : Act} {K : Act → World → Prop} {Q : Exit → Act → World → Prop} {E : Prop} (hgd : o.guard = none) (s x : Operand) (ST ET sz by_ : Nat) (z : Value)
    (hu : Tryz.prog.underlying ST = some (.slice ET)) (hinfo : (Tryz.prog.info? ET).map (fun i => (i.zero, i.size, i.bytes)) = some (some z, sz, by_)) (hzs : z.cells.size = sz) (hsz : 0 < sz)
    (ho : o.op = .call { callee := .builtin .append, args := #[s, x], argTypes := #[ST, ST] }) (base : Nat) (v : Value) (n : Nat) (xs : List Value) (hs : a.eval s = v) (hown : w.ownsRow base ET sz v n xs)
    (ad : Addr) (m c : Nat) (cs : List Value) (hx : a.eval x = .slice (some ad) m c) (hcl : cs.length = m * sz) (hb : ∀ j u, cs[j]? = some u → w.cell? (ad.add j) = some u) (h1 : ∀ u ∈ cs, u.oneCell' = true) (hm : 0 < m)
    (hn : n + m ≤ maxLen) (hn2 : (n + m) * by_ ≤ 140737488355328) (hbase : base ≤ w.heap.size) (H : Nat) (hH : w.heap.size = H)
    (h : ∀ g' cap' w', w'.ownsRow base ET sz (.slice (some ⟨g', 0, none⟩) (n + m) cap') (n + m) (xs ++ cs) → w.grownBy w' v.ownBlock → (v.ownBlock = some g' ∨ g' = H) → g' < w'.heap.size → K (a.put o.dst (.slice (some ⟨g', 0, none⟩) (n + m) cap')) w') :
    if Region.wanted o (yielded ops a.tmps) = true then Oper.wp Tryz.prog o a w K Q else E := by
  obtain ⟨i0, hi, hz0, hz1, hz2⟩ := info_parts hinfo
  exact step_append_lies w hgd s x ST ho base ET i0 z sz by_ hu hi hz0 hz1 hz2 hzs hsz v n xs hs hown ad m c cs hx hcl hb h1 hm hn hn2 hbase H hH h
theorem run_append_noneM {P : Program} (w : World) (t ty e : TypeId) (i : TypeInfo) (ht : P.underlying t = some (.slice e)) (hi : P.info? e = some i) (A X : Option Addr) (n c : Nat) (hn : n ≤ c) (cx : Nat) :
    (Builtin.append_ #[t, t] ty #[.slice A n c, .slice X 0 cx]).run P w = .ok (.slice A n c) w := by
  cases A <;> cases X <;> simp [Builtin.append_, run_underlying ht, sizeOf, typeInfo, hi, Builtin.lenOf, Builtin.firstCells, hn, storeCells, loadCells, loadCellsFrom]
/-- 'append(s, x...)' onto a row of the call's own, of whatever length x is -/
theorem step_app_rows {w : World} {ops : Array Oper} {o : Oper} {a : Act} {K : Act → World → Prop} {Q : Exit → Act → World → Prop} {E : Prop} (hgd : o.guard = none) (s x : Operand) (ST ET sz by_ : Nat) (z : Value)
    (hu : Tryz.prog.underlying ST = some (.slice ET)) (hinfo : (Tryz.prog.info? ET).map (fun i => (i.zero, i.size, i.bytes)) = some (some z, sz, by_)) (hzs : z.cells.size = sz) (hsz : 0 < sz)
    (ho : o.op = .call { callee := .builtin .append, args := #[s, x], argTypes := #[ST, ST] }) (base : Nat) (A : Option Addr) (n c : Nat) (xs : List Value) (hs : a.eval s = .slice A n c) (hown : w.ownsRow base ET sz (.slice A n c) n xs) (hnc : n ≤ c)
    (X : Option Addr) (m cx : Nat) (cs : List Value) (hx : a.eval x = .slice X m cx) (hcl : cs.length = m * sz) (hb : 0 < m → ∃ ad : Addr, X = some ad ∧ ∀ j u, cs[j]? = some u → w.cell? (ad.add j) = some u) (h1 : ∀ u ∈ cs, u.oneCell' = true)
    (hn : n + m ≤ maxLen) (hn2 : (n + m) * by_ ≤ 140737488355328) (hbase : base ≤ w.heap.size)
    (h : ∀ A' cap' w', w'.ownsRow base ET sz (.slice A' (n + m) cap') (n + m) (xs ++ cs) → w.grownBy w' (Value.slice A n c).ownBlock → K (a.put o.dst (.slice A' (n + m) cap')) w') :
    if Region.wanted o (yielded ops a.tmps) = true then Oper.wp Tryz.prog o a w K Q else E := by
  rcases Nat.eq_zero_or_pos m with rfl | hm
  · obtain rfl : cs = [] := List.length_eq_zero_iff.1 (by rw [hcl, Nat.zero_mul])
    have hw : Region.wanted o (yielded ops a.tmps) = true := by simp [Region.wanted, hgd]
    rw [if_pos hw]
    obtain ⟨i0, hi, hz0, hz1, hz2⟩ := info_parts hinfo
    have hr := run_append_noneM (P := Tryz.prog) w ST o.type ET i0 hu hi A X n c hnc cx
    have hk := h A c w (by simpa using hown) ⟨rfl, rfl, rfl, Nat.le_refl _, fun _ _ _ => rfl⟩
    unfold Oper.wp execOp
    simp only [ho, resolve, invoke, builtin, Sem.run_bind, Sem.run_pure, Result.andThen_ok, List.map_toArray, List.map_cons, List.map_nil, hs, hx, hr]
    exact hk
  · obtain ⟨ad, rfl, hc⟩ := hb hm
    exact step_app_liesO hgd s x ST ET sz by_ z hu hinfo hzs hsz ho base _ n xs hs hown ad m cx cs hx hcl hc h1 hm hn hn2 hbase w.heap.size rfl (fun g' cap' w' k1 k2 _ _ => h _ cap' w' k1 k2)
theorem run_append_zero {P : Program} (w : World) (t ty e : TypeId) (i : TypeInfo) (ht : P.underlying t = some (.slice e)) (hi : P.info? e = some i) (A : Option Addr) (n c : Nat) (hn : n ≤ c) (a : Addr) (cx : Nat) :
    (Builtin.append_ #[t, t] ty #[.slice A n c, .slice (some a) 0 cx]).run P w = .ok (.slice A n c) w := by
  cases A <;> simp [Builtin.append_, run_underlying ht, sizeOf, typeInfo, hi, Builtin.lenOf, Builtin.firstCells, hn, storeCells, loadCells, loadCellsFrom]
def ClonePost (w : World) (e : TypeId) (sz : Nat) (n : Nat) (xs : List Value) (en : Ending) (w' : World) : Prop :=
  ∃ A c, en = .returned (.slice A n c) ∧ Below w.heap.size w w' ∧ w'.ownsRow w.heap.size e sz (.slice A n c) n xs
theorem own_empty (w : World) (e : TypeId) (sz : Nat) : (w.alloc (.cells #[] e)).ownsRow w.heap.size e sz (.slice (some ⟨w.heap.size, 0, none⟩) 0 0) 0 [] :=
  ⟨by simp, .inr ⟨w.heap.size, 0, #[], rfl, Nat.le_refl _, heap_alloc_new w _, Nat.le_refl _, by decide, by simp, by simp⟩⟩
theorem app_zeroG {w : World} {ops : Array Oper} {rest : List Oper} {o : Oper} {a : Act} {Q : Exit → Act → World → Prop} (hgd : o.guard = none) (s x : Operand) (ST ET sz by_ : Nat) (z : Value) (hu : Tryz.prog.underlying ST = some (.slice ET)) (hinfo : (Tryz.prog.info? ET).map (fun i => (i.zero, i.size, i.bytes)) = some (some z, sz, by_))
    (ho : o.op = .call { callee := .builtin .append, args := #[s, x], argTypes := #[ST, ST] }) (A : Option Addr) (n c : Nat) (hs : a.eval s = .slice A n c) (g : Addr) (cx : Nat) (hx : a.eval x = .slice (some g) 0 cx) (hn : n ≤ c)
    (h : wpList Tryz.prog ops Q rest (a.put o.dst (.slice A n c)) w) : wpList Tryz.prog ops Q (o :: rest) a w := by
  obtain ⟨i0, hi, hz0, hz1, hz2⟩ := info_parts hinfo
  have hr := run_append_zero (P := Tryz.prog) w ST o.type ET i0 hu hi A n c hn g cx
  refine wpList_plain hgd fun _ hK => ?_
  unfold Oper.wp execOp
  simp only [ho, resolve, invoke, builtin, Sem.run_bind, Sem.run_pure, Result.andThen_ok, List.map_toArray, List.map_cons, List.map_nil, hs, hx, hr]
  exact hK _ _ h
set_option maxRecDepth 100000 in
theorem clone_edg (xs : List Value) (A : Option Addr) (n c : Nat) (w : World) (hn : xs.length = n * 3) (h1 : ∀ u ∈ xs, u.oneCell' = true) (hA : A = none → n = 0) (hm : n ≤ 1000000) (hR : RdG w w.heap.size A xs) :
    Calls Tryz.prog 24 #[.slice A n c] w (ClonePost w 43 3 n xs) := by
  rcases A with _ | ⟨g0, og0, p0⟩
  · obtain rfl := hA rfl
    obtain rfl : xs = [] := List.length_eq_zero_iff.1 (by omega)
    have hu : (binOp .eql 36 (.slice none 0 c) (.slice none 0 0)).run Tryz.prog w = .ok (.bool true) w := by kernel_rfl
    go_enter Tryz.func24, Tryz.ntmps24
    go_wp2
    go_ret
    exact ⟨none, 0, rfl, Below.refl _ _, rfl, .inl ⟨rfl, rfl⟩⟩
  · have hu : (binOp .eql 36 (.slice (some ⟨g0, og0, p0⟩) n c) (.slice none 0 0)).run Tryz.prog w = .ok (.bool false) w := Lib.run_eql_slice_nil w _ _ _ n c 0 0 Tryz.underlying36
    rcases Nat.eq_zero_or_pos n with rfl | hpos
    · obtain rfl : xs = [] := List.length_eq_zero_iff.1 (by omega)
      go_enter Tryz.func24, Tryz.ntmps24
      go_wp2_with (first | (refine app_zeroG rfl _ _ 36 43 3 24 _ Tryz.underlying36 infoEdgM rfl _ 0 0 rfl ⟨g0, og0, p0⟩ c rfl (Nat.le_refl _) ?_))
      go_ret
      exact ⟨_, 0, rfl, (Below.refl _ _).alloc (Nat.le_refl _) _, own_empty _ _ _⟩
    · obtain ⟨b, o, he, hb, hc⟩ := hR (fun e => by rw [e] at hn; simp at hn; omega)
      injection he with he
      injection he with e1 e2 e3
      subst e1 e2 e3
      have HC : Hid (∀ j u, xs[j]? = some u → (w.alloc (.cells #[] 43)).cell? ⟨g0, og0 + j, none⟩ = some u) := Lib.hid fun j u hj => (((Below.refl w.heap.size w).alloc (Nat.le_refl _) _).cell (p := ⟨g0, og0 + j, none⟩) hb).trans (hc j u hj)
      have HC2 : Hid (∀ j u, xs[j]? = some u → (w.alloc (.cells #[] 43)).cell? ((⟨g0, og0, none⟩ : Addr).add j) = some u) := Lib.hid fun j u hu => by have h := HC.out j u hu; unfold Addr.add; split; (rename_i e; rw [e] at h; exact h); exact h
      have HM : Hid (0 + n ≤ maxLen ∧ (0 + n) * 24 ≤ 140737488355328) := Lib.hid ⟨by unfold maxLen; omega, by omega⟩
      have HL : Hid (xs.length = n * 3) := Lib.hid hn
      clear hc hn hR
      go_enter Tryz.func24, Tryz.ntmps24
      go_wp2_with (first | (refine app_liesO rfl _ _ 36 43 3 24 _ Tryz.underlying36 infoEdgM rfl (by decide) rfl w.heap.size _ 0 [] rfl (own_empty _ _ _) ⟨g0, og0, none⟩ n c _ rfl HL.out HC2.out h1 hpos HM.out.1 HM.out.2 (by simp) (w.heap.size + 1) (by simp) ?a1))
      case a1 =>
        intro g' c' w' ho hgr hat hlt
        have hb0 : Below w.heap.size w (w.alloc (.cells #[] 43)) := (Below.refl _ _).alloc (Nat.le_refl _) _
        have hB : Below w.heap.size w w' := hb0.grown hgr (by simp) (fun q hq => by have e : some w.heap.size = some q := hq; injection e with e; omega)
        have HO := Lib.hid ho
        have HB := Lib.hid hB
        have hnm : 0 + n = n := by omega
        clear ho hgr hat hB hb0
        go_wp2
        go_ret
        exact ⟨_, c', rfl, HB.out, HO.out⟩
instance : Inhabited EdgD := ⟨⟨0, 0, 0⟩⟩
theorem rev_edg {W : World} {B n c : Nat} {A : Option Addr} {L : List EdgD} (ho : W.ownsRow B 43 3 (.slice A n c) n (edgV L)) (hn : n ≤ 1000000000) :
    Calls Tryz.prog 25 #[.slice A n c] W fun e W' => e = .returned (.tuple #[]) ∧ W'.ownsRow B 43 3 (.slice A n c) n (edgV L.reverse) ∧ ∀ B0 w0, Below B0 w0 W → B0 ≤ B → Below B0 w0 W' := by
  have hlen : L.length = n := by have := ho.1; rw [edgV_len] at this; omega
  by_cases h0 : n = 0
  · subst h0
    obtain rfl : L = [] := List.length_eq_zero_iff.1 hlen
    have hcon := AnyQ.slices_Reverse_empty Sh.revEdge A c W
    change Calls Tryz.prog 25 _ _ _ at hcon
    exact hcon.mono fun e1 w1 ⟨h1, h2⟩ => ⟨h1, by rw [h2]; exact ho, fun B0 w0 hb _ => by rw [h2]; exact hb⟩
  · obtain ⟨g, rfl⟩ := own_ptr ho h0
    obtain ⟨hgB, hgl⟩ := World.ownsRow.lt ho g rfl
    have hds : L.toArray.size = n := by simpa using hlen
    have hfl : ∀ d : Array EdgD, (Go.Sort.flatK edgC 3 d).toList = edgV d.toList := fun d => by
      apply List.ext_getElem?
      intro j
      rcases Nat.lt_or_ge j (d.size * 3) with hj | hj
      · have hi : j / 3 < d.size := by omega
        have h1 : d.toList[j / 3]? = some (d[j / 3]'hi) := by rw [Array.getElem?_toList, Array.getElem?_eq_getElem hi]
        have h2 := edgV_at h1 (j % 3) ((edgC (d[j / 3]'hi))[j % 3]!) (by
          have h3 : j % 3 = 0 ∨ j % 3 = 1 ∨ j % 3 = 2 := by omega
          rcases h3 with e | e | e <;> rw [e] <;> rfl)
        rw [show j / 3 * 3 + j % 3 = j by omega] at h2
        rw [h2, Array.getElem?_toList, Array.getElem?_eq_getElem (by simpa using hj)]
        congr 1
        have h4 := Go.Sort.get_flatK edgC 3 d j hj
        rw [getElem!_pos _ j (by simpa using hj)] at h4
        rw [h4, getElem!_pos d _ hi]
      · rw [List.getElem?_eq_none (by simpa using hj), List.getElem?_eq_none (by rw [edgV_len]; simpa using hj)]
    have hH : Go.Sort.HoldsK edgC 3 W g 0 L.toArray := holds_flatK ho (by rw [hfl])
    have hcon := AnyQ.slices_Reverse Sh.revEdge 3 Tryz.isAgg43 Tryz.sizeOf43 edgC (fun _ => rfl) (fun x v hv => by simp [edgC] at hv; rcases hv with rfl | rfl | rfl <;> rfl) g 0 c L.toArray W hH (by omega)
    change Calls Tryz.prog 25 _ _ _ at hcon
    rw [hds] at hcon
    refine hcon.mono fun e1 w1 ⟨h1, q, h2⟩ => ⟨h1, ?_, fun B0 w0 hb hBB => ?_⟩
    · have h3 := own_putK (q := q) (F := Go.Sort.flatK edgC 3 L.toArray.reverse) ho (by rw [Go.Sort.size_flatK]; simp; omega)
      rw [hfl, show L.toArray.reverse.toList = L.reverse by simp] at h3
      rw [h2]
      exact h3
    · rw [h2]
      exact Go.Lib.below_putRow hb (by omega)
set_option maxHeartbeats 1000000 in
set_option maxRecDepth 100000 in
theorem eqEdg_sameM (L : List EdgE) (A B : Option Addr) (n c d : Nat) (w : World) (hA : RdG w w.heap.size A (edL L)) (hB : RdG w w.heap.size B (edL L)) (hn : L.length = n) (hnl : n ≤ 140737488355328) :
    Calls Tryz.prog 23 #[.slice A n c, .slice B n d] w fun e w' => e = .returned (.bool true) ∧ ∃ q, w' = w.drewN q := by
  have HA := Lib.hid hA
  have HB := Lib.hid hB
  have HN := Lib.hid hn
  clear hA hB hn
  go_enter Tryz.func23, Tryz.ntmps23
  go_wp2
  go_loopw [13] (fun i wr => ∃ k : Nat, k ≤ n ∧ i = .int .i64 k ∧ ∃ q, wr = w.drewN q) (fun i _ => n - (intOf i).toNat)
  case atStart => exact ⟨0, Nat.zero_le _, rfl, 0, rfl⟩
  case round =>
    obtain ⟨k, hk, rfl, q, rfl⟩ := hrel
    by_cases hlt : k < n
    · have hx : L[k]? = some (L[k]'(by have := HN.out; omega)) := List.getElem?_eq_getElem _
      generalize L[k]'(by have := HN.out; omega) = x at hx
      obtain ⟨xa, xb, xc⟩ := x
      obtain ⟨b1, o1, hA1, hb1, c0, c1, c2⟩ := ed_at3M HA.out hx
      obtain ⟨b2, o2, hA2, hb2, e0, e1, e2⟩ := ed_at3M HB.out hx
      simp only at c0 c1 c2 e0 e1 e2
      subst hA1 hA2
      clear hx
      go_wp2
      go_quiet (fail)
      go_wp2
      go_roundw
      case rel => exact ⟨k + 1, by omega, by go_num, _, rfl⟩
      case measure => simp [intOf]; omega
    · obtain rfl : n = k := by omega
      go_wp2
      go_ret
      exact ⟨by rfl, _, rfl⟩
theorem edgV_one (L : List EdgD) : ∀ u ∈ edgV L, u.oneCell' = true := by
  intro u hu
  obtain ⟨x, -, hx⟩ := List.mem_flatMap.1 hu
  simp only [edgC, List.mem_cons, List.not_mem_nil, or_false] at hx
  rcases hx with rfl | rfl | rfl <;> rfl
/-- a tally's edge as an edge -/
def toD (e : EdgE) : EdgD := ⟨e.a, e.b, e.c⟩
theorem edL_toD (l : List EdgE) : edL l = edgV (l.map toD) := by
  unfold edL edgV
  rw [List.flatMap_map]
  rfl
def toE (e : EdgD) : EdgE := ⟨e.f, e.t, e.c⟩
theorem edgV_toE (l : List EdgD) : edL (l.map toE) = edgV l := by
  unfold edL edgV
  rw [List.flatMap_map]
  rfl
/-- how often a way is gone, as a plain sum -/
def sumK (d : FlowD) (x y : Int) : List EdgE → Int
  | [] => 0
  | e :: r => (if keyE d e = some (x, y) then e.c else 0) + sumK d x y r
theorem sumK_app (d : FlowD) (x y : Int) (l r : List EdgE) : sumK d x y (l ++ r) = sumK d x y l + sumK d x y r := by
  induction l with
  | nil => simp [sumK]
  | cons e t ih => simp only [List.cons_append, sumK, ih]; omega
theorem sumK_rev (d : FlowD) (x y : Int) (l : List EdgE) : sumK d x y l.reverse = sumK d x y l := by
  induction l with
  | nil => rfl
  | cons e t ih => rw [List.reverse_cons, sumK_app, ih]; simp only [sumK]; omega
theorem sumK_bd (d : FlowD) (x y : Int) (l : List EdgE) (h : ∀ e ∈ l, 0 ≤ e.c ∧ e.c ≤ 100000) : 0 ≤ sumK d x y l ∧ sumK d x y l ≤ 100000 * l.length := by
  induction l with
  | nil => simp [sumK]
  | cons e t ih =>
    have h1 := ih fun z hz => h z (by simp [hz])
    have h2 := h e (by simp)
    simp only [sumK, List.length_cons]
    split <;> omega
theorem cntS_sum {d : FlowD} {l : List EdgE} (h : ∀ e ∈ l, 0 ≤ e.c ∧ e.c ≤ 100000) (hl : l.length ≤ 10000) (x y : Int) : ∀ k : Nat, k ≤ l.length → cntS d l k x y = sumK d x y (l.take k)
  | 0, _ => by simp [cntS, sumK]
  | k + 1, hk => by
    have ih := cntS_sum (d := d) h hl x y k (by omega)
    have he : l[k]? = some (l[k]'(by omega)) := List.getElem?_eq_getElem _
    have hb := sumK_bd d x y (l.take (k + 1)) fun e he => h e (List.mem_of_mem_take he)
    have ht : l.take (k + 1) = l.take k ++ [l[k]'(by omega)] := by rw [List.take_add_one, he]; rfl
    rw [List.length_take] at hb
    rw [ht, sumK_app] at hb ⊢
    rw [← ih] at hb ⊢
    simp only [sumK, Int.add_zero] at hb ⊢
    show (if keyE d (l.getD k edZ) = some (x, y) then capI (cntS d l k x y) (l.getD k edZ).c else cntS d l k x y) = _
    rw [getDz he]
    split
    · rename_i h1
      rw [if_pos h1] at hb
      unfold capI
      omega
    · omega
theorem mapL_sum {d : FlowD} {l : List EdgE} (h : ∀ e ∈ l, 0 ≤ e.c ∧ e.c ≤ 100000) (hl : l.length ≤ 10000) : mapL d l = outL d.blocks.length fun x y => sumK d x y l := by
  unfold mapL
  congr 1
  funext x y
  rw [cntS_sum h hl x y l.length (Nat.le_refl _), List.take_length]
theorem mapL_rev {d : FlowD} {l : List EdgE} (h : ∀ e ∈ l, 0 ≤ e.c ∧ e.c ≤ 100000) (hl : l.length ≤ 10000) : mapL d l.reverse = mapL d l := by
  rw [mapL_sum (fun e he => h e (List.mem_reverse.1 he)) (by simpa using hl), mapL_sum h hl]
  simp only [sumK_rev]
theorem mapL_two {d : FlowD} {l : List EdgE} (h : ∀ e ∈ l, 0 ≤ e.c ∧ e.c ≤ 100000) (hl : l.length ≤ 5000) : mapL d (l.reverse ++ l) = (mapL d l).map fun e => ⟨e.f, e.t, 2 * e.c⟩ := by
  rw [mapL_sum (fun e he => by
    rcases List.mem_append.1 he with he | he
    · exact h e (List.mem_reverse.1 he)
    · exact h e he) (by simp; omega), mapL_sum h (by omega)]
  unfold outL
  rw [List.map_flatMap]
  congr 1
  funext x
  rw [List.map_filterMap]
  congr 1
  funext y
  simp only [sumK_app, sumK_rev]
  by_cases h1 : 0 < sumK d (x : Int) (y : Int) l
  · rw [if_pos h1, if_pos (by omega)]
    simp only [Option.map_some, Option.some.injEq, EdgD.mk.injEq, true_and]
    omega
  · rw [if_neg h1, if_neg (by omega)]
    rfl
end Go.Proofs.YtcdlgjhdbmmomaaGreatDoor
