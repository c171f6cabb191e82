/- An image of the call's own whose rows are appended to. -/
import Derived.Test.YtlekjnnofhjgjaaDoorPgmG
namespace Go.Proofs.YtlekjnnofhjgjaaDoor
open Go.RowKit
/-- rows of different types lie in different blocks -/
theorem own_ne {w : World} {b1 b2 : Nat} {e1 e2 : TypeId} {s1 s2 n1 n2 : Nat} {v1 v2 : Value} {x1 x2 : List Value} (h1 : w.ownsRow b1 e1 s1 v1 n1 x1) (h2 : w.ownsRow b2 e2 s2 v2 n2 x2) (hne : e1 ≠ e2) :
    v1.ownBlock = none ∨ v1.ownBlock ≠ v2.ownBlock := by
  rcases h1.2 with ⟨rfl, _⟩ | ⟨g, cap, cur, rfl, _, hg, _⟩
  · exact .inl rfl
  · refine .inr fun e => ?_
    rcases h2.2 with ⟨rfl, _⟩ | ⟨g', cap', cur', rfl, _, hg', _⟩
    · cases e
    · simp only [Value.ownBlock, Option.some.injEq] at e
      subst e
      rw [hg] at hg'
      simp only [Option.some.injEq, Obj.cells.injEq] at hg'
      exact hne hg'.2.1
theorem TabsAt.gbw {w w' : World} {base : Nat} {v : Value} {ts : List (List Int)} {row : Option Nat} (h : TabsAt w base v ts) (hb : w.grownBy w' row) (hv : v.ownBlock = none ∨ v.ownBlock ≠ row)
    (hi : ∀ (g : Nat) (x : Int), w.cell? ⟨g, 0, none⟩ = some (.int .i64 x) → row ≠ some g) : TabsAt w' base v ts := by
  obtain ⟨A, c, vs, h1, h2, h3, h4⟩ := h
  refine ⟨A, c, vs, h1, gb_own h2 hb hv, h3, fun j t ht => ?_⟩
  obtain ⟨A', c', k1, k2, k2', k2'', k3⟩ := h4 j t ht
  refine ⟨A', c', k1, k2, k2', k2'', fun hn => ?_⟩
  obtain ⟨g, e1, e2, e3, e4, ⟨cs, fz, e6⟩, e5⟩ := k3 hn
  have hne : row ≠ some g := by
    cases t with
    | nil => exact absurd rfl hn
    | cons x r => exact hi g x (e5 0 x rfl)
  refine ⟨g, e1, e2, Nat.lt_of_lt_of_le e3 hb.size, e4, ⟨cs, fz, (hb.block g e3 (fun e => hne e.symm)).trans e6⟩, fun q x hx => ?_⟩
  rw [← e5 q x hx]
  unfold World.cell?
  rw [hb.block g e3 (fun e => hne e.symm)]
/-- .. where a block of another type is written -/
theorem TabsAt.gbT {w w' : World} {base : Nat} {v : Value} {ts : List (List Int)} {row : Option Nat} {T : TypeId} (h : TabsAt w base v ts) (hb : w.grownBy w' row) (hv : v.ownBlock = none ∨ v.ownBlock ≠ row)
    (ht : ∀ g, row = some g → ∃ cs fz, w.heap[g]? = some (.cells cs T fz)) (hT : 3 ≠ T) : TabsAt w' base v ts := by
  obtain ⟨A, c, vs, h1, h2, h3, h4⟩ := h
  refine ⟨A, c, vs, h1, gb_own h2 hb hv, h3, fun j t htj => ?_⟩
  obtain ⟨A', c', k1, k2, k2', k2'', k3⟩ := h4 j t htj
  refine ⟨A', c', k1, k2, k2', k2'', fun hn => ?_⟩
  obtain ⟨g, e1, e2, e3, e4, ⟨cs, fz, e6⟩, e5⟩ := k3 hn
  have hne : row ≠ some g := fun e => by
    obtain ⟨cs', fz', h6⟩ := ht g e
    rw [e6] at h6
    injection h6 with h6
    injection h6 with _ h7 _
    exact hT h7
  refine ⟨g, e1, e2, Nat.lt_of_lt_of_le e3 hb.size, e4, ⟨cs, fz, (hb.block g e3 (fun e => hne e.symm)).trans e6⟩, fun q x hx => ?_⟩
  rw [← e5 q x hx]
  unfold World.cell?
  rw [hb.block g e3 (fun e => hne e.symm)]
/-- tables are read -/
theorem TabsAt.rdt {w : World} {base n c : Nat} {A : Option Addr} {ts : List (List Int)} (h : TabsAt w base (.slice A n c) ts) : RdT w w.heap.size A ts := by
  obtain ⟨A0, c0, vs, e0, h2, h3, h4⟩ := h
  injection e0 with e1 e2 e3
  subst e1
  subst e2
  refine ⟨vs, h3, own_rdg h2, fun j t ht => ?_⟩
  obtain ⟨A', c', k1, k2, k2', k2'', k3⟩ := h4 j t ht
  refine ⟨A', c', k1, k2, k2', by omega, fun hn => ?_⟩
  have hn' : t ≠ [] := by
    intro e
    apply hn
    rw [e]
    rfl
  obtain ⟨g, e1, e2, e3, e4, -, e5⟩ := k3 hn'
  refine ⟨g, 0, e1, e3, fun q u hu => ?_⟩
  simp only [intsV, List.getElem?_map, Option.map_eq_some_iff] at hu
  obtain ⟨x, hx, rfl⟩ := hu
  rw [Nat.zero_add]
  exact e5 q x hx
/-- an own row's first cell -/
theorem own_first {w : World} {base : Nat} {e : TypeId} {size n : Nat} {v : Value} {u : Value} {xs : List Value} {g : Nat} (h : w.ownsRow base e size v n (u :: xs)) (hg : v.ownBlock = some g) : w.cell? ⟨g, 0, none⟩ = some u := by
  rcases h.2 with ⟨rfl, _⟩ | ⟨g', cap, cur, rfl, _, hgg, _, _, _, htk⟩
  · cases hg
  · simp only [Value.ownBlock, Option.some.injEq] at hg
    subst hg
    rw [cell_of_row w g' 0 _ _ _ hgg]
    have h0 : (u :: xs)[0]? = some u := rfl
    rw [← htk, List.getElem?_take] at h0
    split at h0
    · simpa using h0
    · cases h0
theorem ImgOwn.setTx {w w' : World} {base n c' : Nat} {A' : Option Addr} {m : Img} {v : ImgV} {L' : List Int} (h : ImgOwn w base m v) (hgr : w.grownBy w' (Value.slice v.tA m.text.length v.tc).ownBlock) (ho : OwnB w' base (.slice A' n c') L') (hn : L'.length = n) (hne : m.text ≠ []) :
    ImgOwn w' base { m with text := L' } { v with tA := A', tc := c' } := by
  have ty : ∀ {e : TypeId} {size k : Nat} {u : Value} {xs : List Value}, w.ownsRow base e size u k xs → e ≠ 5 → w'.ownsRow base e size u k xs := fun hu he => gb_own hu hgr (own_ne hu h.tx he)
  subst hn
  refine ⟨ho, ty h.fn (by decide), ty h.dt (by decide), ty h.ln (by decide), ?_⟩
  obtain ⟨b0, h1, h2, h3⟩ := h.tb
  refine ⟨b0, h1, h2.gbw hgr ?_ ?_, h3⟩
  · obtain ⟨A, c, vs, e1, e2, _⟩ := h2
    exact own_ne e2 h.tx (by decide)
  · intro g x hx e
    obtain ⟨y, r, hy⟩ := List.exists_cons_of_ne_nil hne
    have ht := h.tx
    rw [hy] at ht
    have h0 := own_first ht (by rw [← hy]; exact e)
    rw [hx] at h0
    simp at h0
theorem ImgOwn.setFn {w w' : World} {base n c' : Nat} {A' : Option Addr} {m : Img} {v : ImgV} {L' : List FnD} (h : ImgOwn w base m v) (hgr : w.grownBy w' (Value.slice v.fA m.funcs.length v.fc).ownBlock) (ho : w'.ownsRow base 25 3 (.slice A' n c') n (funcsV L')) (hn : L'.length = n) (hne : m.funcs ≠ []) :
    ImgOwn w' base { m with funcs := L' } { v with fA := A', fc := c' } := by
  have ty : ∀ {e : TypeId} {size k : Nat} {u : Value} {xs : List Value}, w.ownsRow base e size u k xs → e ≠ 25 → w'.ownsRow base e size u k xs := fun hu he => gb_own hu hgr (own_ne hu h.fn he)
  subst hn
  refine ⟨ty h.tx (by decide), ho, ty h.dt (by decide), ty h.ln (by decide), ?_⟩
  obtain ⟨b0, h1, h2, h3⟩ := h.tb
  refine ⟨b0, h1, h2.gbw hgr ?_ ?_, h3⟩
  · obtain ⟨A, c, vs, e1, e2, _⟩ := h2
    exact own_ne e2 h.fn (by decide)
  · intro g x hx e
    obtain ⟨y, r, hy⟩ := List.exists_cons_of_ne_nil hne
    have ht := h.fn
    rw [hy] at ht
    have h0 := own_first (u := .string y.name) (xs := [.int .i64 y.start, .int .i64 y.size] ++ funcsV r) (by simpa [funcsV, fnV] using ht) (by rw [hy] at e; simpa using e)
    rw [hx] at h0
    simp at h0
/-- a row and a block of another type -/
theorem own_blk_ne {w : World} {b q : Nat} {e t : TypeId} {size n : Nat} {v : Value} {xs cs : List Value} (h : w.ownsRow b e size v n xs) (hB : Blk w q t cs) (hne : e ≠ t) : v.ownBlock = none ∨ v.ownBlock ≠ some q := by
  rcases h.2 with ⟨rfl, _⟩ | ⟨g, cap, cur, rfl, _, hg, _⟩
  · exact .inl rfl
  · refine .inr fun e => ?_
    simp only [Value.ownBlock, Option.some.injEq] at e
    subst e
    unfold Blk at hB
    rw [hg] at hB
    simp only [Option.some.injEq, Obj.cells.injEq] at hB
    exact hne hB.2.1
/-- a store into a block of another type -/
theorem ImgOwn.blk {w w' : World} {base q : Nat} {m : Img} {v : ImgV} {t : TypeId} {u : Value} {cs : List Value} (h : ImgOwn w base m v) (hB : Blk w q t (u :: cs)) (hgr : w.grownBy w' (some q)) (hu : ∀ x, u ≠ .int .i64 x)
    (ht : t ≠ 5 ∧ t ≠ 25 ∧ t ≠ 3 ∧ t ≠ 63 ∧ t ≠ 28) : ImgOwn w' base m v := by
  have ty : ∀ {e : TypeId} {size k : Nat} {y : Value} {xs : List Value}, w.ownsRow base e size y k xs → t ≠ e → w'.ownsRow base e size y k xs := fun hy he => gb_own hy hgr (own_blk_ne hy hB (Ne.symm he))
  obtain ⟨t1, t2, t3, t4, t5⟩ := ht
  refine ⟨ty h.tx t1, ty h.fn t2, ty h.dt t3, ty h.ln t4, ?_⟩
  obtain ⟨b0, h1, h2, h3⟩ := h.tb
  refine ⟨b0, h1, h2.gbw hgr ?_ ?_, h3⟩
  · obtain ⟨A, c, vs, e1, e2, _⟩ := h2
    exact own_blk_ne e2 hB (Ne.symm t5)
  · intro g x hx e
    simp only [Option.some.injEq] at e
    subst e
    rw [hB.cell 0 rfl] at hx
    exact hu x (Option.some.inj hx)
/-- append of some elements that stand in a block -/
theorem app_many {w : World} {ops : Array Oper} {rest : List Oper} {o : Oper} {a : Act} {Q : Exit → Act → World → Prop} (hgd : o.guard = none) (s x : Operand) (ST ET sz by_ : Nat) (z : Value)
    (hu : Tryd.prog.underlying ST = some (.slice ET)) (hinfo : (Tryd.prog.info? ET).map (fun i => (i.zero, i.size, i.bytes)) = some (some z, sz, by_)) (hzs : z.cells.size = sz) (hsz : 0 < sz)
    (ho : o.op = .call { callee := .builtin .append, args := #[s, x], argTypes := #[ST, ST] }) (base : Nat) (v : Value) (n : Nat) (xs : List Value) (hs : a.eval s = v) (hown : w.ownsRow base ET sz v n xs)
    (g m c : Nat) (hx : a.eval x = .slice (some ⟨g, 0, none⟩) m c) (cs : List Value) (T : TypeId) (fr : Nat × Nat) (hb : w.heap[g]? = some (.cells cs.toArray T fr)) (hcl : cs.length = m * sz) (hm : 0 < m) (h1 : ∀ u ∈ cs, u.oneCell' = true)
    (hn : n + m ≤ 1000000000000) (hn2 : (n + m) * by_ ≤ 140737488355328) (hbase : base ≤ w.heap.size) (H : Nat) (hH : w.heap.size = H)
    (h : ∀ g' cap' w', w'.ownsRow base ET sz (.slice (some ⟨g', 0, none⟩) (n + m) cap') (n + m) (xs ++ cs) → w.grownBy w' v.ownBlock → (v.ownBlock = some g' ∨ g' = H) → g' < w'.heap.size → wpList Tryd.prog ops Q rest (a.put o.dst (.slice (some ⟨g', 0, none⟩) (n + m) cap')) w') : wpList Tryd.prog ops Q (o :: rest) a w := by
  obtain ⟨i0, hi, hz0, hz1, hz2⟩ := info_parts hinfo
  exact wpList_append_lies w hgd s x ST ho base ET i0 z sz by_ hu hi hz0 hz1 hz2 hzs hsz v n xs hs hown ⟨g, 0, none⟩ m c cs hx hcl (by simpa using World.news_of_block hb) h1 hm (by unfold maxLen; omega) hn2 hbase H hH h
theorem step_app_many {w : World} {ops : Array Oper} {o : Oper} {a : Act} {K : Act → World → Prop} {Q : Exit → Act → World → Prop} {E : Prop} (hgd : o.guard = none) (s x : Operand) (ST ET sz by_ : Nat) (z : Value)
    (hu : Tryd.prog.underlying ST = some (.slice ET)) (hinfo : (Tryd.prog.info? ET).map (fun i => (i.zero, i.size, i.bytes)) = some (some z, sz, by_)) (hzs : z.cells.size = sz) (hsz : 0 < sz)
    (ho : o.op = .call { callee := .builtin .append, args := #[s, x], argTypes := #[ST, ST] }) (base : Nat) (v : Value) (n : Nat) (xs : List Value) (hs : a.eval s = v) (hown : w.ownsRow base ET sz v n xs)
    (g m c : Nat) (hx : a.eval x = .slice (some ⟨g, 0, none⟩) m c) (cs : List Value) (T : TypeId) (fr : Nat × Nat) (hb : w.heap[g]? = some (.cells cs.toArray T fr)) (hcl : cs.length = m * sz) (hm : 0 < m) (h1 : ∀ u ∈ cs, u.oneCell' = true)
    (hn : n + m ≤ 1000000000000) (hn2 : (n + m) * by_ ≤ 140737488355328) (hbase : base ≤ w.heap.size) (H : Nat) (hH : w.heap.size = H)
    (h : ∀ g' cap' w', w'.ownsRow base ET sz (.slice (some ⟨g', 0, none⟩) (n + m) cap') (n + m) (xs ++ cs) → w.grownBy w' v.ownBlock → (v.ownBlock = some g' ∨ g' = H) → g' < w'.heap.size → K (a.put o.dst (.slice (some ⟨g', 0, none⟩) (n + m) cap')) w') :
    if Region.wanted o (yielded ops a.tmps) = true then Oper.wp Tryd.prog o a w K Q else E := by
  obtain ⟨i0, hi, hz0, hz1, hz2⟩ := info_parts hinfo
  exact step_append_lies w hgd s x ST ho base ET i0 z sz by_ hu hi hz0 hz1 hz2 hzs hsz v n xs hs hown ⟨g, 0, none⟩ m c cs hx hcl (by simpa using World.news_of_block hb) h1 hm (by unfold maxLen; omega) hn2 hbase H hH h
/-- an operation whose run is known -/
theorem step_value {ops : Array Oper} {o : Oper} {a : Act} {w : World} {K : Act → World → Prop} {Q : Exit → Act → World → Prop} {E : Prop} (v : Value) (w' : World) (hg : o.guard = none) (hrun : (execOp a.eval o).run Tryd.prog w = .ok (.value v) w') (h : K (a.put o.dst v) w') :
    if Region.wanted o (yielded ops a.tmps) = true then Oper.wp Tryd.prog o a w K Q else E := by
  have hw : Region.wanted o (yielded ops a.tmps) = true := by simp [Region.wanted, hg]
  rw [if_pos hw]
  unfold Oper.wp
  rw [hrun]
  exact h
/-- a slice is built of parts -/
theorem step_build {ops : Array Oper} {o : Oper} {a : Act} {w : World} {K : Act → World → Prop} {Q : Exit → Act → World → Prop} {E : Prop} (t : TypeId) (n : Nat) (parts : Array (Nat × Operand)) (vs : Array (Nat × Value)) (v : Value) (w' : World) (hg : o.guard = none) (ho : o.op = .buildSlice t n parts)
    (hp : parts.map (fun (i, x) => (i, a.eval x)) = vs) (hrun : (Instr.buildSlice t n vs).run Tryd.prog w = .ok v w') (h : K (a.put o.dst v) w') :
    if Region.wanted o (yielded ops a.tmps) = true then Oper.wp Tryd.prog o a w K Q else E := by
  have hw : Region.wanted o (yielded ops a.tmps) = true := by simp [Region.wanted, hg]
  rw [if_pos hw]
  unfold Oper.wp
  simp [execOp, ho, hp, hrun, Result.andThen]
  exact h
/-- the functions of a program have names of two letters -/
theorem fnL_no (bs : List (List Spot)) (fs : List Int) (b : ByteArray) (hfs : fs.length ≤ 3) (h : b.toList.length ≠ 2) : (fnL bs fs).any (sameName b) = false := by
  rw [List.any_eq_false]
  intro f hf
  unfold fnL at hf
  obtain ⟨i, hi, rfl⟩ := List.mem_map.1 hf
  have hi3 := List.mem_range.1 hi
  have h3 : i = 0 ∨ i = 1 ∨ i = 2 := by omega
  intro e
  simp only [sameName, fnAt, beq_iff_eq] at e
  rw [← e] at h
  rcases h3 with rfl | rfl | rfl <;> exact h (by decide +kernel)
theorem IsPgm.fn {l : List RawI} {m : Img} (h : IsPgm l m) : 1 ≤ m.funcs.length ∧ m.funcs.length ≤ 3 := by
  obtain ⟨bs', h1, _, h3, rfl⟩ := h
  show 1 ≤ (fnL bs' _).length ∧ (fnL bs' _).length ≤ 3
  unfold fnL
  rw [List.length_map, List.length_range]
  exact h1.nf
end Go.Proofs.YtlekjnnofhjgjaaDoor
