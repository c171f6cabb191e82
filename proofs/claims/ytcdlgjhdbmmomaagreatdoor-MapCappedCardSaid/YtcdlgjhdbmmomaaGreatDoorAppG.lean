/- Rows of the call's own, carried along. Appending one element, whatever its type, onto a row of the call's own. -/
import Derived.Test.YtcdlgjhdbmmomaaGreatDoorIsaC
import Derived.Lib.Hide
import Derived.Deep.AppendLies
namespace Go.Proofs.YtcdlgjhdbmmomaaGreatDoor
open Go.RowKit
def N64 (n : Int) : Prop := -9223372036854775808 ≤ n ∧ n ≤ 9223372036854775807
def RdG (w : World) (B : Nat) (A : Option Addr) (cs : List Value) : Prop :=
 cs ≠ [] → ∃ b o, A = some ⟨b, o, none⟩ ∧ b < B ∧ ∀ (j : Nat) (v : Value), cs[j]? = some v → w.cell? ⟨b, o + j, none⟩ = some v
theorem RdG.keep {w w' : World} {B : Nat} {A : Option Addr} {cs : List Value} (h : RdG w B A cs) (hk : ∀ b o, b < B → w'.cell? ⟨b, o, none⟩ = w.cell? ⟨b, o, none⟩) : RdG w' B A cs :=
 fun hn => by obtain ⟨b, o, e, hb, hc⟩ := h hn; exact ⟨b, o, e, hb, fun j v hv => (hk _ _ hb).trans (hc j v hv)⟩
theorem RdG.below {w w' : World} {B : Nat} {A : Option Addr} {cs : List Value} (h : RdG w B A cs) (hb : Below B w w') : RdG w' B A cs := h.keep fun _ _ hp => hb.cell hp
theorem RdG.more {w : World} {B B' : Nat} {A : Option Addr} {cs : List Value} (h : RdG w B A cs) (hB : B ≤ B') : RdG w B' A cs :=
 fun hn => by obtain ⟨b, o, e, hb, hc⟩ := h hn; exact ⟨b, o, e, by omega, hc⟩
theorem RdG.nil (w : World) (B : Nat) (A : Option Addr) : RdG w B A [] := fun h => absurd rfl h
theorem RdG.take {w : World} {B : Nat} {A : Option Addr} {cs : List Value} (h : RdG w B A cs) (n : Nat) : RdG w B A (cs.take n) := fun hn => by
 have hn' : cs ≠ [] := fun e => hn (by rw [e]; simp)
 obtain ⟨b, o, e, hb, hc⟩ := h hn'; refine ⟨b, o, e, hb, fun j v hv => hc j v ?_⟩; rw [List.getElem?_take] at hv
 split at hv
 · exact hv
 · cases hv
theorem RdG.at {w : World} {B : Nat} {A : Option Addr} {cs : List Value} (h : RdG w B A cs) {j : Nat} {v : Value} (hv : cs[j]? = some v) : ∃ b o, A = some ⟨b, o, none⟩ ∧ b < B ∧ w.cell? ⟨b, o + j, none⟩ = some v := by
 obtain ⟨b, o, e, hb, hc⟩ := h (by intro e; rw [e] at hv; simp at hv); exact ⟨b, o, e, hb, hc j v hv⟩
def intsV (k : IntKind) (L : List Int) : List Value := L.map (Value.int k)
theorem intsV_at (k : IntKind) {L : List Int} {j : Nat} {x : Int} (h : L[j]? = some x) : (intsV k L)[j]? = some (.int k x) := by simp [intsV, h]
def idxP {α : Type} (p : α → Bool) : List α → Int
 | [] => -1
 | x :: r => if p x then 0 else if idxP p r < 0 then -1 else idxP p r + 1
theorem idxP_ge {α : Type} (p : α → Bool) (L : List α) : -1 ≤ idxP p L := by
 induction L with
 | nil => exact Int.le_refl _
 | cons x r ih =>
  unfold idxP
  split
  · omega
  · split <;> omega
theorem idxP_any {α : Type} (p : α → Bool) (L : List α) : decide (0 ≤ idxP p L) = L.any p := by
 induction L with
 | nil => rfl
 | cons x r ih =>
  have := idxP_ge p r; unfold idxP
  by_cases h : p x = true
  · simp [h]
  · rw [if_neg h]; rw [Bool.not_eq_true] at h; rw [List.any_cons, h, Bool.false_or, ← ih]
    split <;> simp <;> omega
theorem idxP_none {α : Type} (p : α → Bool) (L : List α) (h : ∀ x ∈ L, p x = false) : idxP p L = -1 := by
 induction L with
 | nil => rfl
 | cons x r ih =>
  unfold idxP; rw [if_neg (by rw [h x (by simp)]; decide), ih fun y hy => h y (by simp [hy])]
  rfl
theorem idxP_at {α : Type} (p : α → Bool) (L : List α) (k : Nat) (x : α) (hx : L[k]? = some x) (hp : p x = true) (h : ∀ (j : Nat) (y : α), j < k → L[j]? = some y → p y = false) : idxP p L = k := by
 induction L generalizing k with
 | nil => simp at hx
 | cons z r ih =>
  cases k with
  | zero =>
   simp at hx; subst hx; unfold idxP; rw [if_pos hp]
   rfl
  | succ k =>
   have h0 := h 0 z (by omega) rfl; have := ih k (by simpa using hx) fun j y hj hy => h (j + 1) y (by omega) (by simpa using hy)
   unfold idxP; rw [if_neg (by rw [h0]; decide), this, if_neg (by omega)]; omega
theorem own_keep {w w' : World} {base : Nat} {e : TypeId} {size : Nat} {v : Value} {n : Nat} {xs : List Value} (h : w.ownsRow base e size v n xs) (hb : Below w.heap.size w w') : w'.ownsRow base e size v n xs := by
 refine ⟨h.1, ?_⟩; rcases h.2 with hn | ⟨g, cap, cur, rfl, hbb, hg, rest⟩
 · exact .inl hn
 · exact .inr ⟨g, cap, cur, rfl, hbb, (hb.block g (Array.getElem?_eq_some_iff.1 hg).1).trans hg, rest⟩
theorem own_other {w w' : World} {base : Nat} {e : TypeId} {size : Nat} {v u : Value} {n : Nat} {xs : List Value} (h : w.ownsRow base e size v n xs) (hg : w.grownBy w' u.ownBlock) (hne : v.ownBlock = none ∨ v.ownBlock ≠ u.ownBlock) : w'.ownsRow base e size v n xs := by
 refine ⟨h.1, ?_⟩; rcases h.2 with hn | ⟨g, cap, cur, rfl, hbb, hgg, rest⟩
 · exact .inl hn
 · refine .inr ⟨g, cap, cur, rfl, hbb, ?_, rest⟩; rw [hg.block g (Array.getElem?_eq_some_iff.1 hgg).1 (by simpa [Value.ownBlock] using hne)]; exact hgg
theorem gb_refl (w : World) (row : Option Nat) : w.grownBy w row := ⟨rfl, rfl, rfl, Nat.le_refl _, fun _ _ _ => rfl⟩
theorem gb_trans {a b c : World} {row : Option Nat} (h : a.grownBy b row) (k : b.grownBy c row) : a.grownBy c row :=
 ⟨k.os.trans h.os, k.tape.trans h.tape, k.output.trans h.output, Nat.le_trans h.size k.size, fun i hi hn => (k.block i (Nat.lt_of_lt_of_le hi h.size) hn).trans (h.block i hi hn)⟩
theorem gb_below {a b : World} {row : Option Nat} (h : Below a.heap.size a b) : a.grownBy b row := ⟨h.os, h.tape, h.output, h.size, fun i hi _ => h.block i hi⟩
theorem gb_alloc {a b : World} {row : Option Nat} (h : a.grownBy b row) (o : Obj) : a.grownBy (b.alloc o) row := gb_trans h (gb_below ((Below.refl _ _).alloc lr' _))
theorem gb_drewN {a b : World} {row : Option Nat} (h : a.grownBy b row) (n : Nat) : a.grownBy (b.drewN n) row := ⟨h.os, h.tape, h.output, h.size, h.block⟩
theorem gb_drew {a b : World} {row : Option Nat} (h : a.grownBy b row) : a.grownBy b.drew row := ⟨h.os, h.tape, h.output, h.size, h.block⟩
theorem gb_setCell {a b : World} {X : Nat} (h : a.grownBy b (some X)) (o : Nat) (v : Value) : a.grownBy (b.setCell ⟨X, o, none⟩ v) (some X) :=
 ⟨h.os, h.tape, h.output, by simpa [World.setCell] using h.size, fun i hi hn => (Below.heap_setCell _ _ _ _ (fun e => hn (by rw [e]))).trans (h.block i hi hn)⟩
theorem gb_to_below {a b : World} {X B : Nat} (h : a.grownBy b (some X)) (hX : B ≤ X) (hB : B ≤ a.heap.size) : Below B a b :=
 ⟨h.os, h.tape, h.output, h.size, fun k hk => h.block k (by omega) (fun e => by injection e; omega)⟩
theorem own_gb {w w' : World} {base X : Nat} {e : TypeId} {size : Nat} {v : Value} {n : Nat} {xs : List Value} (h : w.ownsRow base e size v n xs) (hg : w.grownBy w' (some X)) (hne : v.ownBlock ≠ some X) : w'.ownsRow base e size v n xs := by
 refine ⟨h.1, ?_⟩; rcases h.2 with hn | ⟨g, cap, cur, rfl, hbb, hgg, rest⟩
 · exact .inl hn
 · refine .inr ⟨g, cap, cur, rfl, hbb, ?_, rest⟩; rw [hg.block g (Array.getElem?_eq_some_iff.1 hgg).1 (by simpa [Value.ownBlock] using hne)]; exact hgg
theorem blk_set {w : World} {X : Nat} {cs : List Value} {t : TypeId} (h : w.heap[X]? = some (.cells cs.toArray t (0, 0))) (j : Nat) (v : Value) : (w.setCell ⟨X, j, none⟩ v).heap[X]? = some (.cells (cs.set j v).toArray t (0, 0)) := by
 have := heap_setCell_same w X j _ t v h; simpa using this
theorem below_dN {B : Nat} {a w : World} (h : Below B a w) (n : Nat) : Below B a (w.drewN n) := ⟨h.os, h.tape, h.output, h.size, h.block⟩
theorem own_set {w : World} {base : Nat} {e : TypeId} {size g n c : Nat} {xs : List Value} (h : w.ownsRow base e size (.slice (some ⟨g, 0, none⟩) n c) n xs) (j : Nat) (u : Value) : (w.setCell ⟨g, j, none⟩ u).ownsRow base e size (.slice (some ⟨g, 0, none⟩) n c) n (xs.set j u) := by
 refine ⟨by rw [List.length_set]; exact h.1, ?_⟩; rcases h.2 with hn | ⟨g', cap, cur, hv, hbb, hgg, hnc, hmx, hcs, htk⟩
 · cases hn.1
 · injection hv with h1 h2 h3; injection h1 with h1; injection h1 with h1; subst h1; subst h3; refine .inr ⟨g, c, cur.setIfInBounds j u, rfl, hbb, heap_setCell_same _ g _ _ _ _ hgg, hnc, hmx, by simpa using hcs, ?_⟩; rw [Array.toList_setIfInBounds, List.take_set, htk]
theorem gb_own {w w' : World} {base : Nat} {e : TypeId} {size : Nat} {v : Value} {n : Nat} {xs : List Value} {row : Option Nat} (h : w.ownsRow base e size v n xs) (hg : w.grownBy w' row) (hne : v.ownBlock = none ∨ v.ownBlock ≠ row) : w'.ownsRow base e size v n xs := by
 refine ⟨h.1, ?_⟩; rcases h.2 with hn | ⟨g, cap, cur, rfl, hbb, hgg, rest⟩
 · exact .inl hn
 · refine .inr ⟨g, cap, cur, rfl, hbb, ?_, rest⟩; rw [hg.block g (Array.getElem?_eq_some_iff.1 hgg).1 (by simpa [Value.ownBlock] using hne)]; exact hgg
theorem own_more {w : World} {b b' : Nat} {e : TypeId} {size : Nat} {v : Value} {n : Nat} {xs : List Value} (h : w.ownsRow b e size v n xs) (hb : b' ≤ b) : w.ownsRow b' e size v n xs := by
 refine ⟨h.1, ?_⟩; rcases h.2 with hn | ⟨g, cap, cur, rfl, hbb, hg, rest⟩
 · exact .inl hn
 · exact .inr ⟨g, cap, cur, rfl, by omega, hg, rest⟩
theorem own_at {w : World} {b : Nat} {e : TypeId} {size g n cap : Nat} {xs : List Value} (h : w.ownsRow b e size (.slice (some ⟨g, 0, none⟩) n cap) n xs) :
 n ≤ cap ∧ b ≤ g ∧ g < w.heap.size ∧ ∀ j u, xs[j]? = some u → w.cell? ⟨g, j, none⟩ = some u := by
 obtain ⟨_, hx | ⟨g', cap', cur, hv, hb, hg, hnc, _, _, htk⟩⟩ := h
 · cases hx.1
 · injection hv with h1 h2 h3; injection h1 with h1; injection h1 with h1; subst h1; subst h3; refine ⟨hnc, hb, (Array.getElem?_eq_some_iff.1 hg).1, fun j u hu => ?_⟩; rw [cell_of_row w g j _ _ _ hg]; rw [← htk, List.getElem?_take] at hu
   split at hu
   · simpa using hu
   · cases hu
theorem app_one {w : World} {ops : Array Oper} {rest : List Oper} {o : Oper} {a : Act} {Q : Exit → Act → World → Prop} (hgd : o.guard = none) (s x : Operand) (ST ET sz by_ : Nat) (z : Value)
 (hu : Tryz.prog.underlying ST = some (.slice ET)) (hinfo : (Tryz.prog.info? ET).map (fun i => (i.zero, i.size, i.bytes)) = some (some z, sz, by_)) (hzs : z.cells.size = sz) (hsz : 0 < sz)
 (ho : o.op = .call { callee := .builtin .append, args := #[s, x], argTypes := #[ST, ST] }) (base : Nat) (v : Value) (n : Nat) (xs : List Value) (hs : a.eval s = v) (hown : w.ownsRow base ET sz v n xs)
 (g c : Nat) (hx : a.eval x = .slice (some ⟨g, 0, none⟩) 1 c) (cs : List Value) (T : TypeId) (fr : Nat × Nat) (hb : w.heap[g]? = some (.cells cs.toArray T fr)) (hcl : cs.length = sz) (h1 : ∀ u ∈ cs, u.oneCell' = true)
 (hn : n + 1 ≤ 1000000000000) (hn2 : (n + 1) * by_ ≤ 140737488355328) (hbase : base ≤ w.heap.size) (H : Nat) (hH : w.heap.size = H)
 (h : ∀ g' cap' w', w'.ownsRow base ET sz (.slice (some ⟨g', 0, none⟩) (n + 1) cap') (n + 1) (xs ++ cs) → w.grownBy w' v.ownBlock → (v.ownBlock = some g' ∨ g' = H) → g' < w'.heap.size → wpList Tryz.prog ops Q rest (a.put o.dst (.slice (some ⟨g', 0, none⟩) (n + 1) cap')) w') : wpList Tryz.prog ops Q (o :: rest) a w := by
 obtain ⟨i0, hi, hz0, hz1, hz2⟩ := info_parts hinfo; exact wpList_append_lies w hgd s x ST ho base ET i0 z sz by_ hu hi hz0 hz1 hz2 hzs hsz v n xs hs hown ⟨g, 0, none⟩ 1 c cs hx (by omega) (by simpa using World.news_of_block hb) h1 (by decide) (by unfold maxLen; omega) hn2 hbase H hH h
theorem step_app_one {w : World} {ops : Array Oper} {o : Oper} {a : Act} {K : Act → World → Prop} {Q : Exit → Act → World → Prop} {E : Prop} (hgd : o.guard = none) (s x : Operand) (ST ET sz by_ : Nat) (z : Value)
 (hu : Tryz.prog.underlying ST = some (.slice ET)) (hinfo : (Tryz.prog.info? ET).map (fun i => (i.zero, i.size, i.bytes)) = some (some z, sz, by_)) (hzs : z.cells.size = sz) (hsz : 0 < sz)
 (ho : o.op = .call { callee := .builtin .append, args := #[s, x], argTypes := #[ST, ST] }) (base : Nat) (v : Value) (n : Nat) (xs : List Value) (hs : a.eval s = v) (hown : w.ownsRow base ET sz v n xs)
 (g c : Nat) (hx : a.eval x = .slice (some ⟨g, 0, none⟩) 1 c) (cs : List Value) (T : TypeId) (fr : Nat × Nat) (hb : w.heap[g]? = some (.cells cs.toArray T fr)) (hcl : cs.length = sz) (h1 : ∀ u ∈ cs, u.oneCell' = true)
 (hn : n + 1 ≤ 1000000000000) (hn2 : (n + 1) * by_ ≤ 140737488355328) (hbase : base ≤ w.heap.size) (H : Nat) (hH : w.heap.size = H)
 (h : ∀ g' cap' w', w'.ownsRow base ET sz (.slice (some ⟨g', 0, none⟩) (n + 1) cap') (n + 1) (xs ++ cs) → w.grownBy w' v.ownBlock → (v.ownBlock = some g' ∨ g' = H) → g' < w'.heap.size → K (a.put o.dst (.slice (some ⟨g', 0, none⟩) (n + 1) cap')) w') :
 if Region.wanted o (yielded ops a.tmps) = true then Oper.wp Tryz.prog o a w K Q else E := by
 obtain ⟨i0, hi, hz0, hz1, hz2⟩ := info_parts hinfo; exact step_append_lies w hgd s x ST ho base ET i0 z sz by_ hu hi hz0 hz1 hz2 hzs hsz v n xs hs hown ⟨g, 0, none⟩ 1 c cs hx (by omega) (by simpa using World.news_of_block hb) h1 (by decide) (by unfold maxLen; omega) hn2 hbase H hH h
def Blk (w : World) (b : Nat) (t : TypeId) (cs : List Value) : Prop := w.heap[b]? = some (.cells cs.toArray t (0, 0))
theorem Blk.lt {w : World} {b : Nat} {t : TypeId} {cs : List Value} (h : Blk w b t cs) : b < w.heap.size := (Array.getElem?_eq_some_iff.1 h).1
theorem Blk.cell {w : World} {b : Nat} {t : TypeId} {cs : List Value} (h : Blk w b t cs) (j : Nat) {v : Value} (hv : cs[j]? = some v) : w.cell? ⟨b, j, none⟩ = some v := by
 rw [cell_of_row w b j _ _ _ h]; simpa using hv
theorem Blk.free {w : World} {b : Nat} {t : TypeId} {cs : List Value} (h : Blk w b t cs) (j : Nat) : w.frozen? ⟨b, j, none⟩ = false := frozen_of_row _ _ _ _ _ h
theorem Blk.below {w w' : World} {b B : Nat} {t : TypeId} {cs : List Value} (h : Blk w b t cs) (hb : Below B w w') (hlt : b < B) : Blk w' b t cs := (hb.block b hlt).trans h
theorem Blk.keep {w w' : World} {b : Nat} {t : TypeId} {cs : List Value} (h : Blk w b t cs) (hb : Below w.heap.size w w') : Blk w' b t cs := h.below hb h.lt
theorem Blk.gb {w w' : World} {b : Nat} {row : Option Nat} {t : TypeId} {cs : List Value} (h : Blk w b t cs) (hb : w.grownBy w' row) (hne : row ≠ some b) : Blk w' b t cs := (hb.block b h.lt (fun e => hne e.symm)).trans h
theorem Blk.set {w : World} {b : Nat} {t : TypeId} {cs : List Value} (h : Blk w b t cs) (j : Nat) (v : Value) : Blk (w.setCell ⟨b, j, none⟩ v) b t (cs.set j v) := blk_set h j v
theorem Blk.set_ne {w : World} {b c : Nat} {t : TypeId} {cs : List Value} (h : Blk w b t cs) (hne : c ≠ b) (j : Nat) (v : Value) : Blk (w.setCell ⟨c, j, none⟩ v) b t cs :=
 h.gb (gb_setCell (gb_refl w (some c)) j v) (fun e => hne (by injection e))
theorem Blk.alloc {w : World} {b : Nat} {t : TypeId} {cs : List Value} (h : Blk w b t cs) (o : Obj) : Blk (w.alloc o) b t cs := h.keep ((Below.refl _ _).alloc lr' _)
theorem Blk.drewN {w : World} {b : Nat} {t : TypeId} {cs : List Value} (h : Blk w b t cs) (n : Nat) : Blk (w.drewN n) b t cs := h
theorem Blk.drew {w : World} {b : Nat} {t : TypeId} {cs : List Value} (h : Blk w b t cs) : Blk w.drew b t cs := h
theorem Blk.new (w : World) (cs : List Value) (t : TypeId) : Blk (w.alloc (.cells cs.toArray t)) w.heap.size t cs := heap_alloc_new w _
theorem Blk.new2 (w : World) (o : Obj) (cs : List Value) (t : TypeId) : Blk ((w.alloc o).alloc (.cells cs.toArray t)) (w.heap.size + 1) t cs := heap_alloc2_new w o _
end Go.Proofs.YtcdlgjhdbmmomaaGreatDoor
