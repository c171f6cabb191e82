/- Maps of the call's own from pairs of numbers to numbers, and a range over one. -/
import Derived.Test.YtcdlgjhdbmmomaaGreatDoorMapI
import Derived.WideKeyPair
import Derived.Maps.RangeWalk
namespace Go.Proofs.YtcdlgjhdbmmomaaGreatDoor
open Go.RowKit Go.Maps
theorem arrP : WideMaps.ArrKey Tryz.prog 89 3 2 := ⟨Tryz.underlying89, by kernel_rfl, by kernel_rfl, by kernel_rfl⟩
theorem keyP : Keyed Tryz.prog 89 := Keyed.of_law arrP.law
theorem typesP : ∃ m, Tryz.prog.types.size = m + 1 := ⟨Tryz.prog.types.size - 1, by kernel_rfl⟩
def pairV (x y : Int) : Value := .agg #[.int .i64 x, .int .i64 y]
def litP (x y : Int) : Lit := .string (keyBytes [.int .i64 x, .int .i64 y])
theorem keyP_of {x y : Int} (hx : N64 x) (hy : N64 y) : keyOf Tryz.prog 89 (pairV x y) = some (litP x y) :=
  WideMaps.keyOf_pair arrP Tryz.underlying3 typesP (wf64 hx) (wf64 hy)
theorem n64_wf {a : Int} (h : (Lit.int .i64 a).wf = true) : N64 a := by
  simp only [Lit.wf, decide_eq_true_eq, Bool.and_eq_true] at h
  exact h
theorem keyLits_int {P : Program} {e : TypeId} (he : P.underlying e = some (.int .i64)) {m : Nat} {c : Value} {y : List Lit} (h : P.keyLits (m + 1) e [c] = some y) : ∃ x : Int, c = .int .i64 x ∧ N64 x := by
  unfold Program.keyLits at h
  rw [he] at h
  cases c <;> simp at h
  obtain ⟨⟨rfl, h1⟩, -⟩ := h
  exact ⟨_, rfl, n64_wf h1⟩
theorem key_two {P : Program} {k e : TypeId} (A : WideMaps.ArrKey P k e 2) (he : P.underlying e = some (.int .i64)) (hsz : ∃ m, P.types.size = m + 1) {key : Value} {kl : Lit} (h : keyOf P k key = some kl) : ∃ x y : Int, N64 x ∧ N64 y ∧ key = pairV x y := by
  unfold keyOf at h
  simp only [A.hu] at h
  split at h
  · rename_i hc
    rw [Bool.and_eq_true] at hc
    obtain ⟨-, hc⟩ := hc
    obtain ⟨ls, hls, -⟩ := Option.map_eq_some_iff.1 h
    obtain ⟨m, hm⟩ := hsz
    rw [hm] at hls
    unfold Program.keyLits at hls
    simp only [A.hu] at hls
    split at hls
    · rename_i hlen
      rw [A.size] at hlen
      simp only [Option.map_eq_some_iff] at hls
      obtain ⟨ys, hy, -⟩ := hls
      rw [show List.range 2 = [0, 1] from rfl, List.mapM_cons, List.mapM_cons, List.mapM_nil] at hy
      simp only [bind, Option.bind_eq_some_iff, pure, Option.some.injEq, A.one] at hy
      obtain ⟨y0, k0, _, ⟨y1, k1, _, rfl, rfl⟩, rfl⟩ := hy
      unfold Value.formed at hc
      simp only [A.hu] at hc
      cases key <;> simp at hc
      rename_i cs
      obtain ⟨cs⟩ := cs
      match cs, hlen with
      | [c0, c1], _ =>
        obtain ⟨x, rfl, hx⟩ := keyLits_int he k0
        obtain ⟨y, rfl, hy⟩ := keyLits_int he k1
        exact ⟨x, y, hx, hy, rfl⟩
    · cases hls
  · cases h
theorem keyP_inv {key : Value} {kl : Lit} (h : keyOf Tryz.prog 89 key = some kl) : ∃ x y : Int, N64 x ∧ N64 y ∧ key = pairV x y ∧ kl = litP x y := by
  obtain ⟨x, y, hx, hy, rfl⟩ := key_two arrP Tryz.underlying3 typesP h
  rw [keyP_of hx hy] at h
  exact ⟨x, y, hx, hy, rfl, (Option.some.inj h).symm⟩
theorem litP_inj {x y x' y' : Int} (hx : N64 x) (hy : N64 y) (hx' : N64 x') (hy' : N64 y') (h : litP x y = litP x' y') : x = x' ∧ y = y' := by
  have h1 := keyP_of hx hy
  have h2 := keyP_of hx' hy'
  rw [← h] at h2
  have h3 := keyP.inj h1 h2
  unfold pairV at h3
  simp only [Value.agg.injEq, Array.mk.injEq, List.cons.injEq, Value.int.injEq, true_and, and_true] at h3
  exact h3
theorem litP_key (x y : Int) : WideAt.IsKeyLit (litP x y) := trivial
theorem litP_same {x y x' y' : Int} (hx : N64 x) (hy : N64 y) (hx' : N64 x') (hy' : N64 y') : (litP x y).sameKey (litP x' y') = (decide (x = x') && decide (y = y')) := by
  by_cases h : x = x' ∧ y = y'
  · obtain ⟨rfl, rfl⟩ := h
    rw [WideAt.sameKey_self (litP_key x y)]
    simp
  · have h2 : (litP x y).sameKey (litP x' y') = false := by
      rw [Bool.eq_false_iff]
      exact fun e => h (litP_inj hx hy hx' hy' (WideAt.sameKey_eq e))
    rw [h2, ← Bool.decide_and, decide_eq_false h]
/-- block b is a map that reads as f -/
def MapP (w : World) (b n : Nat) (f : Int → Int → Int) : Prop :=
  ∃ D : DataW Unit, w.ownsMap Tryz.prog 89 (plainElem Tryz.prog 3) b n D ∧ ∀ x y, N64 x → N64 y → D.atKey (litP x y) (.lit (.int .i64 0)) = .lit (.int .i64 (f x y))
theorem MapP.lt {w : World} {b n : Nat} {f : Int → Int → Int} (h : MapP w b n f) : b < w.heap.size := by obtain ⟨D, h, _⟩ := h; exact h.lt
theorem MapP.gb {w w' : World} {b n : Nat} {row : Option Nat} {f : Int → Int → Int} (h : MapP w b n f) (hg : w.grownBy w' row) (hne : row ≠ some b) : MapP w' b n f := by
  obtain ⟨D, h, hf⟩ := h
  exact ⟨D, h.kept hg (fun e => hne e.symm), hf⟩
theorem MapP.keep {w w' : World} {b n : Nat} {f : Int → Int → Int} (h : MapP w b n f) (hb : Below w.heap.size w w') : MapP w' b n f := h.gb (row := none) (gb_below hb) (by simp)
theorem MapP.made (w : World) : MapP (w.alloc (.map #[] 0)) w.heap.size 0 (fun _ _ => 0) :=
  ⟨.map [], World.ownsMap_made w _ _ _, fun _ _ _ _ => rfl⟩
theorem MapP.look {w : World} {b n : Nat} {f : Int → Int → Int} (h : MapP w b n f) {x y : Int} (hx : N64 x) (hy : N64 y) :
    (Instr.lookup 88 (.map (some b)) (pairV x y) false).run Tryz.prog w = .ok (.int .i64 (f x y)) w := by
  obtain ⟨D, ho, hf⟩ := h
  obtain ⟨c, hrun, hc, hwc⟩ := ho.lookup_int keyP Tryz.underlying88 Tryz.underlying3 (zeroI w) (keyP_of hx hy)
  rw [hrun]
  rw [hf x y hx hy] at hc
  simp only [DataW.lit.injEq, Lit.int.injEq, true_and] at hc
  rw [hc]
def upP (f : Int → Int → Int) (x y v : Int) : Int → Int → Int := fun u t => if u = x ∧ t = y then v else f u t
theorem MapP.update {w : World} {b n : Nat} {f : Int → Int → Int} (h : MapP w b n f) (hn : n < 1000000000000) {x y v : Int} (hx : N64 x) (hy : N64 y) (hv : N64 v) :
    ∃ w', (Instr.mapUpdate 88 (.map (some b)) (pairV x y) (.int .i64 v)).run Tryz.prog w = .ok () w' ∧ MapP w' b (n + 1) (upP f x y v) ∧ w.grownBy w' (some b) := by
  obtain ⟨D, ho, hf⟩ := h
  obtain ⟨w', hrun, ho', hg⟩ := ho.update keyP Tryz.underlying88 (by unfold maxLen; omega) (keyP_of hx hy) (plainElem_int (q := .i64) Tryz.underlying3 (wf64 hv))
  refine ⟨w', hrun, ⟨_, ho', fun u t hu ht => ?_⟩, hg⟩
  have hm := ho.isMap
  unfold upP
  by_cases e : u = x ∧ t = y
  · obtain ⟨rfl, rfl⟩ := e
    rw [if_pos ⟨rfl, rfl⟩]
    exact atKey_put_same hm (litP_key u t) _ _
  · rw [if_neg e]
    exact (atKey_put_other (fun e2 => e (litP_inj hu ht hx hy e2)) _ _).trans (hf u t hu ht)
/-- block r ranges over the map in block b, which reads as f: what is still to come -/
def RngP (w : World) (b r n cnt : Nat) (f : Int → Int → Int) (h0 left : Int → Int → Bool) : Prop :=
  ∃ (D : DataW Unit) (lf : Lit → Bool), w.ranges Tryz.prog 89 (plainElem Tryz.prog 3) b r n D lf cnt ∧
    ∀ x y, N64 x → N64 y → D.atKey (litP x y) (.lit (.int .i64 0)) = .lit (.int .i64 (f x y)) ∧ left x y = lf (litP x y) ∧ (h0 x y = false → f x y = 0) ∧ (left x y = true → h0 x y = true)
theorem RngP.left_eq {w : World} {b r n cnt : Nat} {f : Int → Int → Int} {h0 left : Int → Int → Bool} (h : RngP w b r n cnt f h0 left) : w.rangeLeft b r = cnt := by
  obtain ⟨D, lf, h, _⟩ := h
  exact h.left_eq
theorem RngP.lt {w : World} {b r n cnt : Nat} {f : Int → Int → Int} {h0 left : Int → Int → Bool} (h : RngP w b r n cnt f h0 left) : r < w.heap.size ∧ b < w.heap.size := by
  obtain ⟨D, lf, h, _⟩ := h
  exact ⟨h.lt, h.owns.lt⟩
theorem RngP.gb {w w' : World} {b r n cnt : Nat} {row : Option Nat} {f : Int → Int → Int} {h0 left : Int → Int → Bool} (h : RngP w b r n cnt f h0 left) (hg : w.grownBy w' row) (hb : row ≠ some b) (hr : row ≠ some r) : RngP w' b r n cnt f h0 left := by
  obtain ⟨D, lf, h, hf⟩ := h
  exact ⟨D, lf, h.kept hg (fun e => hb e.symm) (fun e => hr e.symm), hf⟩
theorem RngP.ne_own {w : World} {b r n cnt : Nat} {f : Int → Int → Int} {h0 left : Int → Int → Bool} (h : RngP w b r n cnt f h0 left) {B sz m : Nat} {e : TypeId} {v : Value} {xs : List Value} (ho : w.ownsRow B e sz v m xs) : v.ownBlock ≠ some b ∧ v.ownBlock ≠ some r := by
  obtain ⟨D, lf, ⟨es, clock, since, seen, c0, hb, _, _, _, hr, _⟩, _⟩ := h
  rcases ho.2 with ⟨e1, _⟩ | ⟨g, cap, cur, e1, _, hg, _⟩
  · rw [e1]
    exact ⟨by simp [Value.ownBlock], by simp [Value.ownBlock]⟩
  · rw [e1]
    refine ⟨fun e2 => ?_, fun e2 => ?_⟩
    · simp only [Value.ownBlock, Option.some.injEq] at e2
      rw [e2, hb] at hg
      cases hg
    · simp only [Value.ownBlock, Option.some.injEq] at e2
      rw [e2, hr] at hg
      cases hg
/-- one key struck off -/
def strikeP (left : Int → Int → Bool) (x y : Int) : Int → Int → Bool := fun u t => left u t && !(decide (u = x) && decide (t = y))
section
variable {w : World} {ops : Array Oper} {rest : List Oper} {o : Oper} {a : Act} {Q : Exit → Act → World → Prop}
theorem wpl_rangeP (hg : o.guard = none) (m : Operand) (hop : o.op = Op.range 88 m) (b n : Nat) (f : Int → Int → Int) (hm : a.eval m = .map (some b)) (hown : MapP w b n f)
    (hK : ∀ w' cnt h0, cnt ≤ n → RngP w' b w.heap.size n cnt f h0 h0 → w.grownBy w' none → w'.heap.size = w.heap.size + 1 → wpList Tryz.prog ops Q rest (a.put o.dst (.pointer (some ⟨w.heap.size, 0, none⟩))) w') :
    wpList Tryz.prog ops Q (o :: rest) a w := by
  obtain ⟨D, ho, hf⟩ := hown
  refine wpList_range_own _ hg m _ hop _ _ keyP Tryz.underlying88 _ b n D hm ho fun w' h1 h2 h3 => ?_
  refine hK w' _ (fun x y => Maps.has D (litP x y)) (by obtain ⟨es, ck, h5, h6, h7, h8⟩ := ho; rw [h8]; simpa [Maps.size, length_sorted] using h7) ⟨D, _, h1, fun x y hx hy => ⟨hf x y hx hy, rfl, fun h => ?_, fun h => h⟩⟩ h2 h3
  have h4 := hf x y hx hy
  rw [atKey_of_not_has h] at h4
  simp only [DataW.lit.injEq, Lit.int.injEq, true_and] at h4
  exact h4.symm
theorem wpl_nextP (hg : o.guard = none) (it : Operand) (hop : o.op = Op.next it false) (b r n cnt : Nat) (f : Int → Int → Int) (h0 left : Int → Int → Bool) (hit : a.eval it = .pointer (some ⟨r, 0, none⟩)) (h : RngP w b r n cnt f h0 left)
    (hDone : cnt = 0 → (∀ x y, N64 x → N64 y → left x y = false) → wpList Tryz.prog ops Q rest (a.put o.dst (.tuple #[.bool false])) w)
    (hMore : ∀ (x y : Int) (w' : World) (cnt' : Nat), N64 x → N64 y → N64 (f x y) → left x y = true → RngP w' b r n cnt' f h0 (strikeP left x y) → cnt' < cnt → w.grownBy w' (some r) → w'.heap.size = w.heap.size →
      (Instr.entry (.pointer (some ⟨r, 0, none⟩))).run Tryz.prog w' = .ok (.tuple #[pairV x y, .int .i64 (f x y)]) w' → wpList Tryz.prog ops Q rest (a.put o.dst (.tuple #[.bool true, pairV x y, .int .i64 (f x y)])) w') :
    wpList Tryz.prog ops Q (o :: rest) a w := by
  obtain ⟨D, lf, hr, hf⟩ := h
  refine wpList_next_ranges (α := Int × Int) (β := Int) _ hg it hop _ keyP _ (fun p => pairV p.1 p.2) (Value.int .i64) (fun key kl hk => by obtain ⟨x, y, -, -, e, -⟩ := keyP_inv hk; exact ⟨(x, y), e⟩)
    (fun v y hv => by obtain ⟨c, rfl, _⟩ := plainElem_int_inv Tryz.underlying3 hv; exact ⟨c, rfl⟩) b r n D lf cnt hit hr (fun h1 h2 => hDone h1 fun x y hx hy => (hf x y hx hy).2.1.trans (h2 _)) ?_
  rintro ⟨x, y⟩ c kl yd w' cnt' hkey hlk hv hat hrg hlt hgr hsz hen
  dsimp only at hkey hen ⊢
  obtain ⟨x', y', hx, hy, e1, e2⟩ := keyP_inv hkey
  unfold pairV at e1
  simp only [Value.agg.injEq, Array.mk.injEq, List.cons.injEq, Value.int.injEq, true_and, and_true] at e1
  obtain ⟨rfl, rfl⟩ := e1
  subst e2
  obtain ⟨c', ec, rfl, hwc⟩ := plainElem_int_inv Tryz.underlying3 hv
  cases ec
  have h4 := (hf x y hx hy).1
  rw [hat] at h4
  simp only [DataW.lit.injEq, Lit.int.injEq, true_and] at h4
  subst h4
  exact hMore x y w' cnt' hx hy (n64_wf hwc) ((hf x y hx hy).2.1.trans hlk) ⟨D, _, hrg, fun u t hu ht => ⟨(hf u t hu ht).1, by show (left u t && !(decide (u = x) && decide (t = y))) = _; rw [litP_same hu ht hx hy, (hf u t hu ht).2.1], (hf u t hu ht).2.2.1, fun h => (hf u t hu ht).2.2.2 (by have h : (left u t && !(decide (u = x) && decide (t = y))) = true := h; rw [Bool.and_eq_true] at h; exact h.1)⟩⟩ hlt hgr hsz hen
end
end Go.Proofs.YtcdlgjhdbmmomaaGreatDoor
