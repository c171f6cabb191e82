/- What tally.Map calls: Contains at ints, ContainsFunc at edges, capped, its closures, SortFunc of edges. -/
import Derived.Test.YtcdlgjhdbmmomaaGreatDoorMapI
import Derived.WideKeyPair
import Derived.Maps.RangeWalk
import Derived.Test.YtcdlgjhdbmmomaaGreatDoorTlP
import Derived.Test.YtcdlgjhdbmmomaaGreatDoorNxt
import Derived.Test.YtcdlgjhdbmmomaaGreatDoorPlc
import Derived.Test.YtcdlgjhdbmmomaaGreatDoorTlD
import Derived.Test.YtcdlgjhdbmmomaaGreatDoorShE
import Derived.Shelf.SlSortCmp.WholeK
import Derived.Shelf.SlSortCmp.NoneTotal
import Derived.Lib.OwnBridge
import Derived.Deep.DeepCutAuto
import Derived.Deep.CutBlock
import Derived.Deep.LoopGhost
import Derived.Deep.QuietTactic
import Derived.BigQuiet
import Derived.IntWalk
import Derived.WalkLawsBesides
namespace Go.Proofs.YtcdlgjhdbmmomaaGreatDoor
open Go.RowKit Go.Maps
theorem arrP : WideMaps.ArrKey Tryz.prog 89 3 2 := ⟨Tryz.underlying89, by kernel_rfl, by kernel_rfl, by kernel_rfl⟩
theorem keyP : Keyed Tryz.prog 89 := Keyed.of_law arrP.law
theorem typesP : ∃ m, Tryz.prog.types.size = m + 1 := ⟨Tryz.prog.types.size - 1, by kernel_rfl⟩
def pairV (x y : Int) : Value := .agg #[.int .i64 x, .int .i64 y]
def litP (x y : Int) : Lit := .string (keyBytes [.int .i64 x, .int .i64 y])
theorem keyP_of {x y : Int} (hx : N64 x) (hy : N64 y) : keyOf Tryz.prog 89 (pairV x y) = some (litP x y) :=
  WideMaps.keyOf_pair arrP Tryz.underlying3 typesP (wf64 hx) (wf64 hy)
theorem n64_wf {a : Int} (h : (Lit.int .i64 a).wf = true) : N64 a := by
  simp only [Lit.wf, decide_eq_true_eq, Bool.and_eq_true] at h
  exact h
theorem keyLits_int {P : Program} {e : TypeId} (he : P.underlying e = some (.int .i64)) {m : Nat} {c : Value} {y : List Lit} (h : P.keyLits (m + 1) e [c] = some y) : ∃ x : Int, c = .int .i64 x ∧ N64 x := by
  unfold Program.keyLits at h
  rw [he] at h
  cases c <;> simp at h
  obtain ⟨⟨rfl, h1⟩, -⟩ := h
  exact ⟨_, rfl, n64_wf h1⟩
theorem key_two {P : Program} {k e : TypeId} (A : WideMaps.ArrKey P k e 2) (he : P.underlying e = some (.int .i64)) (hsz : ∃ m, P.types.size = m + 1) {key : Value} {kl : Lit} (h : keyOf P k key = some kl) : ∃ x y : Int, N64 x ∧ N64 y ∧ key = pairV x y := by
  unfold keyOf at h
  simp only [A.hu] at h
  split at h
  · rename_i hc
    rw [Bool.and_eq_true] at hc
    obtain ⟨-, hc⟩ := hc
    obtain ⟨ls, hls, -⟩ := Option.map_eq_some_iff.1 h
    obtain ⟨m, hm⟩ := hsz
    rw [hm] at hls
    unfold Program.keyLits at hls
    simp only [A.hu] at hls
    split at hls
    · rename_i hlen
      rw [A.size] at hlen
      simp only [Option.map_eq_some_iff] at hls
      obtain ⟨ys, hy, -⟩ := hls
      rw [show List.range 2 = [0, 1] from rfl, List.mapM_cons, List.mapM_cons, List.mapM_nil] at hy
      simp only [bind, Option.bind_eq_some_iff, pure, Option.some.injEq, A.one] at hy
      obtain ⟨y0, k0, _, ⟨y1, k1, _, rfl, rfl⟩, rfl⟩ := hy
      unfold Value.formed at hc
      simp only [A.hu] at hc
      cases key <;> simp at hc
      rename_i cs
      obtain ⟨cs⟩ := cs
      match cs, hlen with
      | [c0, c1], _ =>
        obtain ⟨x, rfl, hx⟩ := keyLits_int he k0
        obtain ⟨y, rfl, hy⟩ := keyLits_int he k1
        exact ⟨x, y, hx, hy, rfl⟩
    · cases hls
  · cases h
theorem keyP_inv {key : Value} {kl : Lit} (h : keyOf Tryz.prog 89 key = some kl) : ∃ x y : Int, N64 x ∧ N64 y ∧ key = pairV x y ∧ kl = litP x y := by
  obtain ⟨x, y, hx, hy, rfl⟩ := key_two arrP Tryz.underlying3 typesP h
  rw [keyP_of hx hy] at h
  exact ⟨x, y, hx, hy, rfl, (Option.some.inj h).symm⟩
theorem litP_inj {x y x' y' : Int} (hx : N64 x) (hy : N64 y) (hx' : N64 x') (hy' : N64 y') (h : litP x y = litP x' y') : x = x' ∧ y = y' := by
  have h1 := keyP_of hx hy
  have h2 := keyP_of hx' hy'
  rw [← h] at h2
  have h3 := keyP.inj h1 h2
  unfold pairV at h3
  simp only [Value.agg.injEq, Array.mk.injEq, List.cons.injEq, Value.int.injEq, true_and, and_true] at h3
  exact h3
theorem litP_key (x y : Int) : WideAt.IsKeyLit (litP x y) := trivial
theorem litP_same {x y x' y' : Int} (hx : N64 x) (hy : N64 y) (hx' : N64 x') (hy' : N64 y') : (litP x y).sameKey (litP x' y') = (decide (x = x') && decide (y = y')) := by
  by_cases h : x = x' ∧ y = y'
  · obtain ⟨rfl, rfl⟩ := h
    rw [WideAt.sameKey_self (litP_key x y)]
    simp
  · have h2 : (litP x y).sameKey (litP x' y') = false := by
      rw [Bool.eq_false_iff]
      exact fun e => h (litP_inj hx hy hx' hy' (WideAt.sameKey_eq e))
    rw [h2, ← Bool.decide_and, decide_eq_false h]
/-- block b is a map that reads as f -/
def MapP (w : World) (b n : Nat) (f : Int → Int → Int) : Prop :=
  ∃ D : DataW Unit, w.ownsMap Tryz.prog 89 (plainElem Tryz.prog 3) b n D ∧ ∀ x y, N64 x → N64 y → D.atKey (litP x y) (.lit (.int .i64 0)) = .lit (.int .i64 (f x y))
theorem MapP.lt {w : World} {b n : Nat} {f : Int → Int → Int} (h : MapP w b n f) : b < w.heap.size := by obtain ⟨D, h, _⟩ := h; exact h.lt
theorem MapP.gb {w w' : World} {b n : Nat} {row : Option Nat} {f : Int → Int → Int} (h : MapP w b n f) (hg : w.grownBy w' row) (hne : row ≠ some b) : MapP w' b n f := by
  obtain ⟨D, h, hf⟩ := h
  exact ⟨D, h.kept hg (fun e => hne e.symm), hf⟩
theorem MapP.keep {w w' : World} {b n : Nat} {f : Int → Int → Int} (h : MapP w b n f) (hb : Below w.heap.size w w') : MapP w' b n f := h.gb (row := none) (gb_below hb) (by simp)
theorem MapP.made (w : World) : MapP (w.alloc (.map #[] 0)) w.heap.size 0 (fun _ _ => 0) :=
  ⟨.map [], World.ownsMap_made w _ _ _, fun _ _ _ _ => rfl⟩
theorem MapP.look {w : World} {b n : Nat} {f : Int → Int → Int} (h : MapP w b n f) {x y : Int} (hx : N64 x) (hy : N64 y) :
    (Instr.lookup 88 (.map (some b)) (pairV x y) false).run Tryz.prog w = .ok (.int .i64 (f x y)) w := by
  obtain ⟨D, ho, hf⟩ := h
  obtain ⟨c, hrun, hc, hwc⟩ := ho.lookup_int keyP Tryz.underlying88 Tryz.underlying3 (zeroI w) (keyP_of hx hy)
  rw [hrun]
  rw [hf x y hx hy] at hc
  simp only [DataW.lit.injEq, Lit.int.injEq, true_and] at hc
  rw [hc]
def upP (f : Int → Int → Int) (x y v : Int) : Int → Int → Int := fun u t => if u = x ∧ t = y then v else f u t
theorem MapP.update {w : World} {b n : Nat} {f : Int → Int → Int} (h : MapP w b n f) (hn : n < 1000000000000) {x y v : Int} (hx : N64 x) (hy : N64 y) (hv : N64 v) :
    ∃ w', (Instr.mapUpdate 88 (.map (some b)) (pairV x y) (.int .i64 v)).run Tryz.prog w = .ok () w' ∧ MapP w' b (n + 1) (upP f x y v) ∧ w.grownBy w' (some b) := by
  obtain ⟨D, ho, hf⟩ := h
  obtain ⟨w', hrun, ho', hg⟩ := ho.update keyP Tryz.underlying88 (by unfold maxLen; omega) (keyP_of hx hy) (plainElem_int (q := .i64) Tryz.underlying3 (wf64 hv))
  refine ⟨w', hrun, ⟨_, ho', fun u t hu ht => ?_⟩, hg⟩
  have hm := ho.isMap
  unfold upP
  by_cases e : u = x ∧ t = y
  · obtain ⟨rfl, rfl⟩ := e
    rw [if_pos ⟨rfl, rfl⟩]
    exact atKey_put_same hm (litP_key u t) _ _
  · rw [if_neg e]
    exact (atKey_put_other (fun e2 => e (litP_inj hu ht hx hy e2)) _ _).trans (hf u t hu ht)
/-- block r ranges over the map in block b, which reads as f: what is still to come -/
def RngP (w : World) (b r n cnt : Nat) (f : Int → Int → Int) (h0 left : Int → Int → Bool) : Prop :=
  ∃ (D : DataW Unit) (lf : Lit → Bool), w.ranges Tryz.prog 89 (plainElem Tryz.prog 3) b r n D lf cnt ∧
    ∀ x y, N64 x → N64 y → D.atKey (litP x y) (.lit (.int .i64 0)) = .lit (.int .i64 (f x y)) ∧ left x y = lf (litP x y) ∧ (h0 x y = false → f x y = 0) ∧ (left x y = true → h0 x y = true)
theorem RngP.left_eq {w : World} {b r n cnt : Nat} {f : Int → Int → Int} {h0 left : Int → Int → Bool} (h : RngP w b r n cnt f h0 left) : w.rangeLeft b r = cnt := by
  obtain ⟨D, lf, h, _⟩ := h
  exact h.left_eq
theorem RngP.lt {w : World} {b r n cnt : Nat} {f : Int → Int → Int} {h0 left : Int → Int → Bool} (h : RngP w b r n cnt f h0 left) : r < w.heap.size ∧ b < w.heap.size := by
  obtain ⟨D, lf, h, _⟩ := h
  exact ⟨h.lt, h.owns.lt⟩
theorem RngP.gb {w w' : World} {b r n cnt : Nat} {row : Option Nat} {f : Int → Int → Int} {h0 left : Int → Int → Bool} (h : RngP w b r n cnt f h0 left) (hg : w.grownBy w' row) (hb : row ≠ some b) (hr : row ≠ some r) : RngP w' b r n cnt f h0 left := by
  obtain ⟨D, lf, h, hf⟩ := h
  exact ⟨D, lf, h.kept hg (fun e => hb e.symm) (fun e => hr e.symm), hf⟩
theorem RngP.ne_own {w : World} {b r n cnt : Nat} {f : Int → Int → Int} {h0 left : Int → Int → Bool} (h : RngP w b r n cnt f h0 left) {B sz m : Nat} {e : TypeId} {v : Value} {xs : List Value} (ho : w.ownsRow B e sz v m xs) : v.ownBlock ≠ some b ∧ v.ownBlock ≠ some r := by
  obtain ⟨D, lf, ⟨es, clock, since, seen, c0, hb, _, _, _, hr, _⟩, _⟩ := h
  rcases ho.2 with ⟨e1, _⟩ | ⟨g, cap, cur, e1, _, hg, _⟩
  · rw [e1]
    exact ⟨by simp [Value.ownBlock], by simp [Value.ownBlock]⟩
  · rw [e1]
    refine ⟨fun e2 => ?_, fun e2 => ?_⟩
    · simp only [Value.ownBlock, Option.some.injEq] at e2
      rw [e2, hb] at hg
      cases hg
    · simp only [Value.ownBlock, Option.some.injEq] at e2
      rw [e2, hr] at hg
      cases hg
/-- one key struck off -/
def strikeP (left : Int → Int → Bool) (x y : Int) : Int → Int → Bool := fun u t => left u t && !(decide (u = x) && decide (t = y))
section
variable {w : World} {ops : Array Oper} {rest : List Oper} {o : Oper} {a : Act} {Q : Exit → Act → World → Prop}
theorem wpl_rangeP (hg : o.guard = none) (m : Operand) (hop : o.op = Op.range 88 m) (b n : Nat) (f : Int → Int → Int) (hm : a.eval m = .map (some b)) (hown : MapP w b n f)
    (hK : ∀ w' cnt h0, cnt ≤ n → RngP w' b w.heap.size n cnt f h0 h0 → w.grownBy w' none → w'.heap.size = w.heap.size + 1 → wpList Tryz.prog ops Q rest (a.put o.dst (.pointer (some ⟨w.heap.size, 0, none⟩))) w') :
    wpList Tryz.prog ops Q (o :: rest) a w := by
  obtain ⟨D, ho, hf⟩ := hown
  refine wpList_range_own _ hg m _ hop _ _ keyP Tryz.underlying88 _ b n D hm ho fun w' h1 h2 h3 => ?_
  refine hK w' _ (fun x y => Maps.has D (litP x y)) (by obtain ⟨es, ck, h5, h6, h7, h8⟩ := ho; rw [h8]; simpa [Maps.size, length_sorted] using h7) ⟨D, _, h1, fun x y hx hy => ⟨hf x y hx hy, rfl, fun h => ?_, fun h => h⟩⟩ h2 h3
  have h4 := hf x y hx hy
  rw [atKey_of_not_has h] at h4
  simp only [DataW.lit.injEq, Lit.int.injEq, true_and] at h4
  exact h4.symm
theorem wpl_nextP (hg : o.guard = none) (it : Operand) (hop : o.op = Op.next it false) (b r n cnt : Nat) (f : Int → Int → Int) (h0 left : Int → Int → Bool) (hit : a.eval it = .pointer (some ⟨r, 0, none⟩)) (h : RngP w b r n cnt f h0 left)
    (hDone : cnt = 0 → (∀ x y, N64 x → N64 y → left x y = false) → wpList Tryz.prog ops Q rest (a.put o.dst (.tuple #[.bool false])) w)
    (hMore : ∀ (x y : Int) (w' : World) (cnt' : Nat), N64 x → N64 y → N64 (f x y) → left x y = true → RngP w' b r n cnt' f h0 (strikeP left x y) → cnt' < cnt → w.grownBy w' (some r) → w'.heap.size = w.heap.size →
      (Instr.entry (.pointer (some ⟨r, 0, none⟩))).run Tryz.prog w' = .ok (.tuple #[pairV x y, .int .i64 (f x y)]) w' → wpList Tryz.prog ops Q rest (a.put o.dst (.tuple #[.bool true, pairV x y, .int .i64 (f x y)])) w') :
    wpList Tryz.prog ops Q (o :: rest) a w := by
  obtain ⟨D, lf, hr, hf⟩ := h
  refine wpList_next_ranges (α := Int × Int) (β := Int) _ hg it hop _ keyP _ (fun p => pairV p.1 p.2) (Value.int .i64) (fun key kl hk => by obtain ⟨x, y, -, -, e, -⟩ := keyP_inv hk; exact ⟨(x, y), e⟩)
    (fun v y hv => by obtain ⟨c, rfl, _⟩ := plainElem_int_inv Tryz.underlying3 hv; exact ⟨c, rfl⟩) b r n D lf cnt hit hr (fun h1 h2 => hDone h1 fun x y hx hy => (hf x y hx hy).2.1.trans (h2 _)) ?_
  rintro ⟨x, y⟩ c kl yd w' cnt' hkey hlk hv hat hrg hlt hgr hsz hen
  dsimp only at hkey hen ⊢
  obtain ⟨x', y', hx, hy, e1, e2⟩ := keyP_inv hkey
  unfold pairV at e1
  simp only [Value.agg.injEq, Array.mk.injEq, List.cons.injEq, Value.int.injEq, true_and, and_true] at e1
  obtain ⟨rfl, rfl⟩ := e1
  subst e2
  obtain ⟨c', ec, rfl, hwc⟩ := plainElem_int_inv Tryz.underlying3 hv
  cases ec
  have h4 := (hf x y hx hy).1
  rw [hat] at h4
  simp only [DataW.lit.injEq, Lit.int.injEq, true_and] at h4
  subst h4
  exact hMore x y w' cnt' hx hy (n64_wf hwc) ((hf x y hx hy).2.1.trans hlk) ⟨D, _, hrg, fun u t hu ht => ⟨(hf u t hu ht).1, by show (left u t && !(decide (u = x) && decide (t = y))) = _; rw [litP_same hu ht hx hy, (hf u t hu ht).2.1], (hf u t hu ht).2.2.1, fun h => (hf u t hu ht).2.2.2 (by have h : (left u t && !(decide (u = x) && decide (t = y))) = true := h; rw [Bool.and_eq_true] at h; exact h.1)⟩⟩ hlt hgr hsz hen
end
end Go.Proofs.YtcdlgjhdbmmomaaGreatDoor
namespace Go.Proofs.YtcdlgjhdbmmomaaGreatDoor
open Go.RowKit
/-- where the addresses at which blocks end lead, by the first blocks -/
def fromS (bs : List BlkD) : Nat → Int → Option Int
  | 0 => fun _ => none
  | k + 1 => if (bs.getD k blkZ).ats.length = 0 then fromS bs k else upF (fromS bs k) ((bs.getD k blkZ).ats.getD ((bs.getD k blkZ).ats.length - 1) 0) (some (k : Int))
/-- where the addresses at which blocks begin lead, by the first blocks -/
def toS (bs : List BlkD) : Nat → Int → Option Int
  | 0 => fun _ => none
  | k + 1 => upF (toS bs k) (bs.getD k blkZ).start (some (k : Int))
theorem fromS_bd {bs : List BlkD} : ∀ {k : Nat} {a x : Int}, fromS bs k a = some x → 0 ≤ x ∧ x < k
  | 0, a, x, h => by cases h
  | k + 1, a, x, h => by
    unfold fromS at h
    split at h
    · have := fromS_bd h
      omega
    · unfold upF at h
      split at h
      · injection h with h
        omega
      · have := fromS_bd h
        omega
theorem toS_bd {bs : List BlkD} : ∀ {k : Nat} {a x : Int}, toS bs k a = some x → 0 ≤ x ∧ x < k
  | 0, a, x, h => by cases h
  | k + 1, a, x, h => by
    unfold toS upF at h
    split at h
    · injection h with h
      omega
    · have := toS_bd h
      omega
/-- the blocks between which an edge leads -/
def keyO (d : FlowD) : Option Int → Option Int → Option (Int × Int)
  | some x, some y => if y ∈ nextsL d (d.blocks.getD x.toNat blkZ) then some (x, y) else none
  | _, _ => none
def keyE (d : FlowD) (e : EdgE) : Option (Int × Int) := keyO d (fromS d.blocks d.blocks.length e.a) (toS d.blocks d.blocks.length e.b)
theorem keyE_bd {d : FlowD} {e : EdgE} {x y : Int} (h : keyE d e = some (x, y)) : 0 ≤ x ∧ x < d.blocks.length ∧ 0 ≤ y ∧ y < d.blocks.length ∧ y ∈ nextsL d (d.blocks.getD x.toNat blkZ) := by
  unfold keyE keyO at h
  split at h
  · rename_i x0 y0 h1 h2
    split at h
    · rename_i h3
      injection h with h
      injection h with e1 e2
      subst e1; subst e2
      have := fromS_bd h1
      have := toS_bd h2
      exact ⟨by omega, by omega, by omega, by omega, h3⟩
    · cases h
  · cases h
def capI (a b : Int) : Int := min (a + b) 1073741824
def edZ : EdgE := ⟨0, 0, 0⟩
/-- how often each way is gone, by the first edges -/
def cntS (d : FlowD) (l : List EdgE) : Nat → Int → Int → Int
  | 0 => fun _ _ => 0
  | k + 1 => fun x y => if keyE d (l.getD k edZ) = some (x, y) then capI (cntS d l k x y) (l.getD k edZ).c else cntS d l k x y
theorem cntS_bd {d : FlowD} {l : List EdgE} (h : ∀ e ∈ l, 0 ≤ e.c ∧ e.c ≤ 1073741824) (x y : Int) : ∀ k : Nat, 0 ≤ cntS d l k x y ∧ cntS d l k x y ≤ 1073741824
  | 0 => ⟨Int.le_refl _, by show (0 : Int) ≤ _; omega⟩
  | k + 1 => by
    have ih := cntS_bd (d := d) h x y k
    have hc : 0 ≤ (l.getD k edZ).c ∧ (l.getD k edZ).c ≤ 1073741824 := by
      rw [List.getD_eq_getElem?_getD]
      rcases hg : l[k]? with _ | e
      · exact ⟨Int.le_refl _, by show (0 : Int) ≤ _; omega⟩
      · exact h e (List.mem_of_getElem? hg)
    unfold cntS
    split
    · unfold capI
      omega
    · exact ih
theorem cntS_key {d : FlowD} {l : List EdgE} {x y : Int} : ∀ {k : Nat}, cntS d l k x y ≠ 0 → ∃ e : EdgE, keyE d e = some (x, y)
  | 0, h => absurd rfl h
  | k + 1, h => by
    unfold cntS at h
    split at h
    · rename_i h1
      exact ⟨_, h1⟩
    · exact cntS_key h
theorem cntS_next {d : FlowD} {l : List EdgE} {x y : Int} {k : Nat} (h : cntS d l k x y ≠ 0) : 0 ≤ x ∧ x < d.blocks.length ∧ 0 ≤ y ∧ y < d.blocks.length ∧ y ∈ nextsL d (d.blocks.getD x.toNat blkZ) := by
  obtain ⟨e, he⟩ := cntS_key h
  exact keyE_bd he
/-- the ways that are gone, by their places -/
def outL (N : Nat) (g : Int → Int → Int) : List EdgD :=
  (List.range N).flatMap fun x : Nat => (List.range N).filterMap fun y : Nat => if 0 < g x y then some ⟨(x : Int), (y : Int), g x y⟩ else none
def mapL (d : FlowD) (l : List EdgE) : List EdgD := outL d.blocks.length (cntS d l l.length)
def ltE (a b : EdgD) : Prop := a.f < b.f ∨ a.f = b.f ∧ a.t < b.t
theorem outL_mem {N : Nat} {g : Int → Int → Int} {e : EdgD} : e ∈ outL N g ↔ 0 ≤ e.f ∧ e.f < N ∧ 0 ≤ e.t ∧ e.t < N ∧ 0 < g e.f e.t ∧ e.c = g e.f e.t := by
  unfold outL
  rw [List.mem_flatMap]
  constructor
  · rintro ⟨x, hx, h⟩
    rw [List.mem_filterMap] at h
    obtain ⟨y, hy, h⟩ := h
    rw [List.mem_range] at hx hy
    split at h
    · rename_i h1
      injection h with h
      subst h
      exact ⟨by show (0 : Int) ≤ x; omega, by show (x : Int) < N; omega, by show (0 : Int) ≤ y; omega, by show (y : Int) < N; omega, h1, rfl⟩
    · cases h
  · obtain ⟨f, t, c⟩ := e
    rintro ⟨h1, h2, h3, h4, h5, h6⟩
    dsimp only at *
    obtain ⟨x, rfl⟩ := Int.eq_ofNat_of_zero_le h1
    obtain ⟨y, rfl⟩ := Int.eq_ofNat_of_zero_le h3
    refine ⟨x, List.mem_range.2 (by omega), List.mem_filterMap.2 ⟨y, List.mem_range.2 (by omega), ?_⟩⟩
    rw [if_pos h5, h6]
theorem outL_sorted (N : Nat) (g : Int → Int → Int) : (outL N g).Pairwise ltE := by
  unfold outL
  rw [List.pairwise_flatMap]
  refine ⟨fun x _ => ?_, ?_⟩
  · rw [List.pairwise_filterMap]
    refine List.Pairwise.imp ?_ List.pairwise_lt_range
    intro a b hab u hu v hv
    split at hu
    · split at hv
      · injection hu with hu
        injection hv with hv
        subst hu; subst hv
        exact .inr ⟨rfl, by show (a : Int) < b; omega⟩
      · cases hv
    · cases hu
  · refine List.Pairwise.imp ?_ List.pairwise_lt_range
    intro a b hab u hu v hv
    rw [List.mem_filterMap] at hu hv
    obtain ⟨y, -, hu⟩ := hu
    obtain ⟨z, -, hv⟩ := hv
    split at hu
    · split at hv
      · injection hu with hu
        injection hv with hv
        subst hu; subst hv
        exact .inl (by show (a : Int) < b; omega)
      · cases hv
    · cases hu
theorem ltE_irrefl (a : EdgD) : ¬ ltE a a := by unfold ltE; omega
theorem pairwise_nodup {L : List EdgD} (h : L.Pairwise ltE) : L.Nodup := h.imp fun {a b} hab e => by
  subst e
  exact ltE_irrefl _ hab
/-- a row of all the ways that are gone, each once, by their places, is that one -/
theorem out_eq {N : Nat} {g : Int → Int → Int} {L : List EdgD} (hn : L.Nodup) (hm : ∀ e : EdgD, e ∈ L ↔ 0 < g e.f e.t ∧ e.c = g e.f e.t)
    (hr : ∀ x y, g x y ≠ 0 → 0 ≤ x ∧ x < N ∧ 0 ≤ y ∧ y < N) (hs : L.Pairwise fun a b => ¬ ltE b a) : L = outL N g := by
  have hp : L.Perm (outL N g) := (List.perm_ext_iff_of_nodup hn (pairwise_nodup (outL_sorted N g))).2 fun e => by
    rw [hm, outL_mem]
    constructor
    · rintro ⟨h1, h2⟩
      obtain ⟨k1, k2, k3, k4⟩ := hr e.f e.t (by omega)
      exact ⟨k1, k2, k3, k4, h1, h2⟩
    · rintro ⟨-, -, -, -, h1, h2⟩
      exact ⟨h1, h2⟩
  refine hp.eq_of_pairwise ?_ hs ((outL_sorted N g).imp fun h1 h2 => by unfold ltE at *; omega)
  rintro ⟨f, t, c⟩ ⟨f', t', c'⟩ ha hb h1 h2
  obtain ⟨-, k2⟩ := (hm _).1 ha
  obtain ⟨-, -, -, -, -, k4⟩ := outL_mem.1 hb
  unfold ltE at h1 h2
  dsimp only at *
  have e1 : f = f' := by omega
  subst e1
  have e2 : t = t' := by omega
  subst e2
  rw [k2, k4]
theorem mapL_mem {d : FlowD} {l : List EdgE} {e : EdgD} (h : e ∈ mapL d l) : 0 ≤ e.f ∧ e.f < d.blocks.length ∧ 0 ≤ e.t ∧ e.t < d.blocks.length ∧ 0 < e.c ∧ e.t ∈ nextsL d (d.blocks.getD e.f.toNat blkZ) := by
  obtain ⟨h1, h2, h3, h4, h5, h6⟩ := outL_mem.1 h
  obtain ⟨-, -, -, -, k5⟩ := cntS_next (show cntS d l l.length e.f e.t ≠ 0 by omega)
  exact ⟨h1, h2, h3, h4, by omega, k5⟩
theorem mapL_le {d : FlowD} {l : List EdgE} (hl : ∀ e ∈ l, 0 ≤ e.c ∧ e.c ≤ 1073741824) {e : EdgD} (h : e ∈ mapL d l) : e.c ≤ 1073741824 := by
  obtain ⟨-, -, -, -, -, h6⟩ := outL_mem.1 h
  have := (cntS_bd (d := d) hl e.f e.t l.length).2
  omega
/-- CheckEdges finds nothing wrong with a row that is by its places -/
theorem edgGo_ok {n : Int} : ∀ (l : List EdgD) (p : Option EdgD), (∀ e ∈ l, ¬ EdgBad n e) → l.Pairwise ltE → (∀ q, p = some q → ∀ e ∈ l, ltE q e) → edgGo n p l = 0
  | [], _, _, _, _ => by unfold edgGo; rfl
  | e :: r, p, hb, hs, hp => by
    unfold edgGo
    rw [if_neg (hb e (by simp)), if_neg ?_]
    · exact edgGo_ok r (some e) (fun x hx => hb x (by simp [hx])) (List.pairwise_cons.1 hs).2 (fun q hq x hx => by injection hq with hq; subst hq; exact (List.pairwise_cons.1 hs).1 x hx)
    · cases p with
      | none => exact id
      | some q =>
        have := hp q rfl e (by simp)
        unfold ltE at this
        show ¬ (e.f < q.f ∨ q.f = e.f ∧ e.t ≤ q.t)
        omega
theorem mapL_check {d : FlowD} {l : List EdgE} (hl : ∀ e ∈ l, 0 ≤ e.c ∧ e.c ≤ 1073741824) : edgGo d.blocks.length none (mapL d l) = 0 := by
  refine edgGo_ok _ _ (fun e he => ?_) (outL_sorted _ _) (fun q hq => by cases hq)
  have h1 := mapL_mem he
  have h2 := mapL_le hl he
  unfold EdgBad
  omega
theorem mapL_one {N : Nat} (g : Int → Int → Int) : (outL N g).length ≤ N * N := by
  unfold outL
  have h : ∀ (L : List Nat) (F : Nat → List EdgD), (∀ x, (F x).length ≤ N) → (L.flatMap F).length ≤ L.length * N := by
    intro L F hF
    induction L with
    | nil => simp
    | cons a r ih =>
      rw [List.flatMap_cons, List.length_append, List.length_cons, Nat.succ_mul]
      have := hF a
      omega
  have h2 := h (List.range N) (fun x : Nat => (List.range N).filterMap fun y : Nat => if 0 < g x y then some ⟨(x : Int), (y : Int), g x y⟩ else none) (fun x => Nat.le_trans (List.length_filterMap_le _ _) (by simp))
  simpa using h2
end Go.Proofs.YtcdlgjhdbmmomaaGreatDoor
namespace Go.Proofs.YtcdlgjhdbmmomaaGreatDoor
open Go.RowKit Go.Deep
theorem edL_atM : ∀ (L : List EdgE) (k : Nat) (e : EdgE), L[k]? = some e → (edL L)[k * 3]? = some (.int .i64 e.a) ∧ (edL L)[k * 3 + 1]? = some (.int .i64 e.b) ∧ (edL L)[k * 3 + 2]? = some (.int .i64 e.c)
  | [], k, e, h => by simp at h
  | x :: r, 0, e, h => by
    simp only [List.getElem?_cons_zero, Option.some.injEq] at h
    subst h
    exact ⟨rfl, rfl, rfl⟩
  | x :: r, k + 1, e, h => by
    obtain ⟨h1, h2, h3⟩ := edL_atM r k e (by simpa using h)
    have e0 : edL (x :: r) = edC x ++ edL r := rfl
    have gen : ∀ q, (edL (x :: r))[(k + 1) * 3 + q]? = (edL r)[k * 3 + q]? := fun q => by
      rw [e0, List.getElem?_append_right (by show 3 ≤ _; omega)]
      congr 1
      show (k + 1) * 3 + q - 3 = _
      omega
    exact ⟨(gen 0).trans h1, (gen 1).trans h2, (gen 2).trans h3⟩
theorem ed_at3M {w : World} {B : Nat} {A : Option Addr} {L : List EdgE} (h : RdG w B A (edL L)) {k : Nat} {e : EdgE} (hx : L[k]? = some e) : ∃ b o, A = some ⟨b, o, none⟩ ∧ b < B ∧ w.cell? ⟨b, o + k * 3, none⟩ = some (.int .i64 e.a) ∧ w.cell? ⟨b, o + k * 3 + 1, none⟩ = some (.int .i64 e.b) ∧ w.cell? ⟨b, o + k * 3 + 2, none⟩ = some (.int .i64 e.c) := by
  obtain ⟨g0, g1, g2⟩ := edL_atM L k e hx
  obtain ⟨b, o, e1, hb, hc⟩ := h (by intro e1; rw [e1] at g0; simp at g0)
  exact ⟨b, o, e1, hb, hc _ _ g0, by rw [Nat.add_assoc]; exact hc _ _ g1, by rw [Nat.add_assoc]; exact hc _ _ g2⟩
theorem own_rd3M {w : World} {base : Nat} {e : TypeId} {size n c : Nat} {A : Option Addr} {xs : List Value} (h : w.ownsRow base e size (.slice A n c) n xs) : RdG w w.heap.size A xs := by
  intro hn
  rcases h.2 with ⟨e1, -⟩ | ⟨g, cap, cur, e1, -⟩
  · injection e1 with _ e2 _
    exfalso
    apply hn
    apply List.eq_nil_of_length_eq_zero
    rw [h.1, e2, Nat.zero_mul]
  · injection e1 with e2 _ _
    subst e2
    obtain ⟨o1, o2, o3, o4⟩ := own_at h
    exact ⟨g, 0, rfl, o3, fun j u hu => by rw [Nat.zero_add]; exact o4 j u hu⟩
theorem index_any (L : List Int) (v : Int) (A : Option Addr) (len cap : Nat) (w : World) (hR : RdG w w.heap.size A (intsV .i64 L)) (hl : len = L.length) (hm : len ≤ 140737488355328) :
    Calls Tryz.prog 28 #[.slice A len cap, .int .i64 v] w fun e w' => e = .returned (.int .i64 (idxP (fun x => decide (v = x)) L)) ∧ w = w' := by
  have HR := Lib.hid hR
  have HL := Lib.hid hl
  clear hR hl
  go_enter Tryz.func28, Tryz.ntmps28
  go_wp2
  go_loop [8] (fun i => ∃ k : Nat, k ≤ len ∧ i = .int .i64 k ∧ Hid (∀ (j : Nat) (y : Int), j < k → L[j]? = some y → decide (v = y) = false)) (fun i => len - (intOf i).toNat)
  case atStart => exact ⟨0, Nat.zero_le _, rfl, fun j y h => absurd h (Nat.not_lt_zero _)⟩
  case round =>
    obtain ⟨k, hk, rfl, hno⟩ := hrel
    by_cases hlt : k < len
    · have hx : L[k]? = some (L[k]'(by have := HL.out; omega)) := List.getElem?_eq_getElem _
      obtain ⟨x, hxx⟩ : ∃ x, L[k]'(by have := HL.out; omega) = x := ⟨_, rfl⟩
      rw [hxx] at hx
      obtain ⟨b, o, rfl, hb, hc⟩ := HR.out.at (intsV_at .i64 hx)
      have HX := Lib.hid hx
      clear hx hxx
      by_cases hpp : v = x
      · have hres := idxP_at (fun x => decide (v = x)) L k x HX.out (by simpa using hpp) hno.out
        have HRS := Lib.hid hres
        clear hres
        subst hpp
        go_wp2
        go_ret
        exact ⟨by rw [HRS.out]; rfl, rfl⟩
      · have HPP := Lib.hid (show decide (v = x) = false by simpa using hpp)
        have hpq : (v == x) = false := by simpa using hpp
        go_wp2
        go_round
        case rel =>
          refine ⟨k + 1, by omega, by go_num, fun j y hj hy => ?_⟩
          rcases Nat.lt_or_ge j k with h | h
          · exact hno.out j y h hy
          · obtain rfl : j = k := by omega
            have := HX.out
            rw [this] at hy
            cases hy
            exact HPP.out
        case measure => simp [intOf]; omega
    · obtain rfl : k = len := by omega
      have hres := idxP_none (fun x => decide (v = x)) L fun x hx => by
        obtain ⟨j, hj⟩ := List.getElem?_of_mem hx
        exact hno.out j x (by have := (List.getElem?_eq_some_iff.1 hj).1; have := HL.out; omega) hj
      have HRS := Lib.hid hres
      clear hres hlt
      go_wp2
      go_ret
      exact ⟨by rw [HRS.out]; rfl, rfl⟩
theorem contains_any (L : List Int) (v : Int) (A : Option Addr) (len cap : Nat) (w : World) (hR : RdG w w.heap.size A (intsV .i64 L)) (hl : len = L.length) (hm : len ≤ 140737488355328) :
    Calls Tryz.prog 18 #[.slice A len cap, .int .i64 v] w fun e w' => e = .returned (.bool (decide (v ∈ L))) ∧ w = w' := by
  have ha : decide (0 ≤ idxP (fun x => decide (v = x)) L) = decide (v ∈ L) := by
    rw [idxP_any]
    by_cases h : v ∈ L
    · rw [decide_eq_true h, List.any_eq_true]
      exact ⟨v, h, by simp⟩
    · rw [decide_eq_false h, List.any_eq_false]
      intro x hx e
      exact h (by simpa [show v = x by simpa using e] using hx)
  have H := Lib.hid (index_any L v A len cap w hR hl hm)
  clear hR hl
  rw [← ha]
  generalize idxP (fun x => decide (v = x)) L = r at *
  clear ha
  go_enter Tryz.func18, Tryz.ntmps18
  go_wp2_with fail
  refine H.out.mono ?_
  rintro e w2 ⟨rfl, rfl⟩
  go_wp2
  go_ret
  exact ⟨rfl, rfl⟩
/-- a count that may not be -/
def badC (e : EdgE) : Bool := decide (e.c < 0) || decide (1073741824 < e.c)
theorem badC_any (e : EdgE) (w : World) : Calls Tryz.prog 40 #[.agg #[.int .i64 e.a, .int .i64 e.b, .int .i64 e.c]] w fun en w' => en = .returned (.bool (badC e)) ∧ Below w.heap.size w w' := by
  obtain ⟨a, b, c⟩ := e
  by_cases h : c < 0
  · have hd : decide (c < 0) = true := decide_eq_true h
    rw [show badC ⟨a, b, c⟩ = true by simp [badC, h]]
    go_enter Tryz.func40, Tryz.ntmps40
    go_wp2
    go_ret
    exact ⟨rfl, (Below.refl _ _).alloc (Nat.le_refl _) _⟩
  · have hd : decide (c < 0) = false := decide_eq_false h
    by_cases h2 : 1073741824 < c
    · have hd2 : decide (c > 1073741824) = true := decide_eq_true h2
      rw [show badC ⟨a, b, c⟩ = true by simp [badC, h2]]
      go_enter Tryz.func40, Tryz.ntmps40
      go_wp2
      go_ret
      exact ⟨rfl, (Below.refl _ _).alloc (Nat.le_refl _) _⟩
    · have hd2 : decide (c > 1073741824) = false := decide_eq_false h2
      rw [show badC ⟨a, b, c⟩ = false by simp [badC, h, h2]]
      go_enter Tryz.func40, Tryz.ntmps40
      go_wp2
      go_ret
      exact ⟨rfl, (Below.refl _ _).alloc (Nat.le_refl _) _⟩
theorem capped_any (a b : Int) (ha : 0 ≤ a ∧ a ≤ 1073741824) (hb : 0 ≤ b ∧ b ≤ 1073741824) (w : World) : Calls Tryz.prog 41 #[.int .i64 a, .int .i64 b] w fun e w' => e = .returned (.int .i64 (capI a b)) ∧ w' = w := by
  obtain ⟨s, hs⟩ : ∃ z, a + b = z := ⟨_, rfl⟩
  have hw : IntKind.i64.wrap (a + b) = s := by rw [IntWalk.i64_in _ (by omega), hs]
  unfold capI
  rw [hs]
  by_cases h : s ≤ 1073741824
  · have hm : min s 1073741824 = s := by omega
    rw [hm]
    go_enter Tryz.func41, Tryz.ntmps41
    go_wp2
    go_ret
    exact ⟨rfl, rfl⟩
  · have hm : min s 1073741824 = 1073741824 := by omega
    rw [hm]
    go_enter Tryz.func41, Tryz.ntmps41
    go_wp2
    go_ret
    exact ⟨rfl, rfl⟩
set_option maxRecDepth 100000 in
theorem idx_mp (L : List EdgE) (p : EdgE → Bool) (A : Option Addr) (len cap cl : Nat) (cb : Array Value) (w : World) (hR : RdG w w.heap.size A (edL L)) (hl : len = L.length) (hm : len ≤ 140737488355328) (hc : ∀ W, Below w.heap.size w W → ∀ f : EdgE, f ∈ L → Calls Tryz.prog cl (#[.agg #[.int .i64 f.a, .int .i64 f.b, .int .i64 f.c]] ++ cb) W fun e w' => e = .returned (.bool (p f)) ∧ Below W.heap.size W w') (eg : ∀ args w, (callFunc cl args).run Tryz.prog w = .ok (.enter cl args) w) :
    Calls Tryz.prog 47 #[.slice A len cap, .func (.func cl) #[] cb] w fun e w' => e = .returned (.int .i64 (idxP p L)) ∧ Below w.heap.size w w' := by
  have HR := Lib.hid hR
  have HL := Lib.hid hl
  have HC := Lib.hid hc
  clear hR hl hc
  go_enter Tryz.func47, Tryz.ntmps47
  go_wp2
  go_loopw [8] (fun i wr => ∃ k : Nat, k ≤ len ∧ i = .int .i64 k ∧ Below w.heap.size w wr ∧ Hid (∀ (j : Nat) (y : EdgE), j < k → L[j]? = some y → p y = false)) (fun i _ => len - (intOf i).toNat)
  case atStart => exact ⟨0, Nat.zero_le _, rfl, Below.refl _ _, fun j y h => absurd h (Nat.not_lt_zero _)⟩
  case round =>
    obtain ⟨k, hk, rfl, hbr, hno⟩ := hrel
    by_cases hlt : k < len
    · have hx : L[k]? = some (L[k]'(by have := HL.out; omega)) := List.getElem?_eq_getElem _
      obtain ⟨x, hxx⟩ : ∃ x, L[k]'(by have := HL.out; omega) = x := ⟨_, rfl⟩
      rw [hxx] at hx
      obtain ⟨b, o, rfl, hb', c0, c1, c2⟩ := ed_at3M HR.out hx
      have d0 := (hbr.cell (p := ⟨b, o + k * 3, none⟩) hb').trans c0
      have d1 := (hbr.cell (p := ⟨b, o + k * 3 + 1, none⟩) hb').trans c1
      have d2 := (hbr.cell (p := ⟨b, o + k * 3 + 2, none⟩) hb').trans c2
      have hcf := HC.out wr hbr x (List.mem_of_getElem? hx)
      have HX := Lib.hid hx
      have HCF := Lib.hid hcf
      have hz := hbr.size
      have HB := Lib.hid hbr
      clear hx hxx c0 c1 c2 hbr hcf
      go_wp2_with fail
      go_at_fn cl
      refine HCF.out.mono ?_
      rintro e w2 ⟨rfl, hb2⟩
      have hbb := HB.out.trans (hb2.mono hz)
      have HBB := Lib.hid hbb
      clear hbb hb2 d0 d1 d2
      by_cases hpp : p x = true
      · have hres := idxP_at p L k x HX.out hpp hno.out
        have HRS := Lib.hid hres
        rw [hpp]
        clear hres hpp
        go_wp2
        go_ret
        exact ⟨by rw [HRS.out]; rfl, HBB.out⟩
      · rw [Bool.not_eq_true] at hpp
        have HPP := Lib.hid hpp
        rw [hpp]
        clear hpp
        go_wp2
        go_roundw
        case rel =>
          refine ⟨k + 1, by omega, by go_num, HBB.out, fun j y hj hy => ?_⟩
          rcases Nat.lt_or_ge j k with h | h
          · exact hno.out j y h hy
          · obtain rfl : j = k := by omega
            have := HX.out
            rw [this] at hy
            cases hy
            exact HPP.out
        case measure => simp [intOf]; omega
    · obtain rfl : k = len := by omega
      have hres := idxP_none p L fun x hx => by
        obtain ⟨j, hj⟩ := List.getElem?_of_mem hx
        exact hno.out j x (by have := (List.getElem?_eq_some_iff.1 hj).1; have := HL.out; omega) hj
      have HRS := Lib.hid hres
      have HBB := Lib.hid hbr
      clear hres hlt hbr
      go_wp2
      go_ret
      exact ⟨by rw [HRS.out]; rfl, HBB.out⟩
theorem cf_mp (L : List EdgE) (p : EdgE → Bool) (A : Option Addr) (len cap cl : Nat) (cb : Array Value) (w : World) (hR : RdG w w.heap.size A (edL L)) (hl : len = L.length) (hm : len ≤ 140737488355328) (hc : ∀ W, Below w.heap.size w W → ∀ f : EdgE, f ∈ L → Calls Tryz.prog cl (#[.agg #[.int .i64 f.a, .int .i64 f.b, .int .i64 f.c]] ++ cb) W fun e w' => e = .returned (.bool (p f)) ∧ Below W.heap.size W w') (eg : ∀ args w, (callFunc cl args).run Tryz.prog w = .ok (.enter cl args) w) :
    Calls Tryz.prog 29 #[.slice A len cap, .func (.func cl) #[] cb] w fun e w' => e = .returned (.bool (L.any p)) ∧ Below w.heap.size w w' := by
  have ha := idxP_any p L
  have hge := idxP_ge p L
  have H := Lib.hid (idx_mp L p A len cap cl cb w hR hl hm hc eg)
  clear hR hl hc
  rw [← ha]
  generalize idxP p L = r at *
  clear ha
  go_enter Tryz.func29, Tryz.ntmps29
  go_wp2_with fail
  refine H.out.mono ?_
  rintro e w2 ⟨rfl, hb2⟩
  go_wp2
  go_ret
  exact ⟨rfl, hb2⟩
/-- an edge whose places a sort may compare -/
abbrev EdgT : Type := { p : EdgD // (0 ≤ p.f ∧ p.f ≤ 400000) ∧ 0 ≤ p.t ∧ p.t ≤ 400000 }
instance : Inhabited EdgT := ⟨⟨⟨0, 0, 0⟩, by decide⟩⟩
def edgTE (x : EdgT) : List Value := [.int .i64 x.1.f, .int .i64 x.1.t, .int .i64 x.1.c]
def edgCmp (x y : EdgT) : Int := if x.1.f = y.1.f then x.1.t - y.1.t else x.1.f - y.1.f
instance (a b : EdgD) : Decidable (ltE a b) := by unfold ltE; infer_instance
theorem edgCmp_lt (x y : EdgT) : ltOf edgCmp x y = decide (ltE x.1 y.1) := by
  unfold ltOf edgCmp ltE
  congr 1
  apply propext
  split
  · omega
  · omega
theorem edgSWO : Go.Sort.SWO (ltOf edgCmp) where
  irrefl x := by rw [edgCmp_lt]; simp [ltE]
  trans x y z h1 h2 := by rw [edgCmp_lt, decide_eq_true_eq] at *; unfold ltE at *; omega
  ntrans x y z h1 h2 := by rw [edgCmp_lt, decide_eq_false_iff_not] at *; unfold ltE at *; omega
set_option maxRecDepth 100000 in
theorem edg_closure (x y : EdgT) (W : World) : Calls Tryz.prog 43 #[.agg #[.int .i64 x.1.f, .int .i64 x.1.t, .int .i64 x.1.c], .agg #[.int .i64 y.1.f, .int .i64 y.1.t, .int .i64 y.1.c]] W fun e w' => e = .returned (.int .i64 (edgCmp x y)) ∧ ∃ q os', w' = Go.Sort.grow (W.drewN q) os' := by
  obtain ⟨⟨a, b, c⟩, ⟨h1, h2⟩, h3, h4⟩ := x
  obtain ⟨⟨a', b', c'⟩, ⟨k1, k2⟩, k3, k4⟩ := y
  simp only at h1 h2 h3 h4 k1 k2 k3 k4 ⊢
  by_cases e : a = a'
  · subst e
    obtain ⟨r, hr⟩ : ∃ z, b - b' = z := ⟨_, rfl⟩
    have hres : edgCmp ⟨⟨a, b, c⟩, ⟨h1, h2⟩, h3, h4⟩ ⟨⟨a, b', c'⟩, ⟨k1, k2⟩, k3, k4⟩ = r := by unfold edgCmp; simp [hr]
    rw [hres]
    have qw : IntKind.i64.wrap (b - b') = r := by rw [IntWalk.i64_in _ (by omega)]; exact hr
    clear hres hr
    go_enter Tryz.func43, Tryz.ntmps43
    go_wp2
    go_ret
    exact ⟨rfl, 0, _, by rw [Go.Sort.alloc_eq_grow, Go.Sort.alloc_eq_grow, Go.Sort.grow_grow]; rfl⟩
  · obtain ⟨r, hr⟩ : ∃ z, a - a' = z := ⟨_, rfl⟩
    have hres : edgCmp ⟨⟨a, b, c⟩, ⟨h1, h2⟩, h3, h4⟩ ⟨⟨a', b', c'⟩, ⟨k1, k2⟩, k3, k4⟩ = r := by unfold edgCmp; simp [hr, e]
    rw [hres]
    have qw : IntKind.i64.wrap (a - a') = r := by rw [IntWalk.i64_in _ (by omega)]; exact hr
    have hne : (a != a') = true := by simpa using e
    clear hres hr
    go_enter Tryz.func43, Tryz.ntmps43
    go_wp2
    go_ret
    exact ⟨rfl, 0, _, by rw [Go.Sort.alloc_eq_grow, Go.Sort.alloc_eq_grow, Go.Sort.grow_grow]; rfl⟩
theorem edgV_len (L : List EdgD) : (edgV L).length = L.length * 3 := flat_len edgC 3 (fun _ => rfl) L
theorem flatK_edg (d : Array EdgT) : (Go.Sort.flatK edgTE 3 d).toList = edgV (d.toList.map Subtype.val) := by
  apply List.ext_getElem?
  intro j
  rcases Nat.lt_or_ge j (d.size * 3) with hj | hj
  · have hi : j / 3 < d.size := by omega
    have h1 : (d.toList.map Subtype.val)[j / 3]? = some (d[j / 3]'hi).1 := by
      rw [List.getElem?_map, Array.getElem?_toList, Array.getElem?_eq_getElem hi]
      rfl
    have h2 := edgV_at h1 (j % 3) ((edgTE (d[j / 3]'hi))[j % 3]!) (by
      have h3 : j % 3 = 0 ∨ j % 3 = 1 ∨ j % 3 = 2 := by omega
      rcases h3 with e | e | e <;> rw [e] <;> rfl)
    rw [show j / 3 * 3 + j % 3 = j by omega] at h2
    rw [h2, Array.getElem?_toList, Array.getElem?_eq_getElem (by simpa using hj)]
    congr 1
    have h4 := Go.Sort.get_flatK edgTE 3 d j hj
    rw [getElem!_pos _ j (by simpa using hj)] at h4
    rw [h4, getElem!_pos d _ hi]
  · rw [List.getElem?_eq_none (by simpa using hj), List.getElem?_eq_none (by rw [edgV_len, List.length_map]; simpa using hj)]
theorem holds_flatK {K : Nat} {w : World} {base : Nat} {e : TypeId} {g n cap : Nat} {xs : List Value} {F : Array Value} (h : w.ownsRow base e K (.slice (some ⟨g, 0, none⟩) n cap) n xs) (hF : F.toList = xs) : Go.Sort.Holds id w g 0 F := by
  intro j hj
  have hu : xs[j]? = some F[j] := by rw [← hF, Array.getElem?_toList, Array.getElem?_eq_getElem hj]
  have := own_cellf h hu
  rw [Nat.zero_add, getElem!_pos F j hj]
  exact ⟨this.1, this.2.1⟩
theorem own_putK {K : Nat} {w : World} {base : Nat} {e : TypeId} {g n cap q : Nat} {xs : List Value} {F : Array Value} (h : w.ownsRow base e K (.slice (some ⟨g, 0, none⟩) n cap) n xs) (hF : F.size = n * K) :
    (Go.Sort.putRow id (Go.Sort.ahead w q) g 0 F).ownsRow base e K (.slice (some ⟨g, 0, none⟩) n cap) n F.toList := by
  rcases h.2 with ⟨e0, _⟩ | ⟨g', cap', cur, e0, hb, hg, hn, hm, hs, ht⟩
  · cases e0
  · injection e0 with e1 _ e3
    injection e1 with e1
    injection e1 with e1
    subst e1; subst e3
    refine ⟨by simpa using hF, .inr ⟨g, cap, Go.Sort.putCells id 0 F cur, rfl, hb, ?_, hn, hm, by simpa [Go.Sort.putCells] using hs, ?_⟩⟩
    · simp [Go.Sort.putRow, Go.Sort.mapBlock, Go.Sort.ahead, Array.getElem?_modify, hg, Go.Sort.onCells]
    · apply List.ext_getElem?
      intro j
      rw [List.getElem?_take, Array.getElem?_toList, Array.getElem?_toList]
      by_cases hj : j < n * K
      · have hjc : j < cur.size := by
          have : n * K ≤ cap * K := Nat.mul_le_mul_right K hn
          omega
        simp only [if_pos hj, Go.Sort.putCells, Array.getElem?_mapIdx, Array.getElem?_eq_getElem hjc, Option.map_some]
        rw [if_pos (by simp; omega), Array.getElem?_eq_getElem (by omega)]
        simp [getElem!_pos, show j < F.size by omega]
      · rw [if_neg hj, Array.getElem?_eq_none (by omega)]
theorem below_grwM {B : Nat} {w0 w : World} (h : Below B w0 w) (hB : B ≤ w.heap.size) (os : Array Obj) : Below B w0 (Go.Sort.grow w os) :=
  ⟨h.os, h.tape, h.output, Nat.le_trans h.size (by rw [Go.Sort.size_grow]; omega), fun k hk => (Go.Sort.heap_grow_old w os (Nat.lt_of_lt_of_le hk hB)).trans (h.block k hk)⟩
def edgsT : (L : List EdgD) → (∀ x ∈ L, (0 ≤ x.f ∧ x.f ≤ 400000) ∧ 0 ≤ x.t ∧ x.t ≤ 400000) → List EdgT
  | [], _ => []
  | x :: r, h => ⟨x, h x (by simp)⟩ :: edgsT r fun y hy => h y (by simp [hy])
theorem edgsT_val : ∀ (L : List EdgD) (h : ∀ x ∈ L, (0 ≤ x.f ∧ x.f ≤ 400000) ∧ 0 ≤ x.t ∧ x.t ≤ 400000), (edgsT L h).map Subtype.val = L
  | [], _ => rfl
  | x :: r, h => by
    show x :: (edgsT r _).map Subtype.val = x :: r
    rw [edgsT_val r]
set_option maxRecDepth 100000 in
/-- slices.SortFunc of the edges -/
theorem sort_edgs {W : World} {B n c : Nat} {A : Option Addr} {L : List EdgD} (ho : W.ownsRow B 43 3 (.slice A n c) n (edgV L)) (hL : ∀ x ∈ L, (0 ≤ x.f ∧ x.f ≤ 400000) ∧ 0 ≤ x.t ∧ x.t ≤ 400000) (hn : n ≤ 1000000000) :
    Calls Tryz.prog 42 #[.slice A n c, .func (.func 43) #[] #[]] W fun e W' => e = .returned (.tuple #[]) ∧ ∃ L' : List EdgD, L'.Perm L ∧ L'.Pairwise (fun a b => ¬ ltE b a) ∧ W'.ownsRow B 43 3 (.slice A n c) n (edgV L') ∧ ∀ B0 w0, Below B0 w0 W → B0 ≤ B → Below B0 w0 W' := by
  have hlen : L.length = n := by have := ho.1; rw [edgV_len] at this; omega
  by_cases h0 : n = 0
  · subst h0
    obtain rfl : L = [] := List.length_eq_zero_iff.1 hlen
    have hcon := AnyF.slices_SortFunc_none Sh.sortEdge A c (.func (.func 43) #[] #[]) W
    change Calls Tryz.prog 42 _ _ _ at hcon
    exact hcon.mono fun e1 w1 ⟨h1, h2⟩ => ⟨h1, [], List.Perm.refl _, List.Pairwise.nil, by rw [h2]; exact ho, fun B0 w0 hb _ => by rw [h2]; exact hb⟩
  · obtain ⟨g, rfl⟩ := own_ptr ho h0
    obtain ⟨hgB, hgl⟩ := World.ownsRow.lt ho g rfl
    obtain ⟨d, hd⟩ : ∃ d : Array EdgT, d = (edgsT L hL).toArray := ⟨_, rfl⟩
    have hdv : d.toList.map Subtype.val = L := by rw [hd]; exact edgsT_val L hL
    have hds : d.size = n := by
      have := congrArg List.length hdv
      rw [List.length_map, Array.length_toList] at this
      omega
    have hH : Go.Sort.HoldsK edgTE 3 W g 0 d := holds_flatK ho (by rw [flatK_edg, hdv])
    have eg : ∀ args w, (callFunc 43 args).run Tryz.prog w = .ok (.enter 43 args) w := enters_of Tryz.func43 (by kernel_rfl) rfl
    have hcon := AnyQ.slices_SortFunc Sh.sortEdge 3 Tryz.isAgg43 Tryz.sizeOf43 edgTE (fun _ => rfl) (fun x v hv => by simp [edgTE] at hv; rcases hv with rfl | rfl | rfl <;> rfl) edgCmp edgSWO 43 #[] g 0 c d W eg (fun _ _ _ _ x y => edg_closure x y _) hH hgl (by omega)
    change Calls Tryz.prog 42 _ _ _ at hcon
    rw [hds] at hcon
    refine hcon.mono fun e1 w1 ⟨h1, d', q, os, hp, hs, h2⟩ => ⟨h1, d'.toList.map Subtype.val, ?_, ?_, ?_, fun B0 w0 hb hBB => ?_⟩
    · have h3 := hp.2.2
      have hsz : d'.size = n := by rw [hp.1, hds]
      have e1 : d'.extract 0 n = d' := by rw [← hsz, Array.extract_size]
      have e2 : d.extract 0 n = d := by rw [← hds, Array.extract_size]
      rw [e1, e2] at h3
      have h4 := h3.map Subtype.val
      rw [hdv] at h4
      exact h4
    · have hsz : d'.size = n := by rw [hp.1, hds]
      rw [List.pairwise_map, List.pairwise_iff_getElem]
      intro i j hi hj hij
      have hi2 : i < d'.size := by simpa using hi
      have hj2 : j < d'.size := by simpa using hj
      have h3 := hs i j (Nat.zero_le _) hij (by omega)
      rw [edgCmp_lt, getElem!_pos d' i hi2, getElem!_pos d' j hj2, decide_eq_false_iff_not] at h3
      rw [Array.getElem_toList, Array.getElem_toList]
      exact h3
    · have hsz : d'.size = n := by rw [hp.1, hds]
      have h3 := own_putK (q := q) (F := Go.Sort.flatK edgTE 3 d') ho (by rw [Go.Sort.size_flatK, hsz])
      rw [flatK_edg] at h3
      rw [h2]
      exact own_keep h3 (below_grwM (Below.refl _ _) (Nat.le_refl _) os)
    · rw [h2]
      have h4 : Below B0 w0 (Go.Sort.putRow id (Go.Sort.ahead W q) g 0 (Go.Sort.flatK edgTE 3 d')) := Go.Lib.below_putRow hb (by omega)
      have h5 : (Go.Sort.putRow id (Go.Sort.ahead W q) g 0 (Go.Sort.flatK edgTE 3 d')).heap.size = W.heap.size := by simp [Go.Sort.putRow, Go.Sort.mapBlock, Go.Sort.ahead]
      exact below_grwM h4 (by rw [h5]; omega) os
end Go.Proofs.YtcdlgjhdbmmomaaGreatDoor
