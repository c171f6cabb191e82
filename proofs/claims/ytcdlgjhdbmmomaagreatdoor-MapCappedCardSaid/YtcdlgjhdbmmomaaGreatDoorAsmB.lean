/- boltholekeep's Program, in plain words: its plan, and the image that is made of it. reading a plan in memory; the keep's owner, walked. strconv.Itoa at 0, 1, 2. the keep's owner of a table, walked. boltholekeep's assembled, in plain words: what a round writes. boltholekeep's Program, in plain words: its plan is one. -/
import Derived.Test.YtcdlgjhdbmmomaaGreatDoorPgmB
import Derived.Test.YtcdlgjhdbmmomaaGreatDoorKeepD
import Derived.Deep.RegionHeld3
import Derived.Deep.DeepCutAuto
import Derived.Deep.CutBlock
import Derived.Deep.LoopGhost
import Derived.Deep.QuietTactic
import Derived.BigQuiet
import Derived.WalkLawsBesides
import Derived.Test.YtcdlgjhdbmmomaaGreatDoorIsaG
namespace Go.Proofs.YtcdlgjhdbmmomaaGreatDoor
open Go.RowKit
def cutL (L : List RawI) (a b : Nat) : List RawI := (L.take b).drop a
theorem cutL_len (L : List RawI) (a b : Nat) (_h1 : a ≤ b) (h2 : b ≤ L.length) : (cutL L a b).length = b - a := by
 simp [cutL]; omega
theorem cutL_at {L : List RawI} {a b j : Nat} {r : RawI} (h : (cutL L a b)[j]? = some r) : L[a + j]? = some r := by
 unfold cutL at h; rw [List.getElem?_drop, List.getElem?_take] at h
 split at h
 · exact h
 · cases h
theorem cutL_mem {L : List RawI} {a b : Nat} {r : RawI} (h : r ∈ cutL L a b) : r ∈ L := List.mem_of_mem_take (List.mem_of_mem_drop h)
def partL (L : List RawI) (k n : Nat) : List RawI := cutL L (k * L.length / n) ((k + 1) * L.length / n)
theorem part_le (m k n : Nat) (hk : k < n) : k * m / n ≤ (k + 1) * m / n ∧ (k + 1) * m / n ≤ m := by
 refine ⟨Nat.div_le_div_right (Nat.mul_le_mul_right _ (by omega)), ?_⟩; exact Nat.div_le_of_le_mul (Nat.mul_le_mul_right _ (by omega))
theorem partL_len (L : List RawI) (k n : Nat) (hk : k < n) : (partL L k n).length = (k + 1) * L.length / n - k * L.length / n := cutL_len _ _ _ (part_le _ _ _ hk).1 (part_le _ _ _ hk).2
theorem partL_le (L : List RawI) (k n : Nat) : (partL L k n).length ≤ L.length := by
 unfold partL cutL; generalize k * L.length / n = x; generalize (k + 1) * L.length / n = y; rw [List.length_drop, List.length_take]; omega
def fnMany (mine : List RawI) : Nat := 1 + mine.length / 4
def fnBlock (mine : List RawI) (first many : Nat) (funcs : Int) (j : Nat) : List Spot := blockOf (partL mine j many) ((first : Int) + (j : Int)) first ((first : Int) + (many : Int) - 1) funcs
def fnBlocks (mine : List RawI) (first many : Nat) (funcs : Int) (k : Nat) : List (List Spot) := (List.range k).map (fnBlock mine first many funcs)
theorem fnBlocks_len (mine : List RawI) (first many : Nat) (funcs : Int) (k : Nat) : (fnBlocks mine first many funcs k).length = k := by simp [fnBlocks]
theorem fnBlocks_succ (mine : List RawI) (first many : Nat) (funcs : Int) (k : Nat) : fnBlocks mine first many funcs (k + 1) = fnBlocks mine first many funcs k ++ [fnBlock mine first many funcs k] := by
 simp [fnBlocks, List.range_succ]
def planGo (L : List RawI) (F : Nat) : Nat → List (List Spot) × List Int
 | 0 => ([], [])
 | f + 1 => ((planGo L F f).1 ++ fnBlocks (partL L f F) (planGo L F f).1.length (fnMany (partL L f F)) F (fnMany (partL L f F)), (planGo L F f).2 ++ [((planGo L F f).1.length : Int)])
def progL (l : List RawI) : List RawI := l.take 150
def nFn (L : List RawI) : Nat := (1 + pickL L.length 3).toNat
theorem nFn_bd (L : List RawI) : 1 ≤ nFn L ∧ nFn L ≤ 3 ∧ (nFn L : Int) = 1 + pickL L.length 3 := by
 have := pickL_bd L.length 3 (by decide); unfold nFn; omega
theorem planGo_fs (L : List RawI) (F f : Nat) : (planGo L F f).2.length = f := by
 induction f with
 | zero => rfl
 | succ f ih => simp [planGo, ih]
theorem planGo_bs (L : List RawI) (F f : Nat) (hL : L.length ≤ 150) : (planGo L F f).1.length ≤ 38 * f := by
 induction f with
 | zero => exact Nat.le_refl _
 | succ f ih =>
  have h1 := partL_le L f F; have h2 : fnMany (partL L f F) ≤ 38 := by unfold fnMany; omega
  simp only [planGo, List.length_append, fnBlocks_len]; omega
theorem RdR.cut {w : World} {B : Nat} {A : Option Addr} {L : List RawI} (h : RdR w B A L) (a b : Nat) {A' : Option Addr} (hA : ∀ g o, A = some ⟨g, o, none⟩ → cutL L a b ≠ [] → A' = some ⟨g, o + a * 4, none⟩) : RdR w B A' (cutL L a b) := by
 refine ⟨fun r hr => h.1 r (cutL_mem hr), fun hn => ?_⟩
 have hL : L ≠ [] := by
  intro e; subst e; exact hn (by simp [cutL])
 obtain ⟨g, o, e, hg, hc⟩ := h.2 hL; refine ⟨g, o + a * 4, hA g o e hn, hg, fun j r hr => ?_⟩; have := hc (a + j) r (cutL_at hr); rw [show o + a * 4 + j * 4 = o + (a + j) * 4 by omega]; exact this
theorem PlanAt.pushF {w w1 w2 : World} {base X : Nat} {bs : List (List Spot)} {fs : List Int} {bA : Option Addr} {bc : Nat} {fA : Option Addr} {fc : Nat} {gs : List (Nat × Nat)} (h : PlanAt w base X bs fs bA bc fA fc gs)
 (hb : Below w.heap.size w w1) {v : Int} {go co : Nat}
 (ho : w2.ownsRow base 3 1 (.slice (some ⟨go, 0, none⟩) (fs.length + 1) co) (fs.length + 1) (intsV .i64 fs ++ [.int .i64 v]))
 (hgr : w1.grownBy w2 (Value.slice fA fs.length fc).ownBlock) (hat : (Value.slice fA fs.length fc).ownBlock = some go ∨ go = w1.heap.size) :
 PlanAt (w2.setCell ⟨X, 1, none⟩ (.slice (some ⟨go, 0, none⟩) (fs.length + 1) co)) base X bs (fs ++ [v]) bA bc (some ⟨go, 0, none⟩) co gs ∧ Below base w (w2.setCell ⟨X, 1, none⟩ (.slice (some ⟨go, 0, none⟩) (fs.length + 1) co)) := by
 have hXl := h.blk.lt; have hs1 := hb.size; have hs2 := hgr.size; have h1 := h.below hb; have hbX := h.bX; have hst : w2.grownBy (w2.setCell ⟨X, 1, none⟩ (.slice (some ⟨go, 0, none⟩) (fs.length + 1) co)) (some X) := gb_setCell (gb_refl _ _) _ _
 have hgoX : go ≠ X := by
  rcases hat with e | e
  · intro e2; subst e2; exact h.fX e
  · omega
 have hogo : ∀ q, (Value.slice bA bs.length bc).ownBlock = some q → q < w.heap.size := fun q hq => (own_blk_lt h.outer hq).2
 have hlen : (fs ++ [v]).length = fs.length + 1 := by simp
 have hiv : intsV .i64 (fs ++ [v]) = intsV .i64 fs ++ [.int .i64 v] := by simp [intsV]
 have hbw : Below base w (w2.setCell ⟨X, 1, none⟩ (.slice (some ⟨go, 0, none⟩) (fs.length + 1) co)) :=
  ((hb.mono (by omega)).trans (gb_below_of hgr (fun q hq => (own_blk_lt h.fown hq).1) (by omega))).trans (gb_to_below hst hbX (by omega))
 refine ⟨⟨?_, hbX, ?_, ?_, h.gl, ?_, h.nodup, h.oX, ?_, ?_⟩, hbw⟩
 · rw [hlen]; exact ((h1.blk.gb hgr h.fX).set 1 _)
 · refine own_gb (gb_own h1.outer hgr ?_) hst h.oX; rcases h.fo with e | e
   · exact .inl e
   · exact .inr fun e2 => e e2.symm
 · rw [hlen, hiv]; exact own_gb ho hst (by simp [Value.ownBlock]; exact hgoX)
 · intro j gj bj hj hbj; obtain ⟨i1, i2, i3, i4⟩ := h.inner j gj bj hj hbj; have hgl : gj.1 < w.heap.size := (own_lt i1).2; refine ⟨own_gb (gb_own (own_keep i1 hb) hgr (.inr fun e => i4 e.symm)) hst (by simp [Value.ownBlock]; exact i2), i2, i3, ?_⟩; simp only [Value.ownBlock]; intro e; injection e with e; subst e; rcases hat with e | e
   · exact i4 e
   · omega
 · simp only [Value.ownBlock]; intro e; injection e with e; exact hgoX e
 · rcases hob : (Value.slice bA bs.length bc).ownBlock with _ | q
   · exact .inl rfl
   · right
     simp only [Value.ownBlock]; intro e; injection e with e; subst e; rcases hat with e2 | e2
     · rcases h.fo with e3 | e3
       · rw [e3] at hob
         cases hob
       · exact e3 (e2.trans hob.symm)
     · have := hogo go hob; omega
def szS (s : Spot) : Int := sizeK s.i.k s.i.l
def szL : List Spot → Int
 | [] => 0
 | s :: r => szS s + szL r
theorem szL_app (a b : List Spot) : szL (a ++ b) = szL a + szL b := by
 induction a with
 | nil => simp [szL]
 | cons s r ih => simp only [List.cons_append, szL, ih]; omega
def atB (bs : List (List Spot)) (k : Int) : Int := szL (bs.take k.toNat).flatten
def resI (bs : List (List Spot)) (fs : List Int) (here : Int) (s : Spot) : Ins :=
 ⟨s.i.k, s.i.d, s.i.a, s.i.b, if 0 ≤ s.fn then atB bs (fs.getD s.fn.toNat 0) - here else if 0 ≤ s.blk then atB bs s.blk - here else s.i.n, s.i.l⟩
def resL (bs : List (List Spot)) (fs : List Int) : Int → List Spot → List Ins
 | _, [] => []
 | here, s :: r => resI bs fs here s :: resL bs fs (here + szS s) r
def progI (bs : List (List Spot)) (fs : List Int) : List Ins := resL bs fs 0 bs.flatten
def linL : Int → Int → List Spot → List (Int × Int)
 | _, _, [] => []
 | ln, here, s :: r => if s.line = ln then linL ln (here + szS s) r else (here, s.line) :: linL s.line (here + szS s) r
def endB (bs : List (List Spot)) (fs : List Int) (f : Int) : Int := if f + 1 < fs.length then fs.getD (f + 1).toNat 0 else bs.length
def fnAt (bs : List (List Spot)) (fs : List Int) (i : Nat) : FnD := ⟨⟨#[102, (48 + i).toUInt8]⟩, atB bs (fs.getD i 0), (if i + 1 < fs.length then atB bs (fs.getD (i + 1) 0) else szL bs.flatten) - atB bs (fs.getD i 0)⟩
def fnL (bs : List (List Spot)) (fs : List Int) : List FnD := (List.range fs.length).map (fnAt bs fs)
def endsT (b : List Spot) (t : Int) : Bool := match b.getLast? with
 | none => false
 | some s => s.i.k == 24 && s.i.n == t
def ownGo (bs : List (List Spot)) (fs : List Int) (t : Int) : Nat → Option Int
 | 0 => some (-1)
 | f + 1 => match ownGo bs fs t f with
  | none => none
  | some o => if ((bs.take (endB bs fs f).toNat).drop (fs.getD f 0).toNat).any (endsT · t) then (if 0 ≤ o then none else some f) else some o
def ownerF (bs : List (List Spot)) (fs : List Int) (t : Int) : Int := (ownGo bs fs t fs.length).getD (-1)
def rawAt (L : List RawI) (n : Nat) : RawI := L.getD (n % L.length) ⟨0, 0, 0, 0⟩
def tabAt (bs : List (List Spot)) (fs : List Int) (L : List RawI) (t : Nat) : List Int :=
 if 0 ≤ ownerF bs fs t then (List.range 3).map fun i => atB bs (fs.getD (ownerF bs fs t).toNat 0 + pickL (rawAt L (t + i)).a (endB bs fs (ownerF bs fs t) - fs.getD (ownerF bs fs t).toNat 0)) else []
def tabL (bs : List (List Spot)) (fs : List Int) (L : List RawI) : List (List Int) := (List.range 3).map (tabAt bs fs L)
def imgOf (bs : List (List Spot)) (fs : List Int) (L : List RawI) : Img := ⟨encAll (progI bs fs), fnL bs fs, tabL bs fs L, [5, -3, 0, 7, 1, 2], linL 0 0 bs.flatten, 0⟩
def SameS (s s' : Spot) : Prop := ∃ l, s' = ⟨⟨s.i.k, s.i.d, s.i.a, s.i.b, s.i.n, l⟩, s.blk, s.fn, s.line⟩ ∧ (s.i.l = true → l = true) ∧ (s.blk < 0 → l = s.i.l)
def SameL (bs bs' : List (List Spot)) : Prop := bs.length = bs'.length ∧ ∀ (k : Nat) (b b' : List Spot), bs[k]? = some b → bs'[k]? = some b' → b.length = b'.length ∧ ∀ (j : Nat) (s s' : Spot), b[j]? = some s → b'[j]? = some s' → SameS s s'
def SpotOk (B F : Nat) (s : Spot) : Prop := s.i.chk = 0 ∧ (-1 ≤ s.blk ∧ s.blk < B) ∧ (-1 ≤ s.fn ∧ s.fn < F) ∧ (0 ≤ s.line ∧ s.line < 5) ∧ (0 ≤ s.blk → 18 ≤ s.i.k ∧ s.i.k ≤ 22 ∧ s.i.n = 0 ∧ s.fn = -1) ∧ (0 ≤ s.fn → s.i.k = 23 ∧ s.i.l = false ∧ s.i.n = 0) ∧ (s.blk < 0 → s.fn < 0 → s.i.k < 18 ∨ s.i.k = 24)
structure PlanOk (bs : List (List Spot)) (fs : List Int) : Prop where
 nb : bs.length ≤ 120
 ns : bs.flatten.length ≤ 400
 nf : 1 ≤ fs.length ∧ fs.length ≤ 3
 f0 : fs[0]? = some 0
 fb : ∀ (i : Nat) (f : Int), fs[i]? = some f → 0 ≤ f ∧ f < bs.length
 fi : ∀ (i : Nat) (f g : Int), fs[i]? = some f → fs[i + 1]? = some g → f < g
 ne : ∀ b ∈ bs, b ≠ []
 ok : ∀ b ∈ bs, ∀ s ∈ b, SpotOk bs.length fs.length s
def IsProg (bs : List (List Spot)) (fs : List Int) (L : List RawI) (m : Img) : Prop := ∃ bs', PlanOk bs' fs ∧ SameL bs bs' ∧ (∀ i ∈ progI bs' fs, i.chk = 0) ∧ m = imgOf bs' fs L
def TabsAt (w : World) (base : Nat) (v : Value) (ts : List (List Int)) : Prop := ∃ (A : Option Addr) (c : Nat) (vs : List Value), v = .slice A ts.length c ∧ w.ownsRow base 27 1 v ts.length vs ∧ vs.length = ts.length ∧
 ∀ (j : Nat) (t : List Int), ts[j]? = some t → ∃ A' c', vs[j]? = some (.slice A' t.length c') ∧ t.length ≤ c' ∧ c' ≤ maxLen ∧ t.length ≤ 1000 ∧ (t ≠ [] → ∃ g, A' = some ⟨g, 0, none⟩ ∧ base ≤ g ∧ g < w.heap.size ∧ v.ownBlock ≠ some g ∧ (∃ cs fz, w.heap[g]? = some (.cells cs 3 fz)) ∧ ∀ (q : Nat) (x : Int), t[q]? = some x → w.cell? ⟨g, q, none⟩ = some (.int .i64 x))
theorem own_belowB {w w' : World} {base B : Nat} {e : TypeId} {size n : Nat} {v : Value} {xs : List Value} (h : w.ownsRow base e size v n xs) (hlt : ∀ q, v.ownBlock = some q → q < B) (hb : Below B w w') : w'.ownsRow base e size v n xs := by
 refine ⟨h.1, ?_⟩; rcases h.2 with hn | ⟨g, cap, cur, rfl, hbb, hgg, rest⟩
 · exact .inl hn
 · exact .inr ⟨g, cap, cur, rfl, hbb, (hb.block g (hlt g rfl)).trans hgg, rest⟩
theorem TabsAt.keep {w w' : World} {base : Nat} {v : Value} {ts : List (List Int)} (h : TabsAt w base v ts) (hb : Below w.heap.size w w') : TabsAt w' base v ts := by
 obtain ⟨A, c, vs, h1, h2, h3, h4⟩ := h; refine ⟨A, c, vs, h1, own_keep h2 hb, h3, fun j t ht => ?_⟩; obtain ⟨A', c', k1, k2, k2', k2'', k3⟩ := h4 j t ht; refine ⟨A', c', k1, k2, k2', k2'', fun hn => ?_⟩; obtain ⟨g, e1, e2, e3, e4, ⟨cs, fz, e6⟩, e5⟩ := k3 hn; exact ⟨g, e1, e2, Nat.lt_of_lt_of_le e3 hb.size, e4, ⟨cs, fz, (hb.block g e3).trans e6⟩, fun q x hx => (hb.cell e3).trans (e5 q x hx)⟩
theorem TabsAt.gb {w w' : World} {base q : Nat} {v : Value} {ts : List (List Int)} (h : TabsAt w base v ts) (hb : w.grownBy w' (some q)) (hq : q < base) : TabsAt w' base v ts := by
 obtain ⟨A, c, vs, h1, h2, h3, h4⟩ := h; refine ⟨A, c, vs, h1, own_gb h2 hb (fun e => by have := (World.ownsRow.lt h2 q e).1; omega), h3, fun j t ht => ?_⟩; obtain ⟨A', c', k1, k2, k2', k2'', k3⟩ := h4 j t ht; refine ⟨A', c', k1, k2, k2', k2'', fun hn => ?_⟩; obtain ⟨g, e1, e2, e3, e4, ⟨cs, fz, e6⟩, e5⟩ := k3 hn; refine ⟨g, e1, e2, Nat.lt_of_lt_of_le e3 hb.size, e4, ⟨cs, fz, (hb.block g e3 (by intro e; injection e with e; omega)).trans e6⟩, fun q' x hx => ?_⟩; rw [← e5 q' x hx]; unfold World.cell?; rw [hb.block g e3 (by intro e; injection e with e; omega)]
structure ImgOwn (w : World) (base : Nat) (m : Img) (v : ImgV) : Prop where
 tx : OwnB w base (.slice v.tA m.text.length v.tc) m.text
 fn : w.ownsRow base 114 3 (.slice v.fA m.funcs.length v.fc) m.funcs.length (funcsV m.funcs)
 dt : w.ownsRow base 3 1 (.slice v.dA m.data.length v.dc) m.data.length (intsV .i64 m.data)
 ln : w.ownsRow base 144 2 (.slice v.lA m.lines.length v.lc) m.lines.length (linesV m.lines)
 tb : ∃ b0, base ≤ b0 ∧ TabsAt w b0 (.slice v.bA m.tables.length v.bc) m.tables ∧ ∀ q, (Value.slice v.dA m.data.length v.dc).ownBlock = some q → q < b0
theorem own_rdg {w : World} {base : Nat} {e : TypeId} {size n c : Nat} {A : Option Addr} {xs : List Value} (h : w.ownsRow base e size (.slice A n c) n xs) : RdG w w.heap.size A xs := by
 intro hn
 have hn0 : n ≠ 0 := by
  intro e0; apply hn; apply List.eq_nil_of_length_eq_zero; rw [h.1, e0, Nat.zero_mul]
 obtain ⟨g, rfl⟩ := own_some h hn0; obtain ⟨o1, o2, o3, o4⟩ := own_at h; exact ⟨g, 0, rfl, o3, fun j u hu => by rw [Nat.zero_add]; exact o4 j u hu⟩
theorem ImgOwn.rd {w : World} {base : Nat} {m : Img} {v : ImgV} (h : ImgOwn w base m v) : ImgRd w w.heap.size m v := by
 refine ⟨own_rdg h.tx, own_rdg h.fn, ?_, own_rdg h.dt, own_rdg h.ln⟩; obtain ⟨b0, -, ⟨A, c, vs, h1, h2, h3, h4⟩, -⟩ := h.tb; refine ⟨vs, h3, own_rdg h2, fun j t ht => ?_⟩; obtain ⟨A', c', k1, k2, k2', k2'', k3⟩ := h4 j t ht; refine ⟨A', c', k1, k2, k2', by omega, fun hn => ?_⟩
 have hn' : t ≠ [] := by
  intro e; apply hn; rw [e]
  rfl
 obtain ⟨g, e1, e2, e3, e4, -, e5⟩ := k3 hn'; refine ⟨g, 0, e1, e3, fun q u hu => ?_⟩; simp only [intsV, List.getElem?_map, Option.map_eq_some_iff] at hu; obtain ⟨x, hx, rfl⟩ := hu; rw [Nat.zero_add]; exact e5 q x hx
theorem ImgOwn.keep {w w' : World} {base : Nat} {m : Img} {v : ImgV} (h : ImgOwn w base m v) (hb : Below w.heap.size w w') : ImgOwn w' base m v :=
 ⟨own_keep h.tx hb, own_keep h.fn hb, own_keep h.dt hb, own_keep h.ln hb, by obtain ⟨b0, h1, h2, h3⟩ := h.tb; exact ⟨b0, h1, h2.keep hb, h3⟩⟩
theorem ImgOwn.gb {w w' : World} {base q : Nat} {m : Img} {v : ImgV} (h : ImgOwn w base m v) (hb : w.grownBy w' (some q)) (hq : q < base) : ImgOwn w' base m v := by
 have ne : ∀ {e : TypeId} {size n : Nat} {u : Value} {xs : List Value}, w.ownsRow base e size u n xs → u.ownBlock ≠ some q := fun h e => by
  have := (World.ownsRow.lt h q e).1; omega
 refine ⟨own_gb h.tx hb (ne h.tx), own_gb h.fn hb (ne h.fn), own_gb h.dt hb (ne h.dt), own_gb h.ln hb (ne h.ln), ?_⟩; obtain ⟨b0, h1, h2, h3⟩ := h.tb; exact ⟨b0, h1, h2.gb hb (by omega), h3⟩
theorem ImgOwn.more {w : World} {base b : Nat} {m : Img} {v : ImgV} (h : ImgOwn w base m v) (hb : b ≤ base) : ImgOwn w b m v :=
 ⟨own_more h.tx hb, own_more h.fn hb, own_more h.dt hb, own_more h.ln hb, by obtain ⟨b0, h1, h2, h3⟩ := h.tb; exact ⟨b0, by omega, h2, h3⟩⟩
def AsmPost (w : World) (base : Nat) (bs : List (List Spot)) (fs : List Int) (L : List RawI) (e : Ending) (w' : World) : Prop :=
 Below base w w' ∧ ∃ (v : ImgV) (m : Img), e = .returned (.agg (m.val v)) ∧ ImgOwn w' base m v ∧ ImgOk m v ∧ IsProg bs fs L m
structure PlanRd (w : World) (X : Nat) (bs : List (List Spot)) (fs : List Int) (gb bc gf fc : Nat) (gs : List (Nat × Nat)) : Prop where
 x0 : w.cell? ⟨X, 0, none⟩ = some (.slice (some ⟨gb, 0, none⟩) bs.length bc)
 x1 : w.cell? ⟨X, 1, none⟩ = some (.slice (some ⟨gf, 0, none⟩) fs.length fc)
 xl : X < w.heap.size
 bl : gb < w.heap.size
 fl : gf < w.heap.size
 bcap : bs.length ≤ bc
 blk : ∀ (j : Nat) (b : List Spot), bs[j]? = some b → ∃ g c, gs[j]? = some (g, c) ∧ w.cell? ⟨gb, j, none⟩ = some (.slice (some ⟨g, 0, none⟩) b.length c) ∧ b.length ≤ c ∧ g < w.heap.size ∧ ∀ (i : Nat) (v : Value), (spotsC b)[i]? = some v → w.cell? ⟨g, i, none⟩ = some v
 fn : ∀ (j : Nat) (v : Int), fs[j]? = some v → w.cell? ⟨gf, j, none⟩ = some (.int .i64 v)
theorem PlanRd.keep {w w' : World} {X : Nat} {bs : List (List Spot)} {fs : List Int} {gb bc gf fc : Nat} {gs : List (Nat × Nat)} (h : PlanRd w X bs fs gb bc gf fc gs) (hb : Below w.heap.size w w') : PlanRd w' X bs fs gb bc gf fc gs :=
 ⟨(hb.cell h.xl).trans h.x0, (hb.cell h.xl).trans h.x1, Nat.lt_of_lt_of_le h.xl hb.size, Nat.lt_of_lt_of_le h.bl hb.size, Nat.lt_of_lt_of_le h.fl hb.size, h.bcap, fun j b hj => by
  obtain ⟨g, c, h1, h2, h3, h4, h5⟩ := h.blk j b hj
  exact ⟨g, c, h1, (hb.cell h.bl).trans h2, h3, Nat.lt_of_lt_of_le h4 hb.size, fun i v hv => (hb.cell h4).trans (h5 i v hv)⟩, fun j v hv => (hb.cell h.fl).trans (h.fn j v hv)⟩
theorem PlanAt.rd {w : World} {base X : Nat} {bs : List (List Spot)} {fs : List Int} {bA : Option Addr} {bc : Nat} {fA : Option Addr} {fc : Nat} {gs : List (Nat × Nat)} (h : PlanAt w base X bs fs bA bc fA fc gs) (h1 : bs.length ≠ 0) (h2 : fs.length ≠ 0) :
 ∃ gb gf, bA = some ⟨gb, 0, none⟩ ∧ fA = some ⟨gf, 0, none⟩ ∧ PlanRd w X bs fs gb bc gf fc gs := by
 obtain ⟨gb, rfl⟩ := own_some h.outer h1; obtain ⟨gf, rfl⟩ := own_some h.fown h2; obtain ⟨o1, o2, o3, o4⟩ := own_at h.outer; obtain ⟨p1, p2, p3, p4⟩ := own_at h.fown; refine ⟨gb, gf, rfl, rfl, h.blk.cell 0 rfl, h.blk.cell 1 rfl, h.blk.lt, o3, p3, o1, fun j b hj => ?_, fun j v hv => p4 j _ (by simp [intsV, hv])⟩; have hl := (List.getElem?_eq_some_iff.1 hj).1; have hg : gs[j]? = some (gs[j]'(by rw [h.gl]; exact hl)) := gE' _; obtain ⟨⟨g, c⟩, hgc⟩ := ex' (gs[j]'(by rw [h.gl]; exact hl))
 rw [hgc] at hg; obtain ⟨i1, -⟩ := h.inner j (g, c) b hg hj; obtain ⟨q1, q2, q3, q4⟩ := own_at i1; exact ⟨g, c, hg, o4 j _ (gsV_at gs bs j (g, c) b hg hj), q1, q3, q4⟩
theorem PlanOk.fnz {bs : List (List Spot)} {fs : List Int} (h : PlanOk bs fs) : bs.length ≠ 0 ∧ fs.length ≠ 0 := by
 have h1 := h.nf; have h2 := h.fb 0 0 h.f0; exact ⟨by omega, by omega⟩
theorem flat_le {bs : List (List Spot)} {b : List Spot} (h : b ∈ bs) : b.length ≤ bs.flatten.length := by
 induction bs with
 | nil => cases h
 | cons x r ih =>
  rw [List.flatten_cons, List.length_append]; rcases List.mem_cons.1 h with rfl | h
  · omega
  · have := ih h; omega
theorem PlanOk.blen {bs : List (List Spot)} {fs : List Int} (h : PlanOk bs fs) {b : List Spot} (hb : b ∈ bs) : b.length ≤ 400 := Nat.le_trans (flat_le hb) h.ns
theorem PlanOk.fnd {bs : List (List Spot)} {fs : List Int} (h : PlanOk bs fs) (f : Nat) (hf : f < fs.length) : ∃ a z : Nat, fs[f]? = some (a : Int) ∧ endB bs fs (f : Int) = (z : Int) ∧ a < z ∧ z ≤ bs.length ∧ (f + 1 < fs.length → fs[f + 1]? = some (z : Int)) ∧ (¬ f + 1 < fs.length → z = bs.length) := by
 have h1 : fs[f]? = some (fs[f]'hf) := gE' hf; obtain ⟨v, hv⟩ := ex' (fs[f]'hf)
 rw [hv] at h1; have hb := h.fb f v h1; obtain ⟨a, rfl⟩ := Int.eq_ofNat_of_zero_le hb.1; unfold endB
 by_cases hn : f + 1 < fs.length
 · have h2 : fs[f + 1]? = some (fs[f + 1]'hn) := gE' hn; obtain ⟨u, hu⟩ := ex' (fs[f + 1]'hn)
   rw [hu] at h2; have hb2 := h.fb (f + 1) u h2; have hlt := h.fi f _ _ h1 h2; obtain ⟨z, rfl⟩ := Int.eq_ofNat_of_zero_le hb2.1; refine ⟨a, z, h1, ?_, by omega, by omega, fun _ => h2, fun hh => absurd hn hh⟩; rw [if_pos (by omega), show ((f : Int) + 1).toNat = f + 1 by omega, List.getD_eq_getElem?_getD, h2]
   rfl
 · exact ⟨a, bs.length, h1, by rw [if_neg (by omega)], by omega, Nat.le_refl _, fun hh => absurd hh hn, fun _ => rfl⟩
theorem ownGo_none (bs : List (List Spot)) (fs : List Int) (t : Int) (f : Nat) (h : ownGo bs fs t f = none) : ∀ k, ownGo bs fs t (f + k) = none := by
 intro k
 induction k with
 | zero => exact h
 | succ k ih =>
  show ownGo bs fs t (f + k + 1) = none; simp only [ownGo, ih]
theorem ownGo_lt (bs : List (List Spot)) (fs : List Int) (t : Int) : ∀ (f : Nat) (o : Int), ownGo bs fs t f = some o → -1 ≤ o ∧ o < f := by
 intro f
 induction f with
 | zero =>
  intro o h; simp only [ownGo, Option.some.injEq] at h; omega
 | succ f ih =>
  intro o h; simp only [ownGo] at h
  split at h
  · cases h
  · rename_i o' ho'
    have := ih o' ho'
    split at h
    · split at h
      · cases h
      · injection h with h; omega
    · injection h with h; omega
end Go.Proofs.YtcdlgjhdbmmomaaGreatDoor
namespace Go.Proofs.YtcdlgjhdbmmomaaGreatDoor
open Go.RowKit
set_option maxHeartbeats 1000000 in
set_option maxRecDepth 100000 in
theorem itoa_small (i : Nat) (hi : i < 3) (w : World) : Calls Tryz.prog 39 #[.int .i64 (i : Int)] w fun e w' => e = .returned (.string ⟨#[(48 + i).toUInt8]⟩) ∧ w = w' := by
 have h3 : i = 0 ∨ i = 1 ∨ i = 2 := by omega
 rcases h3 with rfl | rfl | rfl
 all_goals
  go_enter Tryz.func39, Tryz.ntmps39
  go_wp2_with fail
  go_enter Tryz.func63, Tryz.ntmps63
  go_wp2_with fail
  go_enter Tryz.func98, Tryz.ntmps98
  go_wp2_with fail
  go_enter Tryz.func144, Tryz.ntmps144
  go_wp2_with fail
  go_ret
  go_wp2

  first | rfl | decide | kernel_rfl
def ownJ (bs : List (List Spot)) (a : Nat) (t o : Int) (f j : Nat) : Int := if ((bs.drop a).take j).any (endsT · t) then (f : Int) else o
def ownB (bs : List (List Spot)) (a : Nat) (t : Int) (j : Nat) : Bool := ((bs.drop a).take j).any (endsT · t)
theorem ownB_succ {bs : List (List Spot)} {a j : Nat} {t : Int} {b : List Spot} (h : bs[a + j]? = some b) : ownB bs a t (j + 1) = (ownB bs a t j || endsT b t) := by
 unfold ownB; have : (bs.drop a)[j]? = some b := by rw [List.getElem?_drop]; exact h
 rw [List.take_add_one, this]; simp
theorem ownJ_eq (bs : List (List Spot)) (a : Nat) (t o : Int) (f j : Nat) : ownJ bs a t o f j = if ownB bs a t j = true then (f : Int) else o := rfl
theorem ownGo_step {bs : List (List Spot)} {fs : List Int} {t o : Int} {f a z : Nat} (h : ownGo bs fs t f = some o) (ha : fs[f]? = some (a : Int)) (hz : endB bs fs (f : Int) = (z : Int)) : ownGo bs fs t (f + 1) = if ownB bs a t (z - a) = true then (if 0 ≤ o then none else some (f : Int)) else some o := by
 simp only [ownGo, h]
 have e : ((bs.take (endB bs fs (f : Int)).toNat).drop (fs.getD f 0).toNat) = (bs.drop a).take (z - a) := by
  rw [hz, List.getD_eq_getElem?_getD, ha, List.drop_take]
  rfl
 rw [e]
 rfl
theorem ownB_mono {bs : List (List Spot)} {a : Nat} {t : Int} {j k : Nat} (h : ownB bs a t j = true) (hk : j ≤ k) : ownB bs a t k = true := by
 unfold ownB at *; rw [List.any_eq_true] at *; obtain ⟨x, hx, hp⟩ := h; refine ⟨x, ?_, hp⟩; have : (bs.drop a).take j = ((bs.drop a).take k).take j := by rw [List.take_take, Nat.min_eq_left hk]
 rw [this] at hx; exact List.mem_of_mem_take hx
theorem owner_stop {bs : List (List Spot)} {fs : List Int} {t o : Int} {f a z : Nat} {j : Nat} (h : ownGo bs fs t f = some o) (ha : fs[f]? = some (a : Int)) (hz : endB bs fs (f : Int) = (z : Int)) (hj : j ≤ z - a) (hb : ownB bs a t j = true) (ho : 0 ≤ o) (hf : f < fs.length) : ownerF bs fs t = -1 := by
 have h1 := ownGo_step h ha hz; rw [if_pos (ownB_mono hb hj), if_pos ho] at h1; have h2 := ownGo_none bs fs t (f + 1) h1 (fs.length - (f + 1)); rw [show f + 1 + (fs.length - (f + 1)) = fs.length by omega] at h2; unfold ownerF; rw [h2]
 rfl
theorem endsT_last {b : List Spot} {k : Nat} {s : Spot} {t : Int} (hl : b.length = k + 1) (hs : b[k]? = some s) : endsT b t = (s.i.k == 24 && s.i.n == t) := by
 unfold endsT; rw [List.getLast?_eq_getElem?, hl]; simp only [Nat.add_sub_cancel, hs]
set_option maxHeartbeats 8000000 in
set_option maxRecDepth 100000 in
theorem owner_any (t : Int) (X : Nat) (bs : List (List Spot)) (fs : List Int) (gb bc gf fc : Nat) (gs : List (Nat × Nat)) (w : World) (hR : PlanRd w X bs fs gb bc gf fc gs) (hO : PlanOk bs fs) :
 Calls Tryz.prog 77 #[.pointer (some ⟨X, 0, none⟩), .int .i64 t] w fun e w' => e = .returned (.int .i64 (ownerF bs fs t)) ∧ Below w.heap.size w w' := by
 have HR := hd' hR; have HO := hd' hO; have hnb := hO.nb; have hnf := hO.nf.2; have hbcap := hR.bcap; have x0 := hR.x0; have x1 := hR.x1; have xl := hR.xl; obtain ⟨nb, hnbe⟩ := ex' bs.length
 obtain ⟨nf, hnfe⟩ := ex' fs.length
 rw [hnbe] at hnb hbcap x0; rw [hnfe] at hnf x1; have HNB := hd' hnbe; have HNF := hd' hnfe; clear hR hO hnbe hnfe
 go_enter Tryz.func77, Tryz.ntmps77
 go_wp2_with fail
 go_loopg [5, 15] nf (fun gk s5 s15 wr => ∃ (f : Nat) (o : Int), f ≤ nf ∧ s15 = .int .i64 f ∧ s5 = .int .i64 o ∧ Hid (ownGo bs fs t f = some o) ∧ Hid (Below w.heap.size w wr) ∧ nf - f ≤ gk)
 case atStart => exact ⟨0, -1, Nat.zero_le _, rfl, rfl, rfl, Below.refl _ _, Nat.le_refl _⟩
 case round =>
  clear x0 x1 xl; obtain ⟨f, o, hf, rfl, rfl, HG, HB, hgk⟩ := hrel
  by_cases hlt : f < nf
  · have hltI : (f : Int) < (nf : Int) := by omega
    obtain ⟨a, z, ha, hz, haz, hzb, hn1, hn2⟩ := HO.out.fnd f (by rw [HNF.out]; exact hlt); rw [HNF.out] at hn1 hn2; rw [HNB.out] at hzb hn2; have hol := ownGo_lt bs fs t f o HG.out; have hpr := HR.out.keep HB.out; have x0 : wr.cell? ⟨X, 0, none⟩ = some (.slice (some ⟨gb, 0, none⟩) nb bc) := by rw [← HNB.out]; exact hpr.x0
    have x1 : wr.cell? ⟨X, 1, none⟩ = some (.slice (some ⟨gf, 0, none⟩) nf fc) := by rw [← HNF.out]; exact hpr.x1
    have xl := hpr.xl; have cf := hpr.fn f _ ha; have fl := hpr.fl; have bl := hpr.bl; have HA := hd' ha; have HZ := hd' hz; have HN1 := hd' hn1; have HN2 := hd' hn2; have HPR := hd' hpr; clear ha hz hn1 hn2 hpr
    go_upto_if 30 with fail
    go_cut [7] (fun s7 wx => s7 = .int .i64 (z : Int) ∧ wx = wr)
    case first =>
     by_cases hq : f + 1 < nf
     · have hqI : (f : Int) + 1 < (nf : Int) := by omega
       have cf1 := HPR.out.fn (f + 1) _ (HN1.out hq)
       go_wp2
       go_meet
       exact ⟨rfl, rfl⟩
     · have hqI : ¬ (f : Int) + 1 < (nf : Int) := by omega
       have hzz := HN2.out hq; subst hzz
       go_wp2
       go_meet
       exact ⟨rfl, rfl⟩
    case rest =>
     obtain ⟨rfl, rfl⟩ := hcut; have hfI : (0 : Int) ≤ (f : Int) := by omega
     have g1 : (a : Int) ≤ (z : Int) := by omega
     have g2 : (z : Int) ≤ (bc : Int) := by omega
     have g3 : ¬ bc = a := by omega
     go_upto_region 8 with fail
     go_region
     go_wp2_with fail
     obtain ⟨r, hr⟩ := ex' (z - a)
     rw [hr]; have har : a + r ≤ nb := by omega
     have HRR := hd' hr; clear hr x0 x1 cf g1 g2 g3 hltI
     go_loopg [5, 53] r (fun gk2 s5 s53 wr2 => ∃ j : Nat, j ≤ r ∧ s53 = .int .i64 j ∧ s5 = .int .i64 (ownJ bs a t o f j) ∧ Hid (ownB bs a t j = true → o < 0) ∧ Hid (Below w.heap.size w wr2) ∧ r - j ≤ gk2)
     case atStart => exact ⟨0, Nat.zero_le _, rfl, rfl, fun h => by simp [ownB] at h, HB.out.drew, Nat.le_refl _⟩
     case round =>
      obtain ⟨j, hj, rfl, rfl, HJ, HB2, hgk2⟩ := hrel
      by_cases hjl : j < r
      · have hjlI : (j : Int) < (r : Int) := by omega
        have hb : bs[a + j]? = some (bs[a + j]'(by have := HNB.out; omega)) := gE' _; obtain ⟨b, hbe⟩ := ex' (bs[a + j]'(by have := HNB.out; omega))
        rw [hbe] at hb; have hpr2 := HR.out.keep HB2.out; obtain ⟨g, cc, -, hcb, hbc, hgl, hcs⟩ := hpr2.blk (a + j) b hb; have hne := HO.out.ne b (mG' hb); obtain ⟨k, hk⟩ : ∃ k, b.length = k + 1 := ⟨b.length - 1, by cases b with | nil => exact absurd rfl hne | cons x y => simp⟩
        have hk400 : k < 400 := by have := HO.out.blen (mG' hb); omega
        have hsl : b[k]? = some (b[k]'(by omega)) := gE' _; obtain ⟨⟨⟨sk, sd, sa, sb, sn, sl⟩, sB, sF, sL⟩, hse⟩ := ex' (b[k]'(by omega))
        rw [hse] at hsl; have hk1 : ¬ (k : Int) + 1 = 0 := by omega
        have hk2 : ((k : Int) + 1 == 0) = false := by simp; omega
        have d0 := hcs (k * 9 + 0) _ (spotsC_at hsl 0 _ rfl); have d4 := hcs (k * 9 + 4) _ (spotsC_at hsl 4 _ rfl); simp only [Nat.add_zero] at d0 d4; rw [hk] at hcb hbc; have hend : endsT b t = (sk == 24 && sn == t) := endsT_last hk hsl; have hstep := ownB_succ (t := t) hb; rw [hend] at hstep; have HST := hd' hstep; have hJE := ownJ_eq bs a t o f j; have hJE2 := ownJ_eq bs a t o f (j + 1); rw [hstep] at hJE2; have bl2 := hpr2.bl; clear hbe hb hpr2 hcs hne hk hsl hse hend hstep hbc; obtain ⟨v, hv⟩ := ex' (ownJ bs a t o f j)
        rw [hv] at hJE ⊢
        by_cases hq : sk = 24 ∧ sn = t
        · have q1 : (sk != 24) = false := by simp [hq.1]
          have q2 : (sn != t) = false := by simp [hq.2]
          have hs1 : (ownB bs a t j || sk == 24 && sn == t) = true := by simp [hq.1, hq.2]
          rw [hs1, if_pos rfl] at hJE2; rw [hs1] at HST; clear hq hs1
          by_cases hbj : ownB bs a t j = true
          · rw [if_pos hbj] at hJE; have HJ3 := hd' (HJ.out hbj); subst hJE; have v1 : (0 : Int) ≤ (f : Int) := by omega
            have v2 : ((f : Int) != (f : Int)) = false := by simp
            have HJE2 := hd' hJE2; clear hbj HJ hv hJE2
            go_wp2
            go_roundg (r - (j + 1))
            case measure => omega
            case rel => exact ⟨j + 1, by omega, by go_num, by rw [HJE2.out], fun _ => HJ3.out, HB2.out, Nat.le_refl _⟩
          · rw [if_neg hbj] at hJE; subst hJE; have HJE2 := hd' hJE2; clear hbj hv hJE2
            by_cases ho : 0 ≤ v
            · have v2 : ¬ v = (f : Int) := by omega
              have v3 : (v != (f : Int)) = true := by simp; omega
              have v4 : decide ((0 : Int) ≤ v) = true := by simpa using ho
              have hout : ownerF bs fs t = -1 := owner_stop (j := j + 1) HG.out HA.out HZ.out (by have := HRR.out; omega) HST.out ho (by rw [HNF.out]; exact hlt); have HOUT := hd' hout; clear hout
              go_wp2
              go_ret
              exact ⟨by rw [HOUT.out]; rfl, HB2.out⟩
            · have v1 : decide ((0 : Int) ≤ v) = false := by simpa using ho
              have HV := hd' (show v < 0 by omega)
              go_wp2
              go_roundg (r - (j + 1))
              case measure => omega
              case rel => exact ⟨j + 1, by omega, by go_num, by rw [HJE2.out], fun _ => HV.out, HB2.out, Nat.le_refl _⟩
        · have hs1 : (sk == 24 && sn == t) = false := by
           by_cases h1 : sk = 24
           · have h2 : sn ≠ t := fun h => hq ⟨h1, h⟩
             simp [h1, h2]
           · simp [h1]
          rw [hs1, Bool.or_false] at hJE2; rw [hs1, Bool.or_false] at HST; rw [← hJE] at hJE2; have HJE2 := hd' hJE2; clear hs1 hJE hJE2 hv; have HJ5 : Hid (ownB bs a t (j + 1) = true → o < 0) := hd' (by rw [HST.out]; exact HJ.out)
          by_cases h1 : sk = 24
          · have q1 : (sk != 24) = false := by simp [h1]
            have q2 : (sn != t) = true := by
             have : sn ≠ t := fun h => hq ⟨h1, h⟩
             simpa using this
            clear hq h1
            go_wp2
            go_roundg (r - (j + 1))
            case measure => omega
            case rel => exact ⟨j + 1, by omega, by go_num, by rw [HJE2.out], HJ5.out, HB2.out, Nat.le_refl _⟩
          · have q1 : (sk != 24) = true := by simpa using h1
            clear hq h1
            go_wp2
            go_roundg (r - (j + 1))
            case measure => omega
            case rel => exact ⟨j + 1, by omega, by go_num, by rw [HJE2.out], HJ5.out, HB2.out, Nat.le_refl _⟩
      · have hjlI : ¬ (j : Int) < (r : Int) := by omega
        obtain rfl : j = r := by omega
        have hstep := ownGo_step HG.out HA.out HZ.out; rw [HRR.out] at hstep
        have hnew : ownGo bs fs t (f + 1) = some (ownJ bs a t o f j) := by
         rw [hstep, ownJ_eq]
         by_cases hb : ownB bs a t j = true
         · have := HJ.out hb; rw [if_pos hb, if_pos hb, if_neg (by omega)]
         · rw [if_neg hb, if_neg hb]
        have HNEW := hd' hnew; clear hstep hnew
        go_wp2
        go_roundg (nf - (f + 1))
        case measure => omega
        case rel => exact ⟨f + 1, _, by omega, by go_num, rfl, HNEW.out, HB2.out, Nat.le_refl _⟩
  · have hltI : ¬ (f : Int) < (nf : Int) := by omega
    obtain rfl : f = nf := by omega
    have hout : ownerF bs fs t = o := by unfold ownerF; rw [HNF.out, HG.out]; rfl
    have HOUT := hd' hout; clear hout
    go_wp2
    go_ret
    exact ⟨by rw [HOUT.out]; rfl, HB.out⟩
def codeS (bs : List (List Spot)) (fs : List Int) (here : Int) (s : Spot) : List Int := if (resI bs fs here s).chk = 0 then (resI bs fs here s).enc else List.replicate (szS s).toNat 0
def codeL (bs : List (List Spot)) (fs : List Int) : Int → List Spot → List Int
 | _, [] => []
 | here, s :: r => codeS bs fs here s ++ codeL bs fs (here + szS s) r
theorem codeL_snoc (bs : List (List Spot)) (fs : List Int) (l : List Spot) (s : Spot) : ∀ here, codeL bs fs here (l ++ [s]) = codeL bs fs here l ++ codeS bs fs (here + szL l) s := by
 induction l with
 | nil => intro here; simp [codeL, szL]
 | cons x r ih =>
  intro here; simp only [List.cons_append, codeL, ih, szL, List.append_assoc]; rw [show here + szS x + szL r = here + (szS x + szL r) by omega]
def lnAfter : Int → List Spot → Int
 | ln, [] => ln
 | _, s :: r => lnAfter s.line r
theorem lnAfter_snoc (l : List Spot) (s : Spot) : ∀ ln, lnAfter ln (l ++ [s]) = s.line := by
 induction l with
 | nil => intro ln; rfl
 | cons x r ih => intro ln; exact ih x.line
theorem linL_snoc (l : List Spot) (s : Spot) : ∀ ln here, linL ln here (l ++ [s]) = linL ln here l ++ (if s.line = lnAfter ln l then [] else [(here + szL l, s.line)]) := by
 induction l with
 | nil =>
  intro ln here; simp only [List.nil_append, linL, lnAfter, szL, Int.add_zero]
 | cons x r ih =>
  intro ln here; simp only [List.cons_append, linL, szL]; have e : here + (szS x + szL r) = here + szS x + szL r := by omega
  split
  · rename_i h
    rw [ih, ← h, e]
    rfl
  · rw [ih, e]
    rfl
theorem resL_snoc (bs : List (List Spot)) (fs : List Int) (l : List Spot) (s : Spot) : ∀ here, resL bs fs here (l ++ [s]) = resL bs fs here l ++ [resI bs fs (here + szL l) s] := by
 induction l with
 | nil => intro here; simp [resL, szL]
 | cons x r ih =>
  intro here; simp only [List.cons_append, resL, ih, szL]; rw [show here + szS x + szL r = here + (szS x + szL r) by omega]
theorem codeL_enc (bs : List (List Spot)) (fs : List Int) (l : List Spot) : ∀ here, (∀ i ∈ resL bs fs here l, i.chk = 0) → codeL bs fs here l = encAll (resL bs fs here l) := by
 induction l with
 | nil => intro here _; rfl
 | cons x r ih =>
  intro here h; simp only [resL, List.mem_cons, forall_eq_or_imp] at h; simp only [codeL, resL]; rw [ih _ h.2, codeS, if_pos h.1]
  rfl
theorem chk_go (k : Int) (l : Bool) (hk : 18 ≤ k ∧ k ≤ 22) : (⟨k, 0, 0, 0, 0, l⟩ : Ins).chk = 0 := by
 have hk' : k = 18 ∨ k = 19 ∨ k = 20 ∨ k = 21 ∨ k = 22 := by omega
 rcases hk' with rfl | rfl | rfl | rfl | rfl <;> cases l <;> decide +kernel
theorem szS_bd {B F : Nat} {s : Spot} (h : SpotOk B F s) : 1 ≤ szS s ∧ szS s ≤ 4 := by
 have h1 := enc_len h.1; have h2 := enc_pos h.1; unfold szS; omega
theorem szL_bd {B F : Nat} : ∀ (l : List Spot), (∀ s ∈ l, SpotOk B F s) → (l.length : Int) ≤ szL l ∧ szL l ≤ 4 * l.length := by
 intro l
 induction l with
 | nil => intro _; simp [szL]
 | cons x r ih =>
  intro h; have h1 := szS_bd (h x (by simp)); have h2 := ih fun s hs => h s (by simp [hs])
  simp only [szL, List.length_cons]; omega
theorem PlanOk.flat {bs : List (List Spot)} {fs : List Int} (h : PlanOk bs fs) : ∀ s ∈ bs.flatten, SpotOk bs.length fs.length s := by
 intro s hs; obtain ⟨b, hb, hsb⟩ := List.mem_flatten.1 hs; exact h.ok b hb s hsb
theorem take_flat_le (bs : List (List Spot)) (k : Nat) : (bs.take k).flatten.length ≤ bs.flatten.length := by
 have e : bs.flatten = (bs.take k).flatten ++ (bs.drop k).flatten := by rw [← List.flatten_append, List.take_append_drop]
 rw [e, List.length_append]; omega
theorem PlanOk.atB_bd {bs : List (List Spot)} {fs : List Int} (h : PlanOk bs fs) (k : Int) : 0 ≤ atB bs k ∧ atB bs k ≤ 1600 := by
 have h1 := szL_bd (B := bs.length) (F := fs.length) (bs.take k.toNat).flatten fun s hs => by
  obtain ⟨b, hb, hsb⟩ := List.mem_flatten.1 hs; exact h.ok b (List.mem_of_mem_take hb) s hsb
 have h2 := take_flat_le bs k.toNat; have h3 := h.ns; unfold atB; omega
theorem take_flat_succ {bs : List (List Spot)} {k : Nat} {b : List Spot} (h : bs[k]? = some b) : (bs.take (k + 1)).flatten = (bs.take k).flatten ++ b := by
 rw [List.take_add_one, h]; simp
def doneL (bs : List (List Spot)) (k j : Nat) : List Spot := (bs.take k).flatten ++ ((bs[k]?.getD []).take j)
theorem doneL_zero (bs : List (List Spot)) (k : Nat) : doneL bs k 0 = (bs.take k).flatten := by simp [doneL]
theorem doneL_succ {bs : List (List Spot)} {k j : Nat} {b : List Spot} {s : Spot} (hb : bs[k]? = some b) (hs : b[j]? = some s) : doneL bs k (j + 1) = doneL bs k j ++ [s] := by
 unfold doneL; rw [hb, Option.getD_some, List.take_add_one, hs, List.append_assoc]
 rfl
theorem doneL_next {bs : List (List Spot)} {k : Nat} {b : List Spot} (hb : bs[k]? = some b) : doneL bs k b.length = doneL bs (k + 1) 0 := by
 rw [doneL_zero, take_flat_succ hb]; simp [doneL, hb]
theorem doneL_all (bs : List (List Spot)) : doneL bs bs.length 0 = bs.flatten := by simp [doneL]
theorem doneL_mem {bs : List (List Spot)} {fs : List Int} (h : PlanOk bs fs) (k j : Nat) : ∀ s ∈ doneL bs k j, SpotOk bs.length fs.length s := by
 intro s hs; unfold doneL at hs; rw [List.mem_append] at hs; rcases hs with hs | hs
 · obtain ⟨b, hb, hsb⟩ := List.mem_flatten.1 hs; exact h.ok b (List.mem_of_mem_take hb) s hsb
 · cases hk : bs[k]? with
   | none => rw [hk] at hs; simp at hs
   | some b =>
    rw [hk] at hs; exact h.ok b (mG' hk) s (List.mem_of_mem_take hs)
theorem doneL_len {bs : List (List Spot)} {fs : List Int} (h : PlanOk bs fs) (k j : Nat) : (doneL bs k j).length ≤ 400 := by
 have h1 := h.ns; unfold doneL; rw [List.length_append, List.length_take]
 cases hk : bs[k]? with
 | none =>
  have := take_flat_le bs k; simp only [Option.getD_none, List.length_nil]; omega
 | some b =>
  have e := take_flat_succ hk; have := take_flat_le bs (k + 1); rw [e, List.length_append] at this; simp only [Option.getD_some]; omega
theorem doneL_bd {bs : List (List Spot)} {fs : List Int} (h : PlanOk bs fs) (k j : Nat) : 0 ≤ szL (doneL bs k j) ∧ szL (doneL bs k j) ≤ 1600 := by
 have h1 := szL_bd _ (doneL_mem h k j); have h2 := doneL_len h k j; omega
theorem plainI_ok (r : RawI) : (plainI r).chk = 0 ∧ (plainI r).l = false := by
 have ha := pickL_bd r.a 7 (by decide); have hb := pickL_bd r.b 7 (by decide); have hc := pickL_bd r.c 7 (by decide); have hc6 := pickL_bd r.c 6 (by decide); have hc12 := pickL_bd r.c 12 (by decide); have hc40 := pickL_bd r.c 40 (by decide); have t7 := tab_three (7 + pickL r.c 7) (by omega); rw [ins_chk_zero]; simp only [plainI]; generalize pickL r.a 7 = A at *; generalize pickL r.b 7 = B at *; generalize pickL r.c 7 = C at *; generalize pickL r.c 6 = C6 at *; generalize pickL r.c 12 = C12 at *; generalize pickL r.c 40 = C40 at *
 split
 · simp [Ins.regs, formBad, nOk, tab_5, hasD, hasA, hasB, hasN, inside]; omega
 split
 · simp [Ins.regs, formBad, nOk, tab_6, hasD, hasA, hasB, hasN, inside]; omega
 split
 · simp [Ins.regs, formBad, nOk, t7, hasD, hasA, hasB, hasN, inside]; omega
 split
 · simp [Ins.regs, formBad, nOk, tab_14, hasD, hasA, hasB, hasN, inside]; omega
 split
 · simp [Ins.regs, formBad, nOk, tab_15, hasD, hasA, hasB, hasN, inside]; omega
 split
 · simp [Ins.regs, formBad, nOk, tab_16, hasD, hasA, hasB, hasN, inside]; omega
 split
 · simp [Ins.regs, formBad, nOk, tab_4, hasD, hasA, hasB, hasN, inside]
 · simp [Ins.regs, formBad, nOk, tab_17, hasD, hasA, hasB, hasN, inside]; omega
theorem plainI_k (r : RawI) : (plainI r).k < 18 := by
 have h1 := pickL_bd r.c 7 (by decide); unfold plainI; simp only
 split
 · simp
 · split
   · simp
   · split
     · simp only; omega
     · split
       · simp
       · split
         · simp
         · split
           · simp
           · split <;> simp
theorem SpotOk.mono {B B' F : Nat} {s : Spot} (h : SpotOk B F s) (hB : B ≤ B') : SpotOk B' F s := by
 obtain ⟨h1, h2, h3⟩ := h; exact ⟨h1, ⟨h2.1, by omega⟩, h3⟩
theorem mid_ok (B F : Nat) (hF : 1 ≤ F) (r : RawI) : SpotOk B F (midSpot (F : Int) r) := by
 have h5 := pickL_bd r.a 5 (by decide); have hf := pickL_bd r.a (F : Int) (by omega); unfold midSpot
 split
 · refine ⟨by show (⟨23, 0, 0, 0, 0, false⟩ : Ins).chk = 0; decide +kernel, ⟨by simp, by simp; omega⟩, ⟨by simp only; omega, by simp only; omega⟩, h5, fun h => ?_, fun _ => ⟨rfl, rfl, rfl⟩, fun _ h => ?_⟩
   · simp at h
   · simp only at h; omega
 · refine ⟨(plainI_ok r).1, ⟨by simp, by simp; omega⟩, ⟨by simp, by simp; omega⟩, h5, fun h => ?_, fun h => ?_, fun _ _ => .inl (plainI_k r)⟩
   · simp at h
   · simp at h
theorem chk_br (c a b : Int) (l : Bool) (hc : 0 ≤ c ∧ c < 4) (ha : 0 ≤ a ∧ a < 7) (hb : 0 ≤ b ∧ b < 7) : (⟨18 + c, 0, a, b, 0, l⟩ : Ins).chk = 0 := by
 have h : ∀ c : Fin 4, ∀ a b : Fin 7, ∀ l : Bool, (⟨18 + (c.val : Int), 0, (a.val : Int), (b.val : Int), 0, l⟩ : Ins).chk = 0 := by decide +kernel
 have := h ⟨c.toNat, by omega⟩ ⟨a.toNat, by omega⟩ ⟨b.toNat, by omega⟩ l; simpa [Int.toNat_of_nonneg hc.1, Int.toNat_of_nonneg ha.1, Int.toNat_of_nonneg hb.1] using this
theorem chk_tb (a n : Int) (ha : 0 ≤ a ∧ a < 7) (hn : 0 ≤ n ∧ n < 3) : (⟨24, 0, a, 0, n, false⟩ : Ins).chk = 0 := by
 have h : ∀ a : Fin 7, ∀ n : Fin 3, (⟨24, 0, (a.val : Int), 0, (n.val : Int), false⟩ : Ins).chk = 0 := by decide +kernel
 have := h ⟨a.toNat, by omega⟩ ⟨n.toNat, by omega⟩; simpa [Int.toNat_of_nonneg ha.1, Int.toNat_of_nonneg hn.1] using this
theorem end_ok (B F : Nat) (r : RawI) (n first last : Int) (h1 : 0 ≤ first) (h2 : first ≤ n) (h3 : n ≤ last) (h4 : last < B) : SpotOk B F (endSpot r n first last) := by
 have p5 := pickL_bd r.a 5 (by decide); have p7 := pickL_bd r.a 7 (by decide); have q7 := pickL_bd r.b 7 (by decide); have c4 := pickL_bd r.c 4 (by decide); have b3 := pickL_bd r.b 3 (by decide); have pt := pickL_bd r.b (last - first + 1) (by omega); unfold endSpot
 split
 · refine ⟨chk_br _ _ _ _ c4 p7 q7, ⟨by simp only; omega, by simp only; omega⟩, ⟨by simp, by simp; omega⟩, p5, fun _ => ⟨by simp only; omega, by simp only; omega, rfl, rfl⟩, fun h => by simp at h, fun h => by simp only at h; omega⟩
 · split
   · refine ⟨chk_go 22 _ (by decide), ⟨by simp only; omega, by simp only; omega⟩, ⟨by simp, by simp; omega⟩, p5, fun _ => ⟨by simp, by simp, rfl, rfl⟩, fun h => by simp at h, fun h => by simp only at h; omega⟩
   · split
     · refine ⟨chk_tb _ _ p7 b3, ⟨by simp, by simp only; omega⟩, ⟨by simp, by simp; omega⟩, p5, fun h => by simp at h, fun h => by simp at h, fun _ _ => .inr rfl⟩
     · split
       · refine ⟨by show (⟨1, 0, 0, 0, 0, false⟩ : Ins).chk = 0; decide +kernel, ⟨by simp, by simp only; omega⟩, ⟨by simp, by simp; omega⟩, p5, fun h => by simp at h, fun h => by simp at h, fun _ _ => .inl (by simp)⟩
       · refine ⟨by show (⟨3, 0, 0, 0, 0, false⟩ : Ins).chk = 0; decide +kernel, ⟨by simp, by simp only; omega⟩, ⟨by simp, by simp; omega⟩, p5, fun h => by simp at h, fun h => by simp at h, fun _ _ => .inl (by simp)⟩
theorem block_ok (B F : Nat) (hF : 1 ≤ F) (L : List RawI) (n first last : Int) (h1 : 0 ≤ first) (h2 : first ≤ n) (h3 : n ≤ last) (h4 : last < B) :
 blockOf L n first last F ≠ [] ∧ (blockOf L n first last F).length ≤ L.length + 1 ∧ ∀ s ∈ blockOf L n first last F, SpotOk B F s := by
 unfold blockOf
 split
 · rename_i h
   refine ⟨?_, by rw [List.length_map, List.length_dropLast]; omega, fun s hs => ?_⟩
   · intro e; have : (L.dropLast.map (midSpot (F : Int))).length = 0 := by rw [e]; rfl
     simp at this; omega
   · obtain ⟨r, _, rfl⟩ := List.mem_map.1 hs; exact mid_ok B F hF r
 · refine ⟨by simp, by rw [List.length_append, List.length_map, List.length_dropLast, List.length_singleton]; omega, fun s hs => ?_⟩; rw [List.mem_append] at hs; rcases hs with hs | hs
   · obtain ⟨r, _, rfl⟩ := List.mem_map.1 hs; exact mid_ok B F hF r
   · rw [List.mem_singleton] at hs; rw [hs]; exact end_ok B F _ n first last h1 h2 h3 h4
theorem fnBlocks_flat (mine : List RawI) (first many F : Nat) (hF : 1 ≤ F) : ∀ k, k ≤ many → (fnBlocks mine first many F k).flatten.length ≤ k * mine.length / many + k := by
 intro k
 induction k with
 | zero => intro _; simp [fnBlocks]
 | succ k ih =>
  intro hk; have h1 := ih (by omega); have h2 := (block_ok (first + many) F hF (partL mine k many) ((first : Int) + (k : Int)) first ((first : Int) + (many : Int) - 1) (by omega) (by omega) (by omega) (by omega)).2.1; have h3 := partL_len mine k many (by omega); have h4 := (part_le mine.length k many (by omega)).1; rw [fnBlocks_succ, List.flatten_append, List.length_append]; have e : ([fnBlock mine first many (F : Int) k].flatten).length = (fnBlock mine first many (F : Int) k).length := by simp
  rw [e]; unfold fnBlock; generalize (k + 1) * mine.length / many = y at *; generalize k * mine.length / many = x at *; omega
structure GoOk (L : List RawI) (F f : Nat) : Prop where
 flat : (planGo L F f).1.flatten.length ≤ f * L.length / F + 38 * f
 ok : ∀ b ∈ (planGo L F f).1, b ≠ [] ∧ ∀ s ∈ b, SpotOk (planGo L F f).1.length F s
 fb : ∀ (i : Nat) (v : Int), (planGo L F f).2[i]? = some v → 0 ≤ v ∧ v < (planGo L F f).1.length
 fi : ∀ (i : Nat) (v u : Int), (planGo L F f).2[i]? = some v → (planGo L F f).2[i + 1]? = some u → v < u
 f0 : 0 < f → (planGo L F f).2[0]? = some 0
theorem go_ok (L : List RawI) (F : Nat) (hF : 1 ≤ F) (hL : L.length ≤ 150) : ∀ f, f ≤ F → GoOk L F f := by
 intro f
 induction f with
 | zero =>
  intro _; exact ⟨by simp [planGo], fun b hb => by simp [planGo] at hb, fun i v h => by simp [planGo] at h, fun i v u h => by simp [planGo] at h, fun h => absurd h (by omega)⟩
 | succ f ih =>
  intro hf; obtain ⟨i1, i2, i3, i4, i5⟩ := ih (by omega); obtain ⟨bs, hbs⟩ := ex' ((planGo L F f).1)
  obtain ⟨fs, hfs⟩ := ex' ((planGo L F f).2)
  obtain ⟨mine, hmi⟩ := ex' (partL L f F)
  have hfl : fs.length = f := by rw [← hfs]; exact planGo_fs L F f
  have hml : mine.length = (f + 1) * L.length / F - f * L.length / F := by rw [← hmi]; exact partL_len L f F (by omega)
  have hmb : mine.length ≤ 150 := by rw [← hmi]; exact Nat.le_trans (partL_le L f F) hL
  have hpl := (part_le L.length f F (by omega)).1; have e1 : (planGo L F (f + 1)).1 = bs ++ fnBlocks mine bs.length (fnMany mine) F (fnMany mine) := by simp only [planGo, hbs, hmi]
  have e2 : (planGo L F (f + 1)).2 = fs ++ [(bs.length : Int)] := by simp only [planGo, hbs, hfs]
  rw [hbs] at i1 i2 i3; rw [hfs] at i3 i4 i5; have hm1 : 1 ≤ fnMany mine ∧ fnMany mine ≤ 38 := by unfold fnMany; omega
  have hlen : (bs ++ fnBlocks mine bs.length (fnMany mine) F (fnMany mine)).length = bs.length + fnMany mine := by rw [List.length_append, fnBlocks_len]
  refine ⟨?_, ?_, ?_, ?_, ?_⟩
  · rw [e1, List.flatten_append, List.length_append]; have h := fnBlocks_flat mine bs.length (fnMany mine) F hF (fnMany mine) lr'; rw [Nat.mul_div_cancel_left _ (by omega)] at h; generalize (f + 1) * L.length / F = y at *; generalize f * L.length / F = x at *; omega
  · rw [e1, hlen]; intro b hb; rw [List.mem_append] at hb; rcases hb with hb | hb
    · exact ⟨(i2 b hb).1, fun s hs => ((i2 b hb).2 s hs).mono (by omega)⟩
    · unfold fnBlocks at hb; obtain ⟨j, hj, rfl⟩ := List.mem_map.1 hb; rw [List.mem_range] at hj; have h := block_ok (bs.length + fnMany mine) F hF (partL mine j (fnMany mine)) ((bs.length : Int) + (j : Int)) bs.length ((bs.length : Int) + (fnMany mine : Int) - 1) (by omega) (by omega) (by omega) (by omega); exact ⟨h.1, h.2.2⟩
  · rw [e1, e2, hlen]; intro i v hv; rcases snoc_get hv with ⟨hv', _⟩ | ⟨_, rfl⟩
    · have := i3 i v hv'; omega
    · omega
  · rw [e2]; intro i v u hv hu; rcases snoc_get hu with ⟨hu', hul⟩ | ⟨hul, rfl⟩
    · rcases snoc_get hv with ⟨hv', _⟩ | ⟨hvl, _⟩
      · exact i4 i v u hv' hu'
      · omega
    · rcases snoc_get hv with ⟨hv', _⟩ | ⟨hvl, _⟩
      · exact (i3 i v hv').2
      · omega
  · intro _; rw [e2]
    by_cases h0 : 0 < f
    · have := i5 h0; rw [List.getElem?_append_left (by omega)]; exact this
    · have hz : f = 0 := by omega
      subst hz; have : fs = [] := List.eq_nil_of_length_eq_zero hfl; rw [this]; have hb0 : bs = [] := by rw [← hbs]; rfl
      rw [hb0]
      rfl
theorem progP_ok (l : List RawI) : PlanOk (planGo (progL l) (nFn (progL l)) (nFn (progL l))).1 (planGo (progL l) (nFn (progL l)) (nFn (progL l))).2 := by
 have hl : (progL l).length ≤ 150 := by unfold progL; rw [List.length_take]; omega
 obtain ⟨L, hL⟩ := ex' (progL l)
 rw [hL] at hl ⊢; obtain ⟨n1, n2, -⟩ := nFn_bd L; obtain ⟨F, hF⟩ := ex' (nFn L)
 rw [hF] at n1 n2 ⊢; obtain ⟨i1, i2, i3, i4, i5⟩ := go_ok L F n1 hl F lr'; have hb := planGo_bs L F F hl; have hf := planGo_fs L F F; rw [Nat.mul_div_cancel_left _ (by omega)] at i1; refine ⟨by omega, by omega, by rw [hf]; exact ⟨n1, n2⟩, i5 (by omega), i3, i4, fun b hb => (i2 b hb).1, fun b hb s hs => ?_⟩; rw [hf]; exact (i2 b hb).2 s hs
end Go.Proofs.YtcdlgjhdbmmomaaGreatDoor
