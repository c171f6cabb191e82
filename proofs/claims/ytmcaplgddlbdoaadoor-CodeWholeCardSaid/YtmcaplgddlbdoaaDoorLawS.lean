/- A slice of raw things among a law's arguments, opened; rows of the call's own carried along. -/
import Derived.Test.YtmcaplgddlbdoaaDoorLawR
import Derived.SizedLaws
import Derived.Deep.Slices
import Derived.Deep.Fields
import Derived.Deep.AppendLies
namespace Go.Proofs.YtmcaplgddlbdoaaDoor
open Go.ChangeShapes Go.WideShapes Go.ChangeAt Go.RowKit Go.Joins Go.Deep
section
variable {H : Type} {enc : TypeId × Value → H} {P : Program} {w : World} {base : Nat} {spare : Nat → Bool} {held : Bool}
theorem open_slice_fields {t e : TypeId} {fs : Array Field} {fuel : Nat} {cs : List Value} {x : DataW H × List MemPlace} (ht : P.underlying t = some (.slice e)) (he : P.underlying e = some (.struct fs))
    (hone : oneCellFields P fs = true) (hC : P.cellsOf e = fs.size) (h : DataW.trod enc P w base spare held fuel t cs = some x) :
    (cs = [.slice none 0 0] ∧ x = (.nil, [])) ∨
    ∃ (a : Addr) (len cap m : Nat) (D : Nat → DataW H) (Pl : Nat → List MemPlace), cs = [.slice (some a) len cap] ∧ base ≤ a.block ∧ len ≤ cap ∧ cap ≤ maxLen ∧ m = (if spare a.block then cap else len) ∧
      x = (.slice ((List.range len).map D) ((List.range (m - len)).map fun j => D (len + j)), MemPlace.row a (m * fs.size) ++ (List.range m).flatMap Pl) ∧
      ∀ i, i < m → ∃ (ys : List (DataW H × List MemPlace)) (n : Nat), D i = .agg (ys.map (·.1)) ∧ Pl i = ys.flatMap (·.2) ∧ ys.length = fs.size ∧
        ∀ (j : Nat) (f : Field), fs[j]? = some f → ∃ (v : Value) (y : DataW H × List MemPlace), w.cell? (a.add (i * fs.size + j)) = some v ∧ ys[j]? = some y ∧ DataW.trod enc P w base spare held n f.type [v] = some y := by
  rcases open_slice ht h with h0 | ⟨a, len, cap, m, n, D, Pl, hcs, hb, hl, hm, hmm, hx, hi⟩
  · exact .inl h0
  · refine .inr ⟨a, len, cap, m, D, Pl, hcs, hb, hl, hm, hmm, by rw [hC] at hx; exact hx, fun i him => ?_⟩
    obtain ⟨cs', hc, ht'⟩ := hi i him
    rw [hC] at hc
    obtain ⟨ys, n', hn', hy, hlen, hyl, hf⟩ := DataW.trod_struct he ht'
    obtain ⟨_, hcl, hat⟩ := World.cells?_some hc
    simp only [Prod.mk.injEq] at hy
    refine ⟨ys, n', hy.1, hy.2, hyl, fun j f hj => ?_⟩
    obtain ⟨ho, hk⟩ := hone_of hone j f hj
    have hjl : j < fs.size := (Array.getElem?_eq_some_iff.1 hj).1
    have hcell := hat j hjl
    have hv : cs'[j]? = some (cs'[j]'(by omega)) := List.getElem?_eq_getElem (by omega)
    have h1 := hf j f hj
    rw [ho, hk] at h1
    have hone' : (cs'.drop j).take 1 = [cs'[j]'(by omega)] := by
      rw [List.drop_eq_getElem_cons (by omega)]
      rfl
    rw [hone'] at h1
    have hys : ys[j]? = some (ys[j]'(by omega)) := List.getElem?_eq_getElem (by omega)
    refine ⟨_, _, ?_, hys, h1.trans hys⟩
    rw [← Go.Deep.add_add, hcell, hv]
end
/-- a slice at A reads as these raw things, all below block B -/
def RdR (w : World) (B : Nat) (A : Option Addr) (L : List RawI) : Prop :=
  (∀ r ∈ L, r.ok) ∧ (L ≠ [] → ∃ b o, A = some ⟨b, o, none⟩ ∧ b < B ∧ ∀ (j : Nat) (r : RawI), L[j]? = some r →
    w.cell? ⟨b, o + j * 4, none⟩ = some (.int .i64 r.k) ∧ w.cell? ⟨b, o + j * 4 + 1, none⟩ = some (.int .i64 r.a) ∧ w.cell? ⟨b, o + j * 4 + 2, none⟩ = some (.int .i64 r.b) ∧ w.cell? ⟨b, o + j * 4 + 3, none⟩ = some (.int .i64 r.c))
theorem RdR.keep {w w' : World} {B : Nat} {A : Option Addr} {L : List RawI} (h : RdR w B A L) (hk : ∀ b o, b < B → w'.cell? ⟨b, o, none⟩ = w.cell? ⟨b, o, none⟩) : RdR w' B A L :=
  ⟨h.1, fun hn => by obtain ⟨b, o, e, hb, hc⟩ := h.2 hn; exact ⟨b, o, e, hb, fun j r hr => by rw [hk _ _ hb, hk _ _ hb, hk _ _ hb, hk _ _ hb]; exact hc j r hr⟩⟩
theorem RdR.below {w w' : World} {B : Nat} {A : Option Addr} {L : List RawI} (h : RdR w B A L) (hb : Below B w w') : RdR w' B A L := h.keep fun _ _ hp => hb.cell hp
theorem RdR.more {w : World} {B B' : Nat} {A : Option Addr} {L : List RawI} (h : RdR w B A L) (hB : B ≤ B') : RdR w B' A L :=
  ⟨h.1, fun hn => by obtain ⟨b, o, e, hb, hc⟩ := h.2 hn; exact ⟨b, o, e, by omega, hc⟩⟩
theorem RdR.nil (w : World) (B : Nat) (A : Option Addr) : RdR w B A [] := ⟨by simp, fun h => absurd rfl h⟩
theorem open_raws {H : Type} {enc : TypeId × Value → H} {w : World} {r : Reach} {b0 : Nat} {v : Value} {d : DataW H} {p : List MemPlace} (hv : Value.okWide Tryd.prog w r b0 42 v) (h : DataW.Trod enc Tryd.prog w 0 (fun _ => true) true 42 v d p) :
    ∃ (A : Option Addr) (cap : Nat) (L : List RawI), v = .slice A L.length cap ∧ L.length ≤ cap ∧ cap ≤ maxLen ∧ RdR w w.heap.size A L ∧ (A = none ∧ L = [] ∧ cap = 0 ∨ ∃ elems spare : List (DataW H), d = .slice elems spare ∧ elems.length = L.length) := by
  obtain ⟨a0, len, cap, rfl⟩ := okWide_slice Tryd.underlying42 hv
  obtain ⟨fuel, hf⟩ := h
  rcases open_slice_fields Tryd.underlying42 Tryd.underlying23 (by kernel_rfl) (by kernel_rfl) hf with ⟨hcs, hx⟩ | ⟨a, len', cap', m, D, Pl, hcs, _, hl, hm, hmm, hx, hcell⟩
  · simp only [Value.cells, List.cons.injEq, Value.slice.injEq, and_true] at hcs
    obtain ⟨rfl, rfl, rfl⟩ := hcs
    exact ⟨none, 0, [], rfl, Nat.le_refl _, by decide, RdR.nil _ _ _, .inl ⟨rfl, rfl, rfl⟩⟩
  · simp only [Value.cells, List.cons.injEq, Value.slice.injEq, and_true] at hcs
    obtain ⟨rfl, rfl, rfl⟩ := hcs
    simp only [Prod.mk.injEq] at hx
    obtain ⟨rfl, -⟩ := hx
    have hmc : m = cap := by simpa using hmm
    have each : ∀ i, i < len → ∃ r : RawI, r.ok ∧ w.cell? (a.add (i * 4)) = some (.int .i64 r.k) ∧ w.cell? (a.add (i * 4 + 1)) = some (.int .i64 r.a) ∧ w.cell? (a.add (i * 4 + 2)) = some (.int .i64 r.b) ∧ w.cell? (a.add (i * 4 + 3)) = some (.int .i64 r.c) := by
      intro i hi
      obtain ⟨ys, n, _, _, _, hfs⟩ := hcell i (by omega)
      obtain ⟨u0, y0, c0, _, t0⟩ := hfs 0 _ rfl
      obtain ⟨u1, y1, c1, _, t1⟩ := hfs 1 _ rfl
      obtain ⟨u2, y2, c2, _, t2⟩ := hfs 2 _ rfl
      obtain ⟨u3, y3, c3, _, t3⟩ := hfs 3 _ rfl
      obtain ⟨z0, e0, -, w0⟩ := DataW.trod_int Tryd.underlying3 t0
      obtain ⟨z1, e1, -, w1⟩ := DataW.trod_int Tryd.underlying3 t1
      obtain ⟨z2, e2, -, w2⟩ := DataW.trod_int Tryd.underlying3 t2
      obtain ⟨z3, e3, -, w3⟩ := DataW.trod_int Tryd.underlying3 t3
      simp only [List.cons.injEq, and_true] at e0 e1 e2 e3
      subst e0 e1 e2 e3
      exact ⟨⟨z0, z1, z2, z3⟩, ⟨i64_of_wf w0, i64_of_wf w1, i64_of_wf w2, i64_of_wf w3⟩, c0, c1, c2, c3⟩
    obtain ⟨F, hF⟩ : ∃ F : Nat → RawI, ∀ i, i < len → (F i).ok ∧ w.cell? (a.add (i * 4)) = some (.int .i64 (F i).k) ∧ w.cell? (a.add (i * 4 + 1)) = some (.int .i64 (F i).a) ∧ w.cell? (a.add (i * 4 + 2)) = some (.int .i64 (F i).b) ∧ w.cell? (a.add (i * 4 + 3)) = some (.int .i64 (F i).c) := by
      refine ⟨fun i => if h : i < len then Classical.choose (each i h) else ⟨0, 0, 0, 0⟩, fun i hi => ?_⟩
      simp only [dif_pos hi]
      exact Classical.choose_spec (each i hi)
    clear each hcell
    refine ⟨some a, cap, (List.range len).map F, by simp, by simp; omega, hm, ⟨fun r hr => ?_, fun hn => ?_⟩, .inr ⟨_, _, rfl, by simp⟩⟩
    · simp only [List.mem_map, List.mem_range] at hr
      obtain ⟨i, hi, rfl⟩ := hr
      exact (hF i hi).1
    · have h0 : 0 < len := by
        rcases Nat.eq_zero_or_pos len with h | h
        · subst h; simp at hn
        · exact h
      obtain ⟨_, hc0, _⟩ := hF 0 h0
      obtain ⟨b, off, spot⟩ := a
      have hspot : spot = none := by simpa [Addr.add] using World.cell?_spot hc0
      subst hspot
      refine ⟨b, off, rfl, ?_, fun j r hr => ?_⟩
      · have := lt_of_cell hc0
        simpa [Addr.add] using this
      · simp only [List.getElem?_map, Option.map_eq_some_iff] at hr
        obtain ⟨i, hi, rfl⟩ := hr
        obtain ⟨hil, rfl⟩ := List.getElem?_eq_some_iff.1 hi
        simp only [List.length_range] at hil
        have := (hF j hil).2
        simpa only [add_plain, List.getElem_range, Nat.add_assoc] using this
/-- what the call owns stays owned while only new blocks are made -/
theorem own_keep {w w' : World} {base : Nat} {e : TypeId} {size : Nat} {v : Value} {n : Nat} {xs : List Value} (h : w.ownsRow base e size v n xs) (hb : Below w.heap.size w w') : w'.ownsRow base e size v n xs := by
  refine ⟨h.1, ?_⟩
  rcases h.2 with hn | ⟨g, cap, cur, rfl, hbb, hg, rest⟩
  · exact .inl hn
  · exact .inr ⟨g, cap, cur, rfl, hbb, (hb.block g (Array.getElem?_eq_some_iff.1 hg).1).trans hg, rest⟩
/-- another row of the call's own stays owned where one row was written -/
theorem own_other {w w' : World} {base : Nat} {e : TypeId} {size : Nat} {v u : Value} {n : Nat} {xs : List Value} (h : w.ownsRow base e size v n xs) (hg : w.grownBy w' u.ownBlock) (hne : v.ownBlock = none ∨ v.ownBlock ≠ u.ownBlock) : w'.ownsRow base e size v n xs := by
  refine ⟨h.1, ?_⟩
  rcases h.2 with hn | ⟨g, cap, cur, rfl, hbb, hgg, rest⟩
  · exact .inl hn
  · refine .inr ⟨g, cap, cur, rfl, hbb, ?_, rest⟩
    rw [hg.block g (Array.getElem?_eq_some_iff.1 hgg).1 (by simpa [Value.ownBlock] using hne)]
    exact hgg
end Go.Proofs.YtmcaplgddlbdoaaDoor
