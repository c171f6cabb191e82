/- The frame of a law in a seat without laid tables: a call that answers true and only makes new memory meets the given statement; a slice of bytes among its arguments, opened. -/
import Derived.Test.YtdliienkbpdnbaaRows
import Derived.Test.YtdliienkbpdnbaaIsaC
import Derived.WalkKit
import Derived.ProofKit
import Derived.Carry
import Derived.OpenShut
import Derived.Lib.SmallJoins
import Derived.Deep.DeepHandedRow
import Derived.Deep.Strs
import Derived.Test.YtdliienkbpdnbaaAppG
import Derived.SizedLaws
import Derived.Deep.Slices
import Derived.Deep.Fields
import Derived.Deep.AppendLies
namespace Go.Proofs.Ytdliienkbpdnbaa
open Go.ChangeShapes Go.WideShapes Go.ChangeAt Go.RowKit Go.Joins
theorem ownP : ownKnob Try.prog.godebug = none := by kernel_rfl
theorem laidOutP : laidOutB Try.prog = true := by kernel_rfl
def readAll (P : Program) (ts : List TypeId) : Bool := ts.all fun t => P.readableRec t && decide (t < P.types.size)
theorem trodAll_below {P : Program} (hl : laidOutB P = true) {H : Type} {enc : TypeId × Value → H} {W W' : World} (hb : Below W.heap.size W W') : ∀ {ts : List TypeId} {vs : List Value} {ds : List (DataW H)} {ps : List MemPlace}, readAll P ts = true →
    DataW.TrodAll enc P W 0 (fun _ => true) true ts vs ds ps → (∀ x ∈ ps, x.block < W.heap.size) → DataW.TrodAll enc P W' 0 (fun b => decide (b < W.heap.size)) true ts vs ds ps
  | [], _, _, _, _, h, _ => by
    obtain ⟨rfl, rfl, rfl⟩ := trodAll_nil h
    exact trodAll_mk0
  | t :: ts, _, _, _, hr, h, hlt => by
    obtain ⟨v, vs1, d, ds1, a, b, rfl, rfl, rfl, h1, h2⟩ := trodAll_cons h
    have hr' : (P.readableRec t = true ∧ t < P.types.size) ∧ readAll P ts = true := by simpa [readAll] using hr
    exact trodAll_cons_mk (Below.trod hl hr'.1.1 hr'.1.2 h1 hb fun x hx => hlt x (by simp [hx])) (trodAll_below hl hb hr'.2 h2 fun x hx => hlt x (by simp [hx]))
theorem law_post {H : Type} {enc : TypeId × Value → H} {f : Func} {s : ChangeSpec} {W W' : World} {args : Array Value} {ds gs : List (DataW H)} {before : List MemPlace} (hW : DataW.Whole enc Try.prog f.params.toList s.vars false W args.toList ds gs before)
    (hs : s.fn H ds = { results := [.lit (.bool true)], args := ds }) (hv : s.vars = []) (hr : f.resultTypes = #[4]) (hp : readAll Try.prog f.params.toList = true) (hb : Below W.heap.size W W') :
    s.post enc Try.prog f false true false false W args (.bool true) W' := by
  have hlt : ∀ p ∈ before, p.block < W.heap.size := fun p hp => hW.lt p hp
  have hW' := hW
  obtain ⟨p, q, hA, hV, rfl, hfz, hnd⟩ := hW
  rw [hv] at hV
  obtain ⟨rfl, rfl⟩ := trodVars_none hV
  refine ⟨ds, [], p ++ [], [], p, [], hW', ?_, ?_, ?_, hb.frame _, fun h => by cases h⟩
  · rw [List.append_nil, hs, hr]
    exact trodAll_cons_mk (shut_bool Try.underlying4 true) trodAll_mk0
  · rw [List.append_nil, hs]
    exact trodAll_below laidOutP hb hp hA fun x hx => hlt x (by simp [hx])
  · rw [List.append_nil, hs, hv]
    exact rfl
set_option maxRecDepth 100000 in
/-- a slice of bytes among a law's arguments, opened -/
theorem open_bytesG {H : Type} {enc : TypeId × Value → H} {w : World} {r : Reach} {b0 : Nat} {v : Value} {d : DataW H} {p : List MemPlace} (hv : Value.okWide Try.prog w r b0 22 v) (h : DataW.Trod enc Try.prog w 0 (fun _ => true) true 22 v d p) :
    ∃ (A : Option Addr) (cap : Nat) (L : List Int), v = .slice A L.length cap ∧ L.length ≤ cap ∧ (∀ x ∈ L, 0 ≤ x ∧ x < 256) ∧ RdG w w.heap.size A (intsV .u8 L) ∧ (A = none → L = []) ∧ (A = none ∧ L = [] ∧ cap = 0 ∨ ∃ elems spare : List (DataW H), d = .slice elems spare ∧ elems.length = L.length) := by
  obtain ⟨a0, len, cap, rfl⟩ := okWide_slice Try.underlying22 hv
  obtain ⟨fuel, hf⟩ := h
  rcases open_ints Try.underlying22 Try.underlying5 (by kernel_rfl) hf with ⟨hcs, hx⟩ | ⟨a, len', cap', zs, hcs, _, hl, hm, hz, hx, hcell, hwz⟩
  · simp only [Value.cells, List.cons.injEq, Value.slice.injEq, and_true] at hcs
    obtain ⟨rfl, rfl, rfl⟩ := hcs
    exact ⟨none, 0, [], rfl, Nat.le_refl _, fun x hx => (by cases hx), RdG.nil _ _ _, fun _ => rfl, .inl ⟨rfl, rfl, rfl⟩⟩
  · simp only [Value.cells, List.cons.injEq, Value.slice.injEq, and_true] at hcs
    obtain ⟨rfl, rfl, rfl⟩ := hcs
    simp only [Prod.mk.injEq] at hx
    obtain ⟨rfl, -⟩ := hx
    have hzl : zs.length = cap := by simpa using hz
    have hlen : (zs.take len).length = len := by simp; omega
    refine ⟨some a, cap, zs.take len, by rw [hlen], by omega, fun x hx => ?_, fun hn => ?_, fun e => (by cases e), .inr ⟨_, _, rfl, by simp [lits]⟩⟩
    · have := bounds_u8 (hwz x (List.mem_of_mem_take hx))
      omega
    · have h0 : 0 < zs.length := by
        rcases Nat.eq_zero_or_pos zs.length with h | h
        · rw [List.length_eq_zero_iff.1 h] at hn; simp [intsV] at hn
        · exact h
      obtain ⟨b, off, rfl, hc⟩ := ints_at hcell h0
      refine ⟨b, off, rfl, ?_, fun j x hx => ?_⟩
      · exact lt_of_cell (hc 0 h0)
      · simp only [intsV, List.getElem?_map, List.getElem?_take] at hx
        split at hx
        · obtain ⟨y, hy, rfl⟩ := Option.map_eq_some_iff.1 hx
          obtain ⟨hj, rfl⟩ := List.getElem?_eq_some_iff.1 hy
          have := hc j hj
          rw [this]
          simp [List.getD, List.getElem?_eq_getElem hj]
        · cases hx
noncomputable def plainWorld (os : Os) : World := World.holding Try.prog os ⟨#[], #[], []⟩
end Go.Proofs.Ytdliienkbpdnbaa
