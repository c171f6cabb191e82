/- Rows of parts, changed as EmitBad changes them. -/
import Derived.Test.YtcafhoobeggmeaaDoorEmBd
import Derived.Test.YtcafhoobeggmeaaDoorClnP
import Derived.Test.YtcafhoobeggmeaaDoorEmtV
namespace Go.Proofs.YtcafhoobeggmeaaDoor
open Go.RowKit
theorem inner_rd {w W : World} {B : Nat} {lv : List (PartD × Option Addr × Nat)} (hp : ∀ x ∈ lv, w.ownsRow B 3 1 (.slice x.2.1 x.1.bs.length x.2.2) x.1.bs.length (intsV .i64 x.1.bs)) (hb : Below w.heap.size w W) : ∀ x ∈ lv, x.1.bs.length ≤ x.2.2 ∧ RdG W W.heap.size x.2.1 (intsV .i64 x.1.bs) := fun x hx =>
 ⟨own_capG (hp x hx), ((own_rdg (hp x hx)).below hb).more hb.size⟩
theorem parts_own {W : World} {B n c : Nat} {A : Option Addr} {lv : List (PartD × Option Addr × Nat)} (ho : W.ownsRow B 66 2 (.slice A n c) n (partsV lv)) (hl : lv.length = n) (hi : ∀ x ∈ lv, x.1.bs.length ≤ x.2.2 ∧ RdG W W.heap.size x.2.1 (intsV .i64 x.1.bs)) : PartsRd W A c (lv.map Prod.fst) :=
 ⟨by rw [List.length_map, hl]; exact own_capG ho, lv, rfl, own_rdg ho, hi⟩
theorem parts_tail {W : World} {B g n c : Nat} {x : PartD × Option Addr × Nat} {r : List (PartD × Option Addr × Nat)} (ho : W.ownsRow B 66 2 (.slice (some ⟨g, 0, none⟩) n c) n (partsV (x :: r))) (hl : (x :: r).length = n) (A' : Option Addr) (hA : c ≠ 1 → A' = some ⟨g, 2, none⟩) (hi : ∀ y ∈ x :: r, y.1.bs.length ≤ y.2.2 ∧ RdG W W.heap.size y.2.1 (intsV .i64 y.1.bs)) : PartsRd W A' (c - 1) (r.map Prod.fst) := by
 have hc := own_capG ho; have hl2 : r.length + 1 = n := by simpa using hl
 refine ⟨by rw [List.length_map]; omega, r, rfl, fun hne => ?_, fun y hy => hi y (List.mem_cons_of_mem _ hy)⟩
 have hr : r ≠ [] := fun e => by
  rw [e] at hne; exact hne rfl
 have := List.length_pos_iff.2 hr; refine ⟨g, 2, hA (by omega), (own_lt ho).2, fun j u hu => ?_⟩
 have h1 : (partsV (x :: r))[2 + j]? = some u := by
  have e : partsV (x :: r) = partC x ++ partsV r := rfl; rw [e, List.getElem?_append_right (by show (partC x).length ≤ _; unfold partC; simp)]; have : 2 + j - (partC x).length = j := by unfold partC; simp
  rw [this]; exact hu
 exact (own_cellf ho h1).1
theorem parts_len {d : FlowD} {P : List PartD} (ho : OrdG d P) (hn : d.blocks.length ≤ 1600) : ∀ p ∈ P, p.bs.length ≤ 1600 := fun p hp => Nat.le_trans (ho.bsLen p hp) hn
def BadP (w : World) (d : FlowD) (A : Option Addr) (n c : Nat) : Prop := ∃ ps : List PartD, ps.length = n ∧ PartsRd w A c ps ∧ ordOk d ps = false ∧ ps.length ≤ 10000 ∧ ∀ p ∈ ps, p.bs.length ≤ 10000
theorem bad_app {w : World} {d : FlowD} {B n c : Nat} {A : Option Addr} {x : PartD × Option Addr × Nat} {lr : List (PartD × Option Addr × Nat)} (ho : w.ownsRow B 66 2 (.slice A (n + 1) c) (n + 1) (partsV (x :: lr) ++ partC x)) (hl : lr.length + 1 = n) (hn : n ≤ 1000) (hd : d.firsts.length = n) (hP : ∀ p ∈ x.1 :: lr.map Prod.fst, p.bs.length ≤ 1600) (hi : ∀ y ∈ x :: lr, y.1.bs.length ≤ y.2.2 ∧ RdG w w.heap.size y.2.1 (intsV .i64 y.1.bs)) : BadP w d A (n + 1) c := by
 have hlen : ((x :: lr) ++ [x]).length = n + 1 := by
  rw [List.length_append, List.length_cons, hl]
  rfl
 have e : partsV ((x :: lr) ++ [x]) = partsV (x :: lr) ++ partC x := by
  unfold partsV; rw [List.flatMap_append]; simp
 have hx : ∀ y ∈ (x :: lr) ++ [x], y ∈ x :: lr := fun y hy => by
  rcases List.mem_append.1 hy with h | h
  · exact h
  · rw [List.mem_singleton.1 h]; exact List.mem_cons_self
 have hm : (((x :: lr) ++ [x]).map Prod.fst).length = n + 1 := by rw [List.length_map, hlen]
 refine ⟨((x :: lr) ++ [x]).map Prod.fst, hm, parts_own (by rw [e]; exact ho) hlen (fun y hy => hi y (hx y hy)), ordOk_len (by rw [hm, hd]; omega), by rw [hm]; omega, fun p hp => ?_⟩; obtain ⟨y, hy, rfl⟩ := List.mem_map.1 hp; have h1 := hP y.1 (List.mem_map_of_mem (f := Prod.fst) (hx y hy)); omega
theorem bad_dup {W W' : World} {d : FlowD} {B qB g n c n0 qc ic : Nat} {f0 b1 : Int} {b0 : List Int} {iA qA : Option Addr} {lr : List (PartD × Option Addr × Nat)} (ho : W.ownsRow B 66 2 (.slice (some ⟨g, 0, none⟩) n c) n (partsV ((⟨f0, b0⟩, iA, ic) :: lr)))
 (hq : W.ownsRow qB 3 1 (.slice qA (n0 + 1) qc) (n0 + 1) (intsV .i64 b0 ++ [.int .i64 b1])) (hgq : g < qB) (hW : W' = W.setCell ⟨g, 1, none⟩ (.slice qA (n0 + 1) qc)) (hn0 : b0.length = n0) (hbm : b1 ∈ b0) (hl : lr.length + 1 = n) (hn : n ≤ 1000) (hP : ∀ p ∈ (⟨f0, b0⟩ : PartD) :: lr.map Prod.fst, p.bs.length ≤ 1600)
 (hi : ∀ y ∈ ((⟨f0, b0⟩, iA, ic) : PartD × Option Addr × Nat) :: lr, y.1.bs.length ≤ y.2.2 ∧ RdG W' W'.heap.size y.2.1 (intsV .i64 y.1.bs)) : BadP W' d (some ⟨g, 0, none⟩) n c := by
 have ho2 := own_set ho 1 (.slice qA (n0 + 1) qc); have hq2 := own_gb hq (gb_setCell (gb_refl W (some g)) 1 (.slice qA (n0 + 1) qc)) (fun e => by have := (World.ownsRow.lt hq g e).1; omega); rw [← hW] at ho2 hq2; have hl1 : (b0 ++ [b1]).length = n0 + 1 := by rw [List.length_append, hn0]; rfl
 have hi1 : intsV .i64 (b0 ++ [b1]) = intsV .i64 b0 ++ [.int .i64 b1] := by simp [intsV]
 have e : partsV ((⟨f0, b0 ++ [b1]⟩, qA, qc) :: lr) = (partsV ((⟨f0, b0⟩, iA, ic) :: lr)).set 1 (.slice qA (n0 + 1) qc) := by
  show partC _ ++ _ = _; unfold partC; rw [hl1]
  rfl
 have hm : ((⟨f0, b0 ++ [b1]⟩ : PartD) :: lr.map Prod.fst).length = n := by rw [List.length_cons, List.length_map]; exact hl
 refine ⟨⟨f0, b0 ++ [b1]⟩ :: lr.map Prod.fst, hm, parts_own (lv := (⟨f0, b0 ++ [b1]⟩, qA, qc) :: lr) (by rw [e]; exact ho2) (by rw [List.length_cons]; exact hl) (fun x hx => ?_), ordOk_dup hbm, by rw [hm]; omega, fun p hp => ?_⟩
 · rcases List.mem_cons.1 hx with rfl | hx
   · show (b0 ++ [b1]).length ≤ qc ∧ RdG _ _ qA (intsV .i64 (b0 ++ [b1])); rw [hl1, hi1]; exact ⟨own_capG hq2, own_rdg hq2⟩
   · exact hi x (List.mem_cons_of_mem _ hx)
 · rcases List.mem_cons.1 hp with rfl | hp
   · have h1 := hP _ List.mem_cons_self; simp only at h1; show (b0 ++ [b1]).length ≤ _; omega
   · have := hP p (List.mem_cons_of_mem _ hp); omega
end Go.Proofs.YtcafhoobeggmeaaDoor
