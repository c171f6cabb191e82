/- An append of bytes onto the bytes that a conversion of a string has laid. -/
import Derived.Test.YtmcaplgddlbdoaaDoorRd
import Derived.Test.YtmcaplgddlbdoaaDoorIsaF
import Derived.ArgAppend
namespace Go.Proofs.YtmcaplgddlbdoaaDoor
open Go.RowKit
theorem below_setCells {B : Nat} {a : World} (b : Nat) (hb : B ≤ b) : ∀ (vs : List Value) (o : Nat) (w : World), Below B a w → Below B a (w.setCells b o vs)
  | [], _, _, h => h
  | v :: r, o, _, h => below_setCells b hb r (o + 1) _ (h.setCell hb v)
theorem cell_setCells_out (b : Nat) (vs : List Value) (o : Nat) (w : World) (x : Addr) (h : x.block = b → x.spot = none → x.off < o ∨ o + vs.length ≤ x.off) : (w.setCells b o vs).cell? x = w.cell? x := World.cell?_setCells_out b vs o w x h
/-- what an append of bytes leaves: a row that reads as these bytes -/
def TxtAt (B : Nat) (w w' : World) (g cap : Nat) (L : List Int) : Prop :=
  Below B w w' ∧ B ≤ g ∧ g < w'.heap.size ∧ L.length ≤ cap ∧ ∀ j x, L[j]? = some x → w'.cell? ⟨g, 0 + j, none⟩ = some (.int .u8 x)
theorem app_text {w : World} {ops : Array Oper} {rest : List Oper} {o : Oper} {a : Act} {Q : Exit → Act → World → Prop} (hgd : o.guard = none) (s x : Operand)
    (ho : o.op = .call { callee := .builtin .append, args := #[s, x], argTypes := #[31, 31] }) (B g n cap : Nat) (L0 L1 : List Int) (hs : a.eval s = .slice (some ⟨g, 0, none⟩) n cap) (hn : n = L0.length)
    (cur : Array Value) (fz : Nat × Nat) (hg : w.heap[g]? = some (.cells cur 5 fz)) (hsz : cur.size = cap) (hfz : cap ≤ fz.1) (hcur : ∀ (j : Nat) (x : Int), L0[j]? = some x → cur[j]? = some (Value.int .u8 x)) (_hnc : n ≤ cap)
    (gx m cx : Nat) (hx : a.eval x = .slice (some ⟨gx, 0, none⟩) m cx) (hm : m = L1.length) (hL1 : L1 ≠ []) (hc : ∀ j x, L1[j]? = some x → w.cell? ⟨gx, 0 + j, none⟩ = some (.int .u8 x))
    (hB : B ≤ g) (hlen : L0.length + L1.length ≤ 140737488355328)
    (h : ∀ g' cap' w', TxtAt B w w' g' cap' (L0 ++ L1) → wpList Tryd.prog ops Q rest (a.put o.dst (.slice (some ⟨g', 0, none⟩) (n + m) cap')) w') : wpList Tryd.prog ops Q (o :: rest) a w := by
  obtain ⟨i0, hi, hz0, hz1, hz2⟩ := info_parts infoU8
  have hgl : g < w.heap.size := (Array.getElem?_eq_some_iff.1 hg).1
  have hcell : ∀ j, w.cell? ⟨g, j, none⟩ = cur[j]? := fun j => cell_of_row w g j _ _ _ hg
  have e0 : ∀ (b j : Nat), ((⟨b, 0, none⟩ : Addr).add j) = ⟨b, 0 + j, none⟩ := fun b j => by unfold Addr.add; split <;> simp_all
  refine wpList_append_arg w hgd s x 31 ho 5 i0 (.int .u8 0) 1 1 Tryd.underlying31 hi hz0 hz1 hz2 rfl (by decide) g 0 n cap (bytesV L0) hs (by simp [bytesV, hn]) ?_
    ⟨gx, 0, none⟩ m cx (bytesV L1) hx (by simp [bytesV, hm]) ?_ ?_ ?_ (by unfold maxLen; omega) (by omega) ?_ ?_
  · intro j u hu
    simp only [bytesV, List.getElem?_map, Option.map_eq_some_iff] at hu
    obtain ⟨x, hx, rfl⟩ := hu
    rw [hcell, Nat.zero_add]
    exact hcur j x hx
  · intro j u hu
    simp only [bytesV, List.getElem?_map, Option.map_eq_some_iff] at hu
    obtain ⟨x, hx, rfl⟩ := hu
    rw [e0]
    exact hc j x hx
  · intro u hu
    simp only [bytesV, List.mem_map] at hu
    obtain ⟨x, _, rfl⟩ := hu
    rfl
  · intro hr j hj
    have hj' : j < m := by simpa [bytesV, hm] using hj
    refine ⟨?_, ?_⟩
    · rw [hcell, Array.getElem?_eq_getElem (by omega)]
      rfl
    · simp only [World.frozen?, hg]
      simp
      omega
  · intro hr
    refine h g cap _ ⟨below_setCells g hB _ _ _ (Below.refl _ _), hB, ?_, by simp; omega, fun j x hx => ?_⟩
    · have := (below_setCells (B := B) (a := w) g hB (bytesV L1) (0 + n * 1) w (Below.refl _ _)).size
      omega
    · by_cases hj : j < L0.length
      · rw [List.getElem?_append_left hj] at hx
        rw [cell_setCells_out _ _ _ _ _ (fun _ _ => .inl (by simp; omega)), hcell, Nat.zero_add]
        exact hcur j x hx
      · rw [List.getElem?_append_right (by omega)] at hx
        have hjl : j - L0.length < L1.length := (List.getElem?_eq_some_iff.1 hx).1
        have := World.cell?_setCells_in g (bytesV L1) (0 + n * 1) w (fun q hq => by
          have hq' : q < m := by simpa [bytesV, hm] using hq
          rw [hcell, Array.getElem?_eq_getElem (by omega)]
          rfl) (j - L0.length) (by simpa [bytesV] using hjl)
        rw [show 0 + n * 1 + (j - L0.length) = 0 + j by omega] at this
        rw [this]
        obtain ⟨_, rfl⟩ := List.getElem?_eq_some_iff.1 hx
        simp [bytesV]
  · intro hgr v' w' ho' hg'
    obtain ⟨hl, hx | ⟨g', cap', cur', rfl, hb', hgg, hnc', _, hcs, htk⟩⟩ := ho'
    · have : 0 < L1.length := List.length_pos_iff.2 hL1
      omega
    · have hbw : Below B w w' := (Below.refl _ _).grown hg' (by omega) (fun k hk => by cases hk)
      refine h g' cap' w' ⟨hbw, by omega, (Array.getElem?_eq_some_iff.1 hgg).1, by simp; omega, fun j x hx => ?_⟩
      rw [cell_of_row w' g' (0 + j) _ _ _ hgg, Nat.zero_add]
      obtain ⟨hj, rfl⟩ := List.getElem?_eq_some_iff.1 hx
      have hjl : j < n + m := by simp at hj; omega
      have := congrArg (·[j]?) htk
      simp only [Nat.mul_one, List.getElem?_take, hjl, if_true] at this
      rw [Array.getElem?_toList] at this
      rw [this, bytesV, bytesV, ← List.map_append, List.getElem?_map, List.getElem?_eq_getElem hj]
      rfl
end Go.Proofs.YtmcaplgddlbdoaaDoor
