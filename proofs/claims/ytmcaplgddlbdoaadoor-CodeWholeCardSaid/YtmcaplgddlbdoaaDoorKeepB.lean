/- boltholekeep.anyInstr, walked. -/
import Derived.Test.YtmcaplgddlbdoaaDoorKeepA
import Derived.BigGuardPart
import Derived.Deep.RegionLaw
import Derived.Deep.RegionHeld3
namespace Go.Proofs.YtmcaplgddlbdoaaDoor
open Go.RowKit
/-- any instruction of raw numbers: one that may be -/
def anyI (r : RawI) (long : Bool) : Ins :=
  if 0 < pickL r.k 3 then plainI r
  else if pickL r.a 7 = 0 then ⟨22, 0, 0, 0, pickL r.c 250 - 125, long⟩
  else if pickL r.a 7 = 1 then ⟨23, 0, 0, 0, 100 * (pickL r.c 250 - 125), false⟩
  else if pickL r.a 7 = 2 then ⟨24, 0, pickL r.b 8, 0, pickL r.c 20, false⟩
  else if pickL r.a 7 = 3 then ⟨1 + pickL r.b 4, 0, 0, 0, 0, false⟩
  else ⟨18 + pickL r.b 4, 0, pickL r.a 8, pickL r.c 8, (if long then (pickL r.c 250 - 125) * 200 else pickL r.c 250 - 125), long⟩
def Ins.agg (i : Ins) : Value := .agg #[.int .i64 i.k, .int .i64 i.d, .int .i64 i.a, .int .i64 i.b, .int .i64 i.n, .bool i.l]
/-- six cells of a block stored one behind the other -/
theorem set6 {w : World} {g : Nat} {t : TypeId} {a0 a1 a2 a3 a4 a5 : Value} (hg : w.heap[g]? = some (.cells #[a0, a1, a2, a3, a4, a5] t (0, 0))) (v0 v1 v2 v3 v4 v5 : Value) :
    ((((((w.setCell ⟨g, 0, none⟩ v0).setCell ⟨g, 1, none⟩ v1).setCell ⟨g, 2, none⟩ v2).setCell ⟨g, 3, none⟩ v3).setCell ⟨g, 4, none⟩ v4).setCell ⟨g, 5, none⟩ v5).heap[g]? = some (.cells #[v0, v1, v2, v3, v4, v5] t (0, 0)) := by
  have h0 := heap_setCell_same _ g 0 _ t v0 hg
  have h1 := heap_setCell_same _ g 1 _ t v1 h0
  have h2 := heap_setCell_same _ g 2 _ t v2 h1
  have h3 := heap_setCell_same _ g 3 _ t v3 h2
  have h4 := heap_setCell_same _ g 4 _ t v4 h3
  have h5 := heap_setCell_same _ g 5 _ t v5 h4
  exact h5
theorem set6_below {B : Nat} {a w : World} {g : Nat} (h : Below B a w) (hg : B ≤ g) (v0 v1 v2 v3 v4 v5 : Value) :
    Below B a ((((((w.setCell ⟨g, 0, none⟩ v0).setCell ⟨g, 1, none⟩ v1).setCell ⟨g, 2, none⟩ v2).setCell ⟨g, 3, none⟩ v3).setCell ⟨g, 4, none⟩ v4).setCell ⟨g, 5, none⟩ v5) :=
  (((((h.setCell hg _).setCell hg _).setCell hg _).setCell hg _).setCell hg _).setCell hg _
set_option maxHeartbeats 4000000 in
set_option maxRecDepth 100000 in
theorem any_plain (r : RawI) (l : Bool) (hr : r.ok) (h : 0 < pickL r.k 3) (w : World) : Calls Tryd.prog 10 #[.agg #[.int .i64 r.k, .int .i64 r.a, .int .i64 r.b, .int .i64 r.c], .bool l] w fun e w' =>
    e = .returned (.agg (plainI r).cells) ∧ Below w.heap.size w w' := by
  have hr' := hr
  obtain ⟨⟨k1, k2⟩, ⟨a1, a2⟩, ⟨b1, b2⟩, ⟨c1, c2⟩⟩ := hr
  go_enter Tryd.func10, Tryd.ntmps10
  go_wp2_with (first | (go_at_call 15; refine (picked_any _ _ _ (by omega) (by omega) (by decide) (by decide)).mono ?_; rintro e w3 ⟨rfl, rfl⟩) | (go_at_call 18; refine (plain_any r hr' _).mono ?_; rintro e w3 ⟨rfl, hb3⟩; obtain ⟨hc3, hf3⟩ := bcell hb3; have hz3 := hb3.size; unfold Ins.cells))
  have hgw := (hb3.block (w.heap.size + 1) (by simp)).trans (heap_alloc2_new w _ _)
  have hB3 : Below w.heap.size w w3 := (((Below.refl _ _).alloc (Nat.le_refl _) _).alloc (by simp) _).trans (hb3.mono (by simp; omega))
  refine bodyPost_ret (results_cell_row rfl _ _ (w.heap.size + 1) 25 _ (0, 0) _ rfl (set6 hgw _ _ _ _ _ _) Tryd.underlying25 rfl (by kernel_rfl)) rfl ⟨rfl, set6_below hB3 (by omega) _ _ _ _ _ _⟩
set_option maxHeartbeats 4000000 in
set_option maxRecDepth 100000 in
theorem any_other (r : RawI) (l : Bool) (hr : r.ok) (h : ¬ 0 < pickL r.k 3) (w : World) : Calls Tryd.prog 10 #[.agg #[.int .i64 r.k, .int .i64 r.a, .int .i64 r.b, .int .i64 r.c], .bool l] w fun e w' =>
    e = .returned (.agg (anyI r l).cells) ∧ Below w.heap.size w w' := by
  have hr' := hr
  obtain ⟨⟨k1, k2⟩, ⟨a1, a2⟩, ⟨b1, b2⟩, ⟨c1, c2⟩⟩ := hr
  have hk := pickL_bd r.k 3 (by decide)
  have ha := pickL_bd r.a 7 (by decide)
  have ha8 := pickL_bd r.a 8 (by decide)
  have hb4 := pickL_bd r.b 4 (by decide)
  have hb8 := pickL_bd r.b 8 (by decide)
  have hc8 := pickL_bd r.c 8 (by decide)
  have hc20 := pickL_bd r.c 20 (by decide)
  have hc250 := pickL_bd r.c 250 (by decide)
  have hB : ∀ X Y, Below w.heap.size w ((w.alloc X).alloc Y) := fun _ _ => ((Below.refl _ _).alloc (Nat.le_refl _) _).alloc (by simp) _
  go_enter Tryd.func10, Tryd.ntmps10
  go_wp2_with (first | (go_at_call 15; refine (picked_any _ _ _ (by omega) (by omega) (by decide) (by decide)).mono ?_; rintro e w3 ⟨rfl, rfl⟩))
  any_goals
    refine bodyPost_ret (results_cell_row rfl _ _ (w.heap.size + 1) 25 _ (0, 0) _ rfl (heap_alloc2_new w _ _) Tryd.underlying25 rfl (by kernel_rfl)) rfl ⟨?_, hB _ _⟩
    clear hB
    try simp only [beq_iff_eq, beq_eq_false_iff_ne, ne_eq] at *
    simp only [anyI]
    repeat (first | rw [if_pos (by omega)] | rw [if_neg (by omega)])
    rfl
  · go_region_law (go_simp; go_at_call 15; refine (picked_any _ _ _ (by omega) (by omega) (by decide) (by decide)).mono ?_; rintro e w3 ⟨rfl, rfl⟩)
    all_goals
      go_wp2
      refine bodyPost_ret (results_cell_row rfl _ _ (w.heap.size + 1) 25 _ (0, 0) _ rfl (heap_alloc2_new w _ _) Tryd.underlying25 rfl (by kernel_rfl)) rfl ⟨?_, (hB _ _).drew⟩
      clear hB
      try simp only [beq_iff_eq, beq_eq_false_iff_ne, ne_eq] at *
      simp only [anyI]
      repeat (first | rw [if_pos (by omega)] | rw [if_neg (by omega)])
      rfl
  · have h18 : IntKind.i64.wrap (18 + pickL r.b 4) = 18 + pickL r.b 4 := by rw [IntKind.wrap_i64]; omega
    go_region_held3 (fun w' => w'.cell? ⟨w.heap.size, 1, none⟩ = some (.int .i64 r.a) ∧ w'.cell? ⟨w.heap.size, 2, none⟩ = some (.int .i64 r.b) ∧ w'.cell? ⟨w.heap.size, 3, none⟩ = some (.int .i64 r.c)) (go_keep) ((go_at_call 15; refine (picked_any _ _ _ (by omega) (by omega) (by decide) (by decide)).mono ?_; rintro e w3 ⟨rfl, rfl⟩))
    all_goals
      cases l
      all_goals go_wp2
    all_goals
      refine bodyPost_ret (results_cell_row rfl _ _ (w.heap.size + 1) 25 _ (0, 0) _ rfl ((heap_alloc_old _ _ (by simp)).trans (heap_alloc2_new w _ _)) Tryd.underlying25 rfl (by kernel_rfl)) rfl ⟨?_, ((hB _ _).alloc (by simp; omega) _).drew⟩
      clear hB
      try simp only [beq_eq_false_iff_ne, ne_eq] at *
      simp only [anyI]
      repeat (first | rw [if_pos (by omega)] | rw [if_neg (by omega)])
      rfl
theorem any_any (r : RawI) (l : Bool) (hr : r.ok) (w : World) : Calls Tryd.prog 10 #[.agg #[.int .i64 r.k, .int .i64 r.a, .int .i64 r.b, .int .i64 r.c], .bool l] w fun e w' =>
    e = .returned (.agg (anyI r l).cells) ∧ Below w.heap.size w w' := by
  by_cases h : 0 < pickL r.k 3
  · have e : anyI r l = plainI r := by unfold anyI; rw [if_pos h]
    rw [e]
    exact any_plain r l hr h w
  · exact any_other r l hr h w
end Go.Proofs.YtmcaplgddlbdoaaDoor
