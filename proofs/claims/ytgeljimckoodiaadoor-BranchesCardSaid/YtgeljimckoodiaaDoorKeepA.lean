/- boltholekeep's picked and Plain, walked. -/
import Derived.Test.YtgeljimckoodiaaDoorIsaE
namespace Go.Proofs.YtgeljimckoodiaaDoor
open Go.RowKit
/-- what boltholekeep.picked answers -/
def pickL (n m : Int) : Int := (if n < 0 then -(n + 1) else n) % m
theorem pickL_bd (n m : Int) (h : 0 < m) : 0 ≤ pickL n m ∧ pickL n m < m := by
  unfold pickL
  exact ⟨Int.emod_nonneg _ (by omega), Int.emod_lt_of_pos _ h⟩
theorem picked_any (n m : Int) (w : World) (h1 : -9223372036854775808 ≤ n) (h2 : n ≤ 9223372036854775807) (hm : 0 < m) (hm2 : m ≤ 9223372036854775807) :
    Calls Tryd.prog 14 #[.int .i64 n, .int .i64 m] w fun e w' => e = .returned (.int .i64 (pickL n m)) ∧ w = w' := by
  have hb := pickL_bd n m hm
  by_cases h : n < 0
  · have e1 := Lib.hid (show pickL n m = (-(n + 1)) % m by unfold pickL; rw [if_pos h])
    clear hb
    go_enter Tryd.func14, Tryd.ntmps14
    go_wp2
    go_ret
    refine ⟨?_, rfl⟩
    rw [e1.out, ← Int.tmod_eq_emod_of_nonneg (by omega), Int.neg_tmod]
    rfl
  · have e1 := Lib.hid (show pickL n m = n % m by unfold pickL; rw [if_neg h])
    clear hb
    go_enter Tryd.func14, Tryd.ntmps14
    go_wp2
    go_ret
    refine ⟨?_, rfl⟩
    rw [e1.out]
    rfl
/-- is it a number of 64 bits? -/
def I64 (n : Int) : Prop := -9223372036854775808 ≤ n ∧ n ≤ 9223372036854775807
/-- some numbers -/
structure RawI where
  k : Int
  a : Int
  b : Int
  c : Int
def RawI.ok (r : RawI) : Prop := I64 r.k ∧ I64 r.a ∧ I64 r.b ∧ I64 r.c
def RawI.cells (r : RawI) : Array Value := #[.int .i64 r.k, .int .i64 r.a, .int .i64 r.b, .int .i64 r.c]
/-- the plain instruction of a raw thing -/
def plainI (r : RawI) : Ins :=
  let k := pickL r.k 20
  if k < 4 then ⟨5, pickL r.a 7, 0, 0, pickL r.c 40 - 10, false⟩
  else if k < 7 then ⟨6, pickL r.a 7, pickL r.b 7, 0, pickL r.c 12 - 3, false⟩
  else if k < 12 then ⟨7 + pickL r.c 7, pickL r.a 7, pickL r.b 7, pickL r.c 7, 0, false⟩
  else if k = 12 then ⟨14, pickL r.a 7, 0, 0, pickL r.c 6, false⟩
  else if k = 13 then ⟨15, 0, 0, pickL r.c 7, pickL r.c 6, false⟩
  else if k = 14 then ⟨16, pickL r.a 7, 0, 0, 0, false⟩
  else if k = 15 then ⟨4, 0, 0, 0, 0, false⟩
  else ⟨17, 0, pickL r.b 7, 0, 0, false⟩
set_option maxHeartbeats 4000000 in
set_option maxRecDepth 100000 in
theorem plain_any (r : RawI) (hr : r.ok) (w : World) : Calls Tryd.prog 71 #[.agg #[.int .i64 r.k, .int .i64 r.a, .int .i64 r.b, .int .i64 r.c]] w fun e w' =>
    e = .returned (.agg (plainI r).cells) ∧ Below w.heap.size w w' := by
  obtain ⟨⟨k1, k2⟩, ⟨a1, a2⟩, ⟨b1, b2⟩, ⟨c1, c2⟩⟩ := hr
  have hk := pickL_bd r.k 20 (by decide)
  have ha := pickL_bd r.a 7 (by decide)
  have hb := pickL_bd r.b 7 (by decide)
  have hc := pickL_bd r.c 7 (by decide)
  have hc6 := pickL_bd r.c 6 (by decide)
  have hc12 := pickL_bd r.c 12 (by decide)
  have hc40 := pickL_bd r.c 40 (by decide)
  have hB : ∀ X Y, Below w.heap.size w ((w.alloc X).alloc Y) := fun _ _ => ((Below.refl _ _).alloc (Nat.le_refl _) _).alloc (by simp) _
  go_enter Tryd.func71, Tryd.ntmps71
  go_wp2_with (first | (go_at_call 14; refine (picked_any _ _ _ (by omega) (by omega) (by decide) (by decide)).mono ?_; rintro e w3 ⟨rfl, rfl⟩))
  all_goals
    refine bodyPost_ret (results_cell_row rfl _ _ (w.heap.size + 1) 27 _ (0, 0) _ rfl (heap_alloc2_new w _ _) Tryd.underlying27 rfl (by kernel_rfl)) rfl ⟨?_, hB _ _⟩
    clear hB
    try simp only [beq_iff_eq, beq_eq_false_iff_ne, ne_eq] at *
    simp only [plainI]
    repeat (first | rw [if_pos (by omega)] | rw [if_neg (by omega)])
    rfl
end Go.Proofs.YtgeljimckoodiaaDoor
