/- The small functions of package isa, walked. The small functions of package isa, walked: within, near, far, operands. The tables of package isa; what Check answers. -/
import Derived.Test.YtcdlgjhdbmmomaaGreatDoorProg
import Derived.WalkKit
import Derived.BigQuiet
import Derived.Deep.QuietTactic
import Derived.Outline
namespace Go.Proofs.YtcdlgjhdbmmomaaGreatDoor
open Go.RowKit
theorem hd' {p : Prop} (h : p) : Hid p := h
theorem lr' {n : Nat} : n ≤ n := Nat.le_refl n
theorem gE' {α : Type _} {l : List α} {i : Nat} (h : i < l.length) : l[i]? = some l[i] := List.getElem?_eq_getElem h
theorem mG' {α : Type _} {l : List α} {i : Nat} {a : α} (h : l[i]? = some a) : a ∈ l := List.mem_of_getElem? h
theorem ex' {α : Sort _} (a : α) : ∃ y, a = y := ⟨a, rfl⟩
theorem bcell {W w1 : World} (hb : Below W.heap.size W w1) : (∀ b o, b < W.heap.size → w1.cell? ⟨b, o, none⟩ = W.cell? ⟨b, o, none⟩) ∧ (∀ b o, b < W.heap.size → w1.frozen? ⟨b, o, none⟩ = W.frozen? ⟨b, o, none⟩) :=
 ⟨fun b o h => hb.cell (p := ⟨b, o, none⟩) h, fun b o h => hb.frozen (p := ⟨b, o, none⟩) h⟩
def isReg (n : Int) : Bool := decide (0 ≤ n) && decide (n < 8)
def inside (n lo hi : Int) : Bool := decide (lo ≤ n) && decide (n ≤ hi)

theorem reg_any (n : Int) (w : World) : Calls Tryz.prog 163 #[.int .i64 n] w fun e w' => e = .returned (.bool (isReg n)) ∧ w = w' := by
 unfold isReg
 by_cases h : 0 ≤ n
 · by_cases h2 : n < 8
   · have e1 : (decide (0 ≤ n) && decide (n < 8)) = true := by simp [h, h2]
     rw [e1]; clear e1
     go_enter Tryz.func163, Tryz.ntmps163
     go_wp2
     go_ret
     exact ⟨rfl, rfl⟩
   · have e1 : (decide (0 ≤ n) && decide (n < 8)) = false := by simp [h2]
     rw [e1]; clear e1
     go_enter Tryz.func163, Tryz.ntmps163
     go_wp2
     go_ret
     exact ⟨rfl, rfl⟩
 · have e1 : (decide (0 ≤ n) && decide (n < 8)) = false := by simp [h]
   rw [e1]; clear e1
   go_enter Tryz.func163, Tryz.ntmps163
   go_wp2
   go_ret
   exact ⟨rfl, rfl⟩
theorem results_tmp4 {fn : Func} {t u v x : Tmp} (h : fn.results = #[.tmp t, .tmp u, .tmp v, .tmp x]) (tmps : Array Value) (P : Program) (w : World) :
 (results fn tmps).run P w = .ok (.tuple #[tmps.getD t undef, tmps.getD u undef, tmps.getD v undef, tmps.getD x undef]) w := by simp [results, h]
theorem inside_any (n lo hi : Int) (w : World) : Calls Tryz.prog 165 #[.int .i64 n, .int .i64 lo, .int .i64 hi] w fun e w' => e = .returned (.bool (inside n lo hi)) ∧ w = w' := by
 unfold inside
 by_cases h : lo ≤ n
 · by_cases h2 : n ≤ hi
   · have e1 : (decide (lo ≤ n) && decide (n ≤ hi)) = true := by simp [h, h2]
     rw [e1]; clear e1
     go_enter Tryz.func165, Tryz.ntmps165
     go_wp2
     go_ret
     exact ⟨rfl, rfl⟩
   · have e1 : (decide (lo ≤ n) && decide (n ≤ hi)) = false := by simp [h2]
     rw [e1]; clear e1
     go_enter Tryz.func165, Tryz.ntmps165
     go_wp2
     go_ret
     exact ⟨rfl, rfl⟩
 · have e1 : (decide (lo ≤ n) && decide (n ≤ hi)) = false := by simp [h]
   rw [e1]; clear e1
   go_enter Tryz.func165, Tryz.ntmps165
   go_wp2
   go_ret
   exact ⟨rfl, rfl⟩
theorem near_any (n : Int) (w : World) : Calls Tryz.prog 166 #[.int .i64 n] w fun e w' => e = .returned (.bool (inside n (-128) 127)) ∧ w = w' := by
 go_enter Tryz.func166, Tryz.ntmps166
 go_wp2_with (go_at_call 165; refine (inside_any _ _ _ _).mono ?_; rintro e w' ⟨rfl, rfl⟩)
 go_ret
 exact ⟨rfl, rfl⟩
theorem far_any (n : Int) (w : World) : Calls Tryz.prog 164 #[.int .i64 n] w fun e w' => e = .returned (.bool (inside n (-32768) 32767)) ∧ w = w' := by
 go_enter Tryz.func164, Tryz.ntmps164
 go_wp2_with (go_at_call 165; refine (inside_any _ _ _ _).mono ?_; rintro e w' ⟨rfl, rfl⟩)
 go_ret
 exact ⟨rfl, rfl⟩
def hasD (s : Int) : Bool := s == 2 || s == 3 || s == 4 || s == 6
def hasA (s : Int) : Bool := s == 3 || s == 4 || s == 5 || s == 8 || s == 7 || s == 11
def hasB (s : Int) : Bool := s == 4 || s == 5 || s == 8
def hasN (s : Int) : Bool := s == 2 || s == 3 || s == 5 || s == 8 || s == 9 || s == 10 || s == 11
set_option maxHeartbeats 1000000 in
theorem operands_any (i : Array Value) (s : Int) (w : World) : Calls Tryz.prog 162 #[.agg i, .int .i64 s] w fun e w' =>
 e = .returned (.tuple #[.bool (hasD s), .bool (hasA s), .bool (hasB s), .bool (hasN s)]) ∧ Below w.heap.size w w' := by
 go_enter Tryz.func162, Tryz.ntmps162
 go_wp2
 all_goals
  refine bodyPost_ret (results_tmp4 rfl _ _ _) rfl ?_; refine ⟨?_, (Below.refl _ _).alloc lr' _⟩; simp_all [hasD, hasA, hasB, hasN]
def rowsT : List (Int × Int × Int) :=
 [(0,0,0),(0,0,1),(1,0,1),(2,0,1),(3,0,1),(16,0,2),(17,0,3),(32,0,4),(33,0,4),(34,0,4),(35,0,4),(36,0,4),(37,0,4),(38,0,4),
  (48,0,3),(49,0,5),(64,0,6),(65,0,7),(80,84,8),(81,85,8),(82,86,8),(83,87,8),(96,97,9),(98,0,10),(99,0,11)]
def sizesT : List Int := [0,1,4,3,3,3,2,2,3,2,3,3]
def opT (k : Int) : Int := (rowsT.getD k.toNat (0,0,0)).1
def longT (k : Int) : Int := (rowsT.getD k.toNat (0,0,0)).2.1
def shapeT (k : Int) : Int := (rowsT.getD k.toNat (0,0,0)).2.2
def sizeT (s : Int) : Int := sizesT.getD s.toNat 0
def rowsCells : List Value := rowsT.flatMap fun r => [.int .u8 r.1, .int .u8 r.2.1, .int .i64 r.2.2]
def sizesCells : List Value := sizesT.map (Value.int .i64)
theorem rows_op (k : Nat) (h : k < 25) : rowsCells[k * 3]? = some (.int .u8 (opT (k : Int))) := match k, h with
 | 0, _ => rfl
 | 1, _ => rfl
 | 2, _ => rfl
 | 3, _ => rfl
 | 4, _ => rfl
 | 5, _ => rfl
 | 6, _ => rfl
 | 7, _ => rfl
 | 8, _ => rfl
 | 9, _ => rfl
 | 10, _ => rfl
 | 11, _ => rfl
 | 12, _ => rfl
 | 13, _ => rfl
 | 14, _ => rfl
 | 15, _ => rfl
 | 16, _ => rfl
 | 17, _ => rfl
 | 18, _ => rfl
 | 19, _ => rfl
 | 20, _ => rfl
 | 21, _ => rfl
 | 22, _ => rfl
 | 23, _ => rfl
 | 24, _ => rfl
 | n + 25, h => absurd h (by omega)
theorem rows_long (k : Nat) (h : k < 25) : rowsCells[k * 3 + 1]? = some (.int .u8 (longT (k : Int))) := match k, h with
 | 0, _ => rfl
 | 1, _ => rfl
 | 2, _ => rfl
 | 3, _ => rfl
 | 4, _ => rfl
 | 5, _ => rfl
 | 6, _ => rfl
 | 7, _ => rfl
 | 8, _ => rfl
 | 9, _ => rfl
 | 10, _ => rfl
 | 11, _ => rfl
 | 12, _ => rfl
 | 13, _ => rfl
 | 14, _ => rfl
 | 15, _ => rfl
 | 16, _ => rfl
 | 17, _ => rfl
 | 18, _ => rfl
 | 19, _ => rfl
 | 20, _ => rfl
 | 21, _ => rfl
 | 22, _ => rfl
 | 23, _ => rfl
 | 24, _ => rfl
 | n + 25, h => absurd h (by omega)
theorem rows_shape (k : Nat) (h : k < 25) : rowsCells[k * 3 + 2]? = some (.int .i64 (shapeT (k : Int))) := match k, h with
 | 0, _ => rfl
 | 1, _ => rfl
 | 2, _ => rfl
 | 3, _ => rfl
 | 4, _ => rfl
 | 5, _ => rfl
 | 6, _ => rfl
 | 7, _ => rfl
 | 8, _ => rfl
 | 9, _ => rfl
 | 10, _ => rfl
 | 11, _ => rfl
 | 12, _ => rfl
 | 13, _ => rfl
 | 14, _ => rfl
 | 15, _ => rfl
 | 16, _ => rfl
 | 17, _ => rfl
 | 18, _ => rfl
 | 19, _ => rfl
 | 20, _ => rfl
 | 21, _ => rfl
 | 22, _ => rfl
 | 23, _ => rfl
 | 24, _ => rfl
 | n + 25, h => absurd h (by omega)
theorem sizes_at (s : Nat) (h : s < 12) : sizesCells[s]? = some (.int .i64 (sizeT (s : Int))) := match s, h with
 | 0, _ => rfl
 | 1, _ => rfl
 | 2, _ => rfl
 | 3, _ => rfl
 | 4, _ => rfl
 | 5, _ => rfl
 | 6, _ => rfl
 | 7, _ => rfl
 | 8, _ => rfl
 | 9, _ => rfl
 | 10, _ => rfl
 | 11, _ => rfl
structure Tabs (w : World) : Prop where
 rows : ∀ j v, rowsCells[j]? = some v → w.cell? ⟨1, j, none⟩ = some v
 sizes : ∀ j v, sizesCells[j]? = some v → w.cell? ⟨0, j, none⟩ = some v
theorem Tabs.op {w : World} (h : Tabs w) (k : Int) (h0 : 0 ≤ k) (h1 : k ≤ 24) : w.cell? ⟨1, k.toNat * 3, none⟩ = some (.int .u8 (opT k)) := by
 obtain ⟨n, rfl⟩ := Int.eq_ofNat_of_zero_le h0; exact h.rows _ _ (rows_op n (by omega))
theorem Tabs.long {w : World} (h : Tabs w) (k : Int) (h0 : 0 ≤ k) (h1 : k ≤ 24) : w.cell? ⟨1, k.toNat * 3 + 1, none⟩ = some (.int .u8 (longT k)) := by
 obtain ⟨n, rfl⟩ := Int.eq_ofNat_of_zero_le h0; exact h.rows _ _ (rows_long n (by omega))
theorem Tabs.shape {w : World} (h : Tabs w) (k : Int) (h0 : 0 ≤ k) (h1 : k ≤ 24) : w.cell? ⟨1, k.toNat * 3 + 2, none⟩ = some (.int .i64 (shapeT k)) := by
 obtain ⟨n, rfl⟩ := Int.eq_ofNat_of_zero_le h0; exact h.rows _ _ (rows_shape n (by omega))
theorem Tabs.size {w : World} (h : Tabs w) (s : Int) (h0 : 0 ≤ s) (h1 : s ≤ 11) : w.cell? ⟨0, s.toNat, none⟩ = some (.int .i64 (sizeT s)) := by
 obtain ⟨n, rfl⟩ := Int.eq_ofNat_of_zero_le h0; exact h.sizes _ _ (sizes_at n (by omega))
theorem lt_of_cell {w : World} {a : Addr} {v : Value} (h : w.cell? a = some v) : a.block < w.heap.size := by
 rcases Nat.lt_or_ge a.block w.heap.size with hlt | hge
 · exact hlt
 · unfold World.cell? at h; rw [Array.getElem?_eq_none hge] at h; cases h
theorem Tabs.rows_lt {w : World} (h : Tabs w) : 1 < w.heap.size := lt_of_cell (h.op 0 (by decide) (by decide))
theorem Tabs.sizes_lt {w : World} (h : Tabs w) : 0 < w.heap.size := lt_of_cell (h.size 0 (by decide) (by decide))
theorem Tabs.below {w w' : World} (h : Tabs w) (hb : Below w.heap.size w w') : Tabs w' :=
 ⟨fun j v hv => (hb.cell h.rows_lt).trans (h.rows j v hv), fun j v hv => (hb.cell h.sizes_lt).trans (h.sizes j v hv)⟩
theorem Tabs.drew {w : World} (h : Tabs w) : Tabs w.drew := ⟨h.rows, h.sizes⟩
theorem Tabs.drewN {w : World} (h : Tabs w) (n : Nat) : Tabs (w.drewN n) := ⟨h.rows, h.sizes⟩
theorem Tabs.alloc {w : World} (h : Tabs w) (o : Obj) : Tabs (w.alloc o) := h.below ((Below.refl _ _).alloc lr' _)
def formBad (k d a b n : Int) (l : Bool) : Bool :=
 (!hasD (shapeT k) && d != 0) || (!hasA (shapeT k) && a != 0) || (!hasB (shapeT k) && b != 0) || (!hasN (shapeT k) && n != 0) || (l && longT k == 0)
def nOk (k n : Int) (l : Bool) : Bool :=
 if shapeT k == 2 || shapeT k == 10 || l then inside n (-32768) 32767 else if shapeT k == 11 then inside n 0 19 else inside n (-128) 127
def chk (k d a b n : Int) (l : Bool) : Int :=
 if k < 1 ∨ 24 < k then 3 else if formBad k d a b n l then 4 else if !isReg d || !isReg a || !isReg b then 2 else if nOk k n l then 0 else 2
end Go.Proofs.YtcdlgjhdbmmomaaGreatDoor
