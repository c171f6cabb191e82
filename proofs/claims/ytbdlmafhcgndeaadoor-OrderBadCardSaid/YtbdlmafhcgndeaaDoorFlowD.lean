/- The finder's plain. -/
import Derived.Test.YtbdlmafhcgndeaaDoorFlowC
namespace Go.Proofs.YtbdlmafhcgndeaaDoor
open Go.RowKit
/-- an instruction as it stands in a block -/
def finPl (fs : List FnD) (s : Sp) : Ins := if s.i.k = 23 then { s.i with n := idxP (fun f => f.start == s.p + s.i.n) fs } else s.i
set_option maxHeartbeats 2000000 in
set_option maxRecDepth 100000 in
theorem fin_plain (X : Nat) (fA : Option Addr) (fc : Nat) (fs : List FnD) (p z k d a b n : Int) (l : Bool) (w : World) (hX : X < w.heap.size) (hc : w.cell? ⟨X, 1, none⟩ = some (.slice fA fs.length fc)) (hR : RdG w w.heap.size fA (funcsV fs)) (hl : fs.length ≤ 140737488355328)
    (hb : IntKind.i64.wrap (p + n) = p + n) :
    Calls Tryd.prog 79 #[.pointer (some ⟨X, 0, none⟩), .agg #[.int .i64 p, .int .i64 z, .int .i64 k, .int .i64 d, .int .i64 a, .int .i64 b, .int .i64 n, .bool l]] w fun e w' => e = .returned (.agg #[.int .i64 k, .int .i64 d, .int .i64 a, .int .i64 b, .int .i64 (finPl fs ⟨p, z, ⟨k, d, a, b, n, l⟩⟩).n, .bool l]) ∧ Below w.heap.size w w' := by
  have HR := Lib.hid hR
  have HB := Lib.hid hb
  obtain ⟨nf, hnf⟩ : ∃ q, fs.length = q := ⟨_, rfl⟩
  rw [hnf] at hc hl
  have HNF := Lib.hid hnf
  obtain ⟨N, hN⟩ : ∃ q, (finPl fs ⟨p, z, ⟨k, d, a, b, n, l⟩⟩).n = q := ⟨_, rfl⟩
  rw [hN]
  clear hR hb hnf
  go_enter Tryd.func79, Tryd.ntmps79
  by_cases hk : k = 23
  · subst hk
    have HN : Hid (idxP (fun f => f.start == p + n) fs = N) := Lib.hid (by rw [← hN]; rfl)
    clear hN
    go_wp2_with fail
    obtain ⟨W, hW⟩ : ∃ q, ((w.alloc (.cells #[.int .i64 p, .int .i64 z, .int .i64 23, .int .i64 d, .int .i64 a, .int .i64 b, .int .i64 n, .bool l] 101)).alloc (.cells #[.int .i64 0, .int .i64 0, .int .i64 0, .int .i64 0, .int .i64 0, .bool false] 40)) = q := ⟨_, rfl⟩
    rw [hW]
    have hbW : Below w.heap.size w W := by rw [← hW]; exact ((Below.refl _ _).alloc (Nat.le_refl _) _).alloc (by simp) _
    have hs : Blk W w.heap.size 101 [.int .i64 p, .int .i64 z, .int .i64 23, .int .i64 d, .int .i64 a, .int .i64 b, .int .i64 n, .bool l] := by rw [← hW]; exact (Blk.new w _ _).alloc _
    have hr : Blk W (w.heap.size + 1) 40 [.int .i64 0, .int .i64 0, .int .i64 0, .int .i64 0, .int .i64 0, .bool false] := by rw [← hW]; exact Blk.new2 w _ _ _
    clear hW
    have hix := idx_pl1 fs (fun f => f.start == p + n) fA nf fc w.heap.size W ((HR.out.below hbW).more hbW.size) HNF.out.symm hl (fun V hV f _ => fin_plain1 w.heap.size f.name f.start f.size p n V ((hs.keep hV).cell 0 rfl) ((hs.keep hV).cell 6 rfl) (hs.keep hV).lt HB.out)
    refine hix.mono ?_
    rintro e W2 ⟨rfl, hb2⟩
    rw [HN.out]
    have hs2 := hs.keep hb2
    have hr2 := hr.keep hb2
    have HB2 := Lib.hid (hbW.trans (hb2.mono hbW.size))
    have HR2 := Lib.hid hr2
    have hz2 : w.heap.size ≤ W2.heap.size := HB2.out.size
    clear hix hb2 hbW hs hr
    have s2 := hs2.cell 2 rfl
    have s3 := hs2.cell 3 rfl
    have s4 := hs2.cell 4 rfl
    have s5 := hs2.cell 5 rfl
    have s6 := hs2.cell 6 rfl
    have s7 := hs2.cell 7 rfl
    have f6 := hs2.free 6
    have r0 := hr2.cell 0 rfl
    have r1 := hr2.cell 1 rfl
    have r2 := hr2.cell 2 rfl
    have r3 := hr2.cell 3 rfl
    have r4 := hr2.cell 4 rfl
    have r5 := hr2.cell 5 rfl
    have g0 := hr2.free 0
    have g1 := hr2.free 1
    have g2 := hr2.free 2
    have g3 := hr2.free 3
    have g4 := hr2.free 4
    have g5 := hr2.free 5
    have l0 := hs2.lt
    have l1 := hr2.lt
    clear hs2 hr2
    go_wp2
    have h0 : Blk (W2.setCell ⟨w.heap.size, 6, none⟩ (.int .i64 N)) (w.heap.size + 1) 40 [.int .i64 0, .int .i64 0, .int .i64 0, .int .i64 0, .int .i64 0, .bool false] := HR2.out.set_ne (by omega) _ _
    have h1 := (((((h0.set 0 (.int .i64 23)).set 1 (.int .i64 d)).set 2 (.int .i64 a)).set 3 (.int .i64 b)).set 4 (.int .i64 N)).set 5 (.bool l)
    have b1 := gb_to_below (B := w.heap.size) (gb_setCell (gb_refl W2 (some w.heap.size)) 6 (.int .i64 N)) (Nat.le_refl _) hz2
    have b2 := gb_to_below (B := w.heap.size) (gb_setCell (gb_setCell (gb_setCell (gb_setCell (gb_setCell (gb_setCell (gb_refl (W2.setCell ⟨w.heap.size, 6, none⟩ (.int .i64 N)) (some (w.heap.size + 1))) 0 (.int .i64 23)) 1 (.int .i64 d)) 2 (.int .i64 a)) 3 (.int .i64 b)) 4 (.int .i64 N)) 5 (.bool l)) (by omega) (by have := b1.size; omega)
    exact bodyPost_ret (results_cell_row rfl _ _ (w.heap.size + 1) 40 #[.int .i64 23, .int .i64 d, .int .i64 a, .int .i64 b, .int .i64 N, .bool l] (0, 0) _ rfl h1 Tryd.underlying40 rfl (by kernel_rfl)) rfl ⟨rfl, (HB2.out.trans b1).trans b2⟩
  · have hN2 : n = N := by rw [← hN]; unfold finPl; rw [if_neg hk]
    subst hN2
    have hkb : (k == 23) = false := by simpa using hk
    clear hN
    go_wp2
    exact bodyPost_ret (results_cell_row rfl _ _ (w.heap.size + 1) 40 #[.int .i64 k, .int .i64 d, .int .i64 a, .int .i64 b, .int .i64 n, .bool l] (0, 0) _ rfl (heap_alloc2_new w _ _) Tryd.underlying40 rfl (by kernel_rfl)) rfl ⟨rfl, ((Below.refl _ _).alloc (Nat.le_refl _) _).alloc (by simp) _⟩
end Go.Proofs.YtbdlmafhcgndeaaDoor
