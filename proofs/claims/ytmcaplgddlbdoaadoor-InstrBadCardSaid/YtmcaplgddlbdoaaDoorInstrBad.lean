/- The given statement on InstrBad, proved: what is no instruction is refused, each by its own error. No condition of its own. -/
import Derived.Test.YtmcaplgddlbdoaaDoorLawR
import Derived.Test.YtmcaplgddlbdoaaDoorIsaJ
import Derived.Test.YtmcaplgddlbdoaaDoorPlainC
import Derived.Deep.QuietTactic
import Derived.BigQuiet
import Derived.Deep.RegionHeld3
import Derived.Deep.DeepCutAuto
import Derived.WalkLawsBesides
namespace Go.Proofs.YtmcaplgddlbdoaaDoor
open Go.ChangeShapes Go.WideShapes Go.ChangeAt Go.RowKit Go.Joins
open Go.ChangeMaps (open_string)
/-- the odd instructions, and what each is refused with -/
def oddL (k : Int) : List Ins := [⟨0, 0, 0, 0, 0, false⟩, ⟨25 + k, 0, 0, 0, 0, false⟩, ⟨1, 1 + k, 0, 0, 0, false⟩, ⟨5, 0, 1 + k, 0, 0, false⟩, ⟨4, 0, 0, 0, 0, true⟩, ⟨23, 0, 0, 0, 0, true⟩, ⟨7, 8 + k, 0, 0, 0, false⟩, ⟨17, 0, -1 - k, 0, 0, false⟩,
  ⟨6, 0, 0, 0, 128 + k, false⟩, ⟨5, 0, 0, 0, 32768 + k, false⟩, ⟨22, 0, 0, 0, -129 - k, false⟩, ⟨22, 0, 0, 0, -32769 - k, true⟩, ⟨24, 0, 0, 0, 20 + k, false⟩, ⟨24, 0, 0, 0, -1 - k, false⟩]
def errL : List Int := [3, 3, 4, 4, 4, 4, 2, 2, 2, 2, 2, 2, 2, 2]
theorem odd_all : ∀ k : Fin 100, ∀ j : Fin 14, ((oddL (k.val : Int)).getD j.val Ins.zero).chk = errL.getD j.val 0 ∧ errL.getD j.val 0 ≠ 0 := by decide +kernel
theorem odd_at (k : Int) (h0 : 0 ≤ k) (h1 : k < 100) (j : Nat) (hj : j < 14) : ((oddL k).getD j Ins.zero).chk = errL.getD j 0 ∧ errL.getD j 0 ≠ 0 := by
  obtain ⟨n, rfl⟩ := Int.eq_ofNat_of_zero_le h0
  exact odd_all ⟨n, by omega⟩ ⟨j, hj⟩
theorem dec_none (k : Int) (_h0 : 0 ≤ k) (_h1 : k < 100) : decB [112 + k % 16] 0 = (Ins.zero, 0, 3) := by
  have h : ∀ k : Fin 16, (kindOf (112 + (k.val : Int))).1 = 0 := by decide +kernel
  have := h ⟨(k % 16).toNat, by omega⟩
  simp only [Int.toNat_of_nonneg (show 0 ≤ k % 16 by omega)] at this
  unfold decB
  rw [if_neg (by simp), show (0 : Int).toNat = 0 from rfl]
  simp only [List.getD_cons_zero]
  rw [if_pos this]
/-- the cells of the odd instructions, one behind the other; what each is refused with -/
def oddC (k : Int) : Array Value := #[.int .i64 0, .int .i64 0, .int .i64 0, .int .i64 0, .int .i64 0, .bool false, .int .i64 (25 + k), .int .i64 0, .int .i64 0, .int .i64 0, .int .i64 0, .bool false, .int .i64 1, .int .i64 (1 + k), .int .i64 0, .int .i64 0, .int .i64 0, .bool false, .int .i64 5, .int .i64 0, .int .i64 (1 + k), .int .i64 0, .int .i64 0, .bool false, .int .i64 4, .int .i64 0, .int .i64 0, .int .i64 0, .int .i64 0, .bool true, .int .i64 23, .int .i64 0, .int .i64 0, .int .i64 0, .int .i64 0, .bool true, .int .i64 7, .int .i64 (8 + k), .int .i64 0, .int .i64 0, .int .i64 0, .bool false, .int .i64 17, .int .i64 0, .int .i64 (-1 - k), .int .i64 0, .int .i64 0, .bool false, .int .i64 6, .int .i64 0, .int .i64 0, .int .i64 0, .int .i64 (128 + k), .bool false, .int .i64 5, .int .i64 0, .int .i64 0, .int .i64 0, .int .i64 (32768 + k), .bool false, .int .i64 22, .int .i64 0, .int .i64 0, .int .i64 0, .int .i64 (-129 - k), .bool false, .int .i64 22, .int .i64 0, .int .i64 0, .int .i64 0, .int .i64 (-32769 - k), .bool true, .int .i64 24, .int .i64 0, .int .i64 0, .int .i64 0, .int .i64 (20 + k), .bool false, .int .i64 24, .int .i64 0, .int .i64 0, .int .i64 0, .int .i64 (-1 - k), .bool false]
def errC : Array Value := #[.int .i64 3, .int .i64 3, .int .i64 4, .int .i64 4, .int .i64 4, .int .i64 4, .int .i64 2, .int .i64 2, .int .i64 2, .int .i64 2, .int .i64 2, .int .i64 2, .int .i64 2, .int .i64 2]
theorem odd_cells (k : Int) (j : Nat) (hj : j < 14) : (oddC k)[j * 6]? = some (.int .i64 ((oddL k).getD j Ins.zero).k) ∧ (oddC k)[j * 6 + 1]? = some (.int .i64 ((oddL k).getD j Ins.zero).d) ∧ (oddC k)[j * 6 + 2]? = some (.int .i64 ((oddL k).getD j Ins.zero).a) ∧
    (oddC k)[j * 6 + 3]? = some (.int .i64 ((oddL k).getD j Ins.zero).b) ∧ (oddC k)[j * 6 + 4]? = some (.int .i64 ((oddL k).getD j Ins.zero).n) ∧ (oddC k)[j * 6 + 5]? = some (.bool ((oddL k).getD j Ins.zero).l) ∧ errC[j]? = some (.int .i64 (errL.getD j 0)) := match j, hj with
  | 0, _ => ⟨rfl, rfl, rfl, rfl, rfl, rfl, rfl⟩
  | 1, _ => ⟨rfl, rfl, rfl, rfl, rfl, rfl, rfl⟩
  | 2, _ => ⟨rfl, rfl, rfl, rfl, rfl, rfl, rfl⟩
  | 3, _ => ⟨rfl, rfl, rfl, rfl, rfl, rfl, rfl⟩
  | 4, _ => ⟨rfl, rfl, rfl, rfl, rfl, rfl, rfl⟩
  | 5, _ => ⟨rfl, rfl, rfl, rfl, rfl, rfl, rfl⟩
  | 6, _ => ⟨rfl, rfl, rfl, rfl, rfl, rfl, rfl⟩
  | 7, _ => ⟨rfl, rfl, rfl, rfl, rfl, rfl, rfl⟩
  | 8, _ => ⟨rfl, rfl, rfl, rfl, rfl, rfl, rfl⟩
  | 9, _ => ⟨rfl, rfl, rfl, rfl, rfl, rfl, rfl⟩
  | 10, _ => ⟨rfl, rfl, rfl, rfl, rfl, rfl, rfl⟩
  | 11, _ => ⟨rfl, rfl, rfl, rfl, rfl, rfl, rfl⟩
  | 12, _ => ⟨rfl, rfl, rfl, rfl, rfl, rfl, rfl⟩
  | 13, _ => ⟨rfl, rfl, rfl, rfl, rfl, rfl, rfl⟩
  | n + 14, h => absurd h (by omega)
set_option maxHeartbeats 4000000 in
set_option maxRecDepth 100000 in
theorem instrBad_walk (a n : Int) (ha : I64 a) (hn : I64 n) (w : World) (hT : Tabs w) : Calls Tryd.prog 9 #[.int .i64 a, .int .i64 n] w fun e w' => e = .returned (.bool true) ∧ Below w.heap.size w w' := by
  obtain ⟨a1, a2⟩ := ha
  obtain ⟨n1, n2⟩ := hn
  have hk := pickL_bd n 100 (by decide)
  have hj := pickL_bd a 14 (by decide)
  go_enter Tryd.func9, Tryd.ntmps9
  go_wp2_with fail
  refine (picked_any _ _ _ n1 n2 (by decide) (by decide)).mono ?_
  rintro e w3 ⟨rfl, rfl⟩
  generalize pickL n 100 = k at *
  go_wp2_with fail
  obtain ⟨W, hW⟩ : ∃ W, (w.alloc (.cells (oddC k) 25)).alloc (.cells errC 27) = W := ⟨_, rfl⟩
  rw [show (w.alloc (.cells #[.int .i64 0, .int .i64 0, .int .i64 0, .int .i64 0, .int .i64 0, .bool false, .int .i64 (25 + k), .int .i64 0, .int .i64 0, .int .i64 0, .int .i64 0, .bool false, .int .i64 1, .int .i64 (1 + k), .int .i64 0, .int .i64 0, .int .i64 0, .bool false, .int .i64 5, .int .i64 0, .int .i64 (1 + k), .int .i64 0, .int .i64 0, .bool false, .int .i64 4, .int .i64 0, .int .i64 0, .int .i64 0, .int .i64 0, .bool true, .int .i64 23, .int .i64 0, .int .i64 0, .int .i64 0, .int .i64 0, .bool true, .int .i64 7, .int .i64 (8 + k), .int .i64 0, .int .i64 0, .int .i64 0, .bool false, .int .i64 17, .int .i64 0, .int .i64 (-1 - k), .int .i64 0, .int .i64 0, .bool false, .int .i64 6, .int .i64 0, .int .i64 0, .int .i64 0, .int .i64 (128 + k), .bool false, .int .i64 5, .int .i64 0, .int .i64 0, .int .i64 0, .int .i64 (32768 + k), .bool false, .int .i64 22, .int .i64 0, .int .i64 0, .int .i64 0, .int .i64 (-129 - k), .bool false, .int .i64 22, .int .i64 0, .int .i64 0, .int .i64 0, .int .i64 (-32769 - k), .bool true, .int .i64 24, .int .i64 0, .int .i64 0, .int .i64 0, .int .i64 (20 + k), .bool false, .int .i64 24, .int .i64 0, .int .i64 0, .int .i64 0, .int .i64 (-1 - k), .bool false] 25)).alloc (.cells #[.int .i64 3, .int .i64 3, .int .i64 4, .int .i64 4, .int .i64 4, .int .i64 4, .int .i64 2, .int .i64 2, .int .i64 2, .int .i64 2, .int .i64 2, .int .i64 2, .int .i64 2, .int .i64 2] 27) = W from hW]
  have b0 : W.heap[w.heap.size]? = some (.cells (oddC k) 25 (0, 0)) := by rw [← hW]; exact (Below.heap_alloc _ _ _ (by simp)).trans (heap_alloc_new w _)
  have b1 : W.heap[w.heap.size + 1]? = some (.cells errC 27 (0, 0)) := by rw [← hW]; exact heap_alloc2_new w _ _
  have hB0 : Below w.heap.size w W := by rw [← hW]; exact ((Below.refl _ _).alloc (Nat.le_refl _) _).alloc (by simp) _
  have hz0 : w.heap.size + 1 < W.heap.size := by rw [← hW]; simp
  have hT0 := hT.below hB0
  clear hW hT
  refine (picked_any _ _ _ a1 a2 (by decide) (by decide)).mono ?_
  rintro e w3 ⟨rfl, rfl⟩
  obtain ⟨j, hjj⟩ := Int.eq_ofNat_of_zero_le hj.1
  rw [hjj] at hj ⊢
  clear hjj
  have hj14 : j < 14 := by omega
  obtain ⟨o0, o1, o2, o3, o4, o5, o6⟩ := odd_cells k j hj14
  obtain ⟨hch, hch0⟩ := odd_at k hk.1 hk.2 j hj14
  have HD := Lib.hid (dec_none k hk.1 hk.2)
  generalize (oddL k).getD j Ins.zero = I at *
  generalize errL.getD j 0 = E at *
  have hcc : chk I.k I.d I.a I.b I.n I.l = E := hch
  clear hch
  have c0 : W.cell? ⟨w.heap.size, j * 6, none⟩ = some (.int .i64 I.k) := (cell_of_row W _ _ _ _ _ b0).trans o0
  have c1 : W.cell? ⟨w.heap.size, j * 6 + 1, none⟩ = some (.int .i64 I.d) := (cell_of_row W _ _ _ _ _ b0).trans o1
  have c2 : W.cell? ⟨w.heap.size, j * 6 + 2, none⟩ = some (.int .i64 I.a) := (cell_of_row W _ _ _ _ _ b0).trans o2
  have c3 : W.cell? ⟨w.heap.size, j * 6 + 3, none⟩ = some (.int .i64 I.b) := (cell_of_row W _ _ _ _ _ b0).trans o3
  have c4 : W.cell? ⟨w.heap.size, j * 6 + 4, none⟩ = some (.int .i64 I.n) := (cell_of_row W _ _ _ _ _ b0).trans o4
  have c5 : W.cell? ⟨w.heap.size, j * 6 + 5, none⟩ = some (.bool I.l) := (cell_of_row W _ _ _ _ _ b0).trans o5
  have c6 : W.cell? ⟨w.heap.size + 1, j, none⟩ = some (.int .i64 E) := (cell_of_row W _ _ _ _ _ b1).trans o6
  have HC := Lib.hid hcc
  have HE := Lib.hid hch0
  clear b0 b1 o0 o1 o2 o3 o4 o5 o6 hcc hch0
  have j14 : (j : Int) < 14 := by omega
  go_wp2_with fail
  refine (encode_bad _ _ _ _ _ _ _ hT0 (by rw [HC.out]; exact HE.out)).mono ?_
  rintro e w4 ⟨rfl, hb4⟩
  rw [HC.out]
  have hT4 := hT0.below hb4
  have hlt0 : w.heap.size < W.heap.size := by omega
  have hc4 : ∀ b o v, b < W.heap.size → W.cell? ⟨b, o, none⟩ = some v → w4.cell? ⟨b, o, none⟩ = some v := fun b o v h hv => (hb4.cell (p := ⟨b, o, none⟩) h).trans hv
  have d0 := hc4 _ _ _ hlt0 c0
  have d1 := hc4 _ _ _ hlt0 c1
  have d2 := hc4 _ _ _ hlt0 c2
  have d3 := hc4 _ _ _ hlt0 c3
  have d4 := hc4 _ _ _ hlt0 c4
  have d5 := hc4 _ _ _ hlt0 c5
  have d6 := hc4 _ _ _ hz0 c6
  have hz4 : w.heap.size + 1 < w4.heap.size := by have := hb4.size; omega
  have hB4 := hB0.trans (hb4.mono hB0.size)
  clear hc4 hb4 c0 c1 c2 c3 c4 c5 c6 hT0 hB0 hz0 hlt0
  go_wp2_with fail
  refine (size_any _ _ _ _ _ _ _ hT4).mono ?_
  rintro e w5 ⟨rfl, hb5⟩
  rw [HC.out, if_neg HE.out]
  have hT5 := hT4.below hb5
  have hlt4 : w.heap.size < w4.heap.size := by omega
  have hc5 : ∀ b o v, b < w4.heap.size → w4.cell? ⟨b, o, none⟩ = some v → w5.cell? ⟨b, o, none⟩ = some v := fun b o v h hv => (hb5.cell (p := ⟨b, o, none⟩) h).trans hv
  have e0 := hc5 _ _ _ hlt4 d0
  have e1 := hc5 _ _ _ hlt4 d1
  have e2 := hc5 _ _ _ hlt4 d2
  have e3 := hc5 _ _ _ hlt4 d3
  have e4 := hc5 _ _ _ hlt4 d4
  have e5 := hc5 _ _ _ hlt4 d5
  have e6 := hc5 _ _ _ hz4 d6
  have hz5 : w.heap.size + 1 < w5.heap.size := by have := hb5.size; omega
  have hB5 := hB4.trans (hb5.mono hB4.size)
  clear hc5 hb5 d0 d1 d2 d3 d4 d5 d6 hT4 hB4 hz4 hlt4
  have hrem : k.tmod 16 = k % 16 := Int.tmod_eq_emod_of_nonneg (by omega)
  go_wp2_with fail
  refine (decode_any [112 + k % 16] _ _ _ _ _ (hT5.alloc _) rfl ⟨by simp; omega, fun _ => ⟨w5.heap.size, 0, rfl, by simp, fun j x hx => ?hcc⟩⟩ (by simp) (by simp)).mono ?_
  case hcc =>
    match j, hx with
    | 0, hx => cases hx; go_simp
    | j + 1, hx => simp at hx
  rintro e w6 ⟨rfl, hb6⟩
  rw [HD.out]
  unfold decV Ins.cells Ins.zero
  have hlt5 : w.heap.size < w5.heap.size := by omega
  have hc6 : ∀ b o v, b < w5.heap.size → w5.cell? ⟨b, o, none⟩ = some v → w6.cell? ⟨b, o, none⟩ = some v := fun b o v h hv => (hb6.cell (p := ⟨b, o, none⟩) (by simp; omega)).trans ((((Below.refl _ w5).alloc (Nat.le_refl _) _).cell (p := ⟨b, o, none⟩) h).trans hv)
  have f0 := hc6 _ _ _ hlt5 e0
  have f1 := hc6 _ _ _ hlt5 e1
  have f2 := hc6 _ _ _ hlt5 e2
  have f3 := hc6 _ _ _ hlt5 e3
  have f4 := hc6 _ _ _ hlt5 e4
  have f5 := hc6 _ _ _ hlt5 e5
  have f6 := hc6 _ _ _ hz5 e6
  have hz6 : w.heap.size + 1 < w6.heap.size := by have := hb6.size; simp at this; omega
  have hlt6 : w.heap.size < w6.heap.size := by omega
  have hB6 := (hB5.alloc hB5.size _).trans (hb6.mono (by have := hB5.size; simp; omega))
  have hT6 := (hT5.alloc _).below hb6
  clear hc6 hb6 e0 e1 e2 e3 e4 e5 e6 hT5 hB5 hz5 hlt5
  go_upto_region 8 with fail
  have hB7 := hB6.alloc hB6.size (.cells #[.int .i64 0, .int .i64 0, .int .i64 0, .int .i64 0, .int .i64 0, .bool false] 25)
  have hT7 := hT6.alloc (.cells #[.int .i64 0, .int .i64 0, .int .i64 0, .int .i64 0, .int .i64 0, .bool false] 25)
  have hc7 : ∀ b o v, b < w6.heap.size → w6.cell? ⟨b, o, none⟩ = some v → (w6.alloc (.cells #[.int .i64 0, .int .i64 0, .int .i64 0, .int .i64 0, .int .i64 0, .bool false] 25)).cell? ⟨b, o, none⟩ = some v := fun b o v h hv => (((Below.refl _ w6).alloc (Nat.le_refl _) _).cell (p := ⟨b, o, none⟩) h).trans hv
  have g0 := hc7 _ _ _ hlt6 f0
  have g1 := hc7 _ _ _ hlt6 f1
  have g2 := hc7 _ _ _ hlt6 f2
  have g3 := hc7 _ _ _ hlt6 f3
  have g4 := hc7 _ _ _ hlt6 f4
  have g5 := hc7 _ _ _ hlt6 f5
  have g6 := hc7 _ _ _ hz6 f6
  have hz7 : w.heap.size + 1 < (w6.alloc (.cells #[.int .i64 0, .int .i64 0, .int .i64 0, .int .i64 0, .int .i64 0, .bool false] 25)).heap.size := by simp; omega
  clear hc7 f0 f1 f2 f3 f4 f5 f6 hB6 hT6 hz6 hlt6
  generalize w6.alloc (.cells #[.int .i64 0, .int .i64 0, .int .i64 0, .int .i64 0, .int .i64 0, .bool false] 25) = W6 at *
  go_region_held3 (fun w' => w'.cell? ⟨w.heap.size, j * 6, none⟩ = some (.int .i64 I.k) ∧ w'.cell? ⟨w.heap.size, j * 6 + 1, none⟩ = some (.int .i64 I.d) ∧ w'.cell? ⟨w.heap.size, j * 6 + 2, none⟩ = some (.int .i64 I.a) ∧
      w'.cell? ⟨w.heap.size, j * 6 + 3, none⟩ = some (.int .i64 I.b) ∧ w'.cell? ⟨w.heap.size, j * 6 + 4, none⟩ = some (.int .i64 I.n) ∧ w'.cell? ⟨w.heap.size, j * 6 + 5, none⟩ = some (.bool I.l) ∧ w'.cell? ⟨w.heap.size + 1, j, none⟩ = some (.int .i64 E))
    (first | go_keep | (refine ⟨?_, ?_, ?_, ?_, ?_, ?_, ?_⟩ <;> (refine (hb8.cell (p := ⟨_, _, none⟩) ?_).trans ?_) <;> first | assumption | (simp; done) | (show w.heap.size < _; simp; omega)))
    ((go_at_call 17; refine (check_any _ _ _ _ _ _ _ hT7.drew).mono ?_; rintro e w8 ⟨rfl, hb8⟩; rw [HC.out]))
  have hB8 : Below w.heap.size w w8 := hB7.drew.trans (hb8.mono (by have := hB7.size; simp; omega))
  go_wp2
  go_ret
  exact ⟨rfl, hB8⟩
theorem instrBad_contract (H : Type) (enc : TypeId × Value → H) (W : World) (base : Nat) (args : Array Value) (ds gs : List (DataW H)) (before : List MemPlace)
    (hval : ∀ (j : Nat) t v, Tryd.f9.params[j]? = some t → args[j]? = some v → Value.okWide Tryd.prog W .any base t v)
    (hW : DataW.Whole enc Tryd.prog Tryd.f9.params.toList Rows.instrBadSpec.vars false W args.toList ds gs before) (hL : laidMetH Tryd.prog Rows.instrBadRow.laid W) :
    Calls Tryd.prog 9 args W fun e W' => ∃ v, e = .returned v ∧ Rows.instrBadSpec.post enc Tryd.prog Tryd.f9 false true false false W args v W' := by
  have hT : Tabs W := tabs_of_laid (rest := []) hL
  have hW0 := hW
  obtain ⟨p, q, hA0, hV, rfl, hfz, hnd⟩ := hW
  have hA : DataW.TrodAll enc Tryd.prog W 0 (fun _ => true) true Tryd.f9.params.toList args.toList ds p := hA0
  rw [Tryd.params9] at hA hval
  obtain ⟨v0, vs0, d0, ds0, p0, q0, hargs, rfl, rfl, h0, r0⟩ := trodAll_cons hA
  obtain ⟨v1, vs1, d1, ds1, p1, q1, rfl, rfl, rfl, h1, r1⟩ := trodAll_cons r0
  obtain ⟨rfl, rfl, rfl⟩ := trodAll_nil r1
  obtain rfl : args = #[v0, v1] := by cases args; simp_all
  obtain ⟨rfl, rfl⟩ := trodVars_none hV
  clear hA0
  obtain ⟨a, rfl, rfl, rfl, wa⟩ := open_int Tryd.underlying3 (hval 0 3 v0 rfl rfl) h0
  obtain ⟨b, rfl, rfl, rfl, wb⟩ := open_int Tryd.underlying3 (hval 1 3 v1 rfl rfl) h1
  refine (instrBad_walk a b (i64_of_wf wa) (i64_of_wf wb) W hT).mono fun e W' ⟨he, hb⟩ => ?_
  subst he
  exact ⟨_, rfl, law_post hW0 rfl rfl (by kernel_rfl) (by kernel_rfl) hb⟩
theorem instrBad_met (os : Os) : laidMet Tryd.prog Rows.instrBadRow.laid ((laidWorld os).forCall (fun _ _ => 0) ⟨#[], #[.int .i64 0, .int .i64 0], []⟩).memory :=
  laidMet_of_run' 8 (by kernel_rfl) (by kernel_rfl)
theorem instrBad_reads (os : Os) {H : Type} (enc : TypeId × Value → H) : ∃ places, DataW.whole enc Tryd.prog ((laidWorld os).forCall (fun _ _ => 0) ⟨#[], #[.int .i64 0, .int .i64 0], []⟩).memory Tryd.f9.params.toList Rows.instrBadSpec.vars false (#[.int .i64 0, .int .i64 0] : Array Value).toList 8 = some ([.lit (.int .i64 0), .lit (.int .i64 0)], [], places) :=
  ⟨[], by kernel_rfl⟩
set_option maxRecDepth 100000 in
theorem instrBad_lifted (os : Os) (started : os.Started) (H : Type) (enc : TypeId × Value → H) (F : Stop.Interp) :
    ReturnsInHanded {} Tryd.checked os 9 .any ((OpenSpec.ofChange Rows.instrBadSpec).preRow enc Tryd.prog Tryd.f9 Rows.instrBadRow.domain false Rows.instrBadRow.laid) (((OpenSpec.ofChange Rows.instrBadSpec).at F).post enc Tryd.prog Tryd.f9 false true false false) := by
  obtain ⟨places, hx⟩ := instrBad_reads os enc
  refine returnsInHanded_of_row (C := Tryd.checked) (s := OpenSpec.ofChange Rows.instrBadSpec) ownP started (by kernel_rfl) Tryd.func9
    (witness_row_at (enc := enc) (C := Tryd.checked) false (laidWorld os) #[.int .i64 0, .int .i64 0] rfl (by kernel_rfl) (by kernel_rfl) (by kernel_rfl)
      (OpenSpec.preRow_of_cond 8 hx (by kernel_rfl) (fun k hk => by cases hk) (by kernel_rfl) (instrBad_met os))) ?_
  intro W base args ds gs before hval hW _ _ _ hL _ _
  exact instrBad_contract H enc W base args ds gs before hval hW hL
theorem instrBad_said : Rows.InstrBadSaid :=
  OpenClaim.holds_of_cond 9 Tryd.f9 rfl rfl rfl rfl rfl rfl rfl ⟨rfl, rfl, rfl, rfl, rfl⟩ rfl rfl rfl rfl rfl (by kernel_rfl) Tryd.func9 (by kernel_rfl)
    (of_decide_eq_true (by kernel_rfl)) (by unfold Func.isWrapper; first | (rw [if_pos (by decide +kernel)]; kernel_rfl) | (rw [if_neg (by decide +kernel)]; exact ⟨rfl, rfl⟩))
    (fun os started H enc _ F => by rw [OpenClaim.pre_eq_preRow]; exact instrBad_lifted os started H enc F)
theorem instrBad_plain (f : FuncId) (fn : Func) (hf : Tryd.pinned.checked.prog.funcNamed "bolthole/boltholekeep.InstrBad" = some f) (hfn : Tryd.pinned.checked.prog.funcs[f]? = some fn) :
    false = Tryd.pinned.checked.prog.looks [] ∧ ∀ (j : Nat) t, fn.params[j]? = some t → Tryd.pinned.checked.prog.wantsStandIn t = false := by
  obtain rfl : f = 9 := Option.some.inj ((show Tryd.prog.funcNamed "bolthole/boltholekeep.InstrBad" = some 9 by kernel_rfl).symm.trans hf) |>.symm
  obtain rfl : fn = Tryd.f9 := (Option.some.inj (Tryd.func9.symm.trans hfn)).symm
  refine ⟨by kernel_rfl, fun j t ht => ?_⟩
  have hall : ∀ t ∈ Tryd.f9.params, Tryd.prog.wantsStandIn t = false := by
    rw [Tryd.params9]
    intro t ht
    simp only [List.mem_toArray, List.mem_cons, List.not_mem_nil, or_false] at ht
    rcases ht with rfl | rfl
    all_goals kernel_rfl
  exact hall t (Array.mem_of_getElem? ht)
theorem instrBad_card : Rows.InstrBadCardSaid :=
  Claim7.holds_tied_plain_at .later [] _ _ _ _ instrBad_said (fun _ h => by cases h) (by kernel_rfl) (fun _ h => by cases h) instrBad_row_tie rfl ⟨rfl, rfl⟩ (by kernel_rfl) rfl instrBad_plain (by kernel_rfl)
end Go.Proofs.YtmcaplgddlbdoaaDoor
