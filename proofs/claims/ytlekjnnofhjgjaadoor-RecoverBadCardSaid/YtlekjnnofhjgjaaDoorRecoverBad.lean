/- The given statement on RecoverBad, proved: code that can't be followed is refused. No condition of its own. -/
import Derived.Test.YtlekjnnofhjgjaaDoorLawS
import Derived.Test.YtlekjnnofhjgjaaDoorOdd
import Derived.Test.YtlekjnnofhjgjaaDoorFlowN
import Derived.OwnWalk
import Derived.Deep.DeepCutAuto
import Derived.Deep.LoopGhost
import Derived.IntWalk
import Derived.WalkLawsBesides
namespace Go.Proofs.YtlekjnnofhjgjaaDoor
open Go.ChangeShapes Go.WideShapes Go.ChangeAt Go.RowKit Go.Joins
open Go.ChangeMaps (open_string)
theorem nexts_zero (w : World) : Calls Tryd.prog 29 #[.agg #[.slice none 0 0, .slice none 0 0, .slice none 0 0], .int .i64 0] w fun e w' => e = .returned (.tuple #[.slice none 0 0, .int .i64 6]) ∧ Below w.heap.size w w' := by
  go_enter Tryd.func29, Tryd.ntmps29
  go_wp2
  go_ret2
  exact ⟨rfl, (Below.refl _ _).alloc (Nat.le_refl _) _⟩
theorem insR_at {L : List Ins} {j : Nat} {i : Ins} (h : L[j]? = some i) (q : Nat) (u : Value) (hu : (insC i)[q]? = some u) : (insR L)[j * 6 + q]? = some u :=
  flat_at insC 6 (fun _ => rfl) L j i h q u (by have h1 := (List.getElem?_eq_some_iff.1 hu).1; simpa [insC] using h1) hu
theorem odd_blocks (X : World) : ∃ W7 : World, (((((((X.alloc (.cells #[.int .i64 4, .int .i64 0, .int .i64 0, .int .i64 0, .int .i64 0, .bool false] 47)).alloc (.cells #[.int .i64 22, .int .i64 0, .int .i64 0, .int .i64 0, .int .i64 1, .bool false] 47)).alloc (.cells #[.int .i64 18, .int .i64 0, .int .i64 0, .int .i64 0, .int .i64 1, .bool false, .int .i64 1, .int .i64 0, .int .i64 0, .int .i64 0, .int .i64 0, .bool false] 47)).alloc (.cells #[.int .i64 23, .int .i64 0, .int .i64 0, .int .i64 0, .int .i64 1, .bool false, .int .i64 1, .int .i64 0, .int .i64 0, .int .i64 0, .int .i64 0, .bool false] 47)).alloc (.cells #[.int .i64 22, .int .i64 0, .int .i64 0, .int .i64 0, .int .i64 (-1), .bool false] 47)).alloc (.cells #[.int .i64 17, .int .i64 0, .int .i64 0, .int .i64 0, .int .i64 0, .bool false] 47)).alloc (.cells #[.slice (some ⟨X.heap.size, 0, none⟩) 1 1, .slice (some ⟨X.heap.size + 1, 0, none⟩) 1 1, .slice (some ⟨X.heap.size + 1 + 1, 0, none⟩) 2 2, .slice (some ⟨X.heap.size + 1 + 1 + 1, 0, none⟩) 2 2, .slice (some ⟨X.heap.size + 1 + 1 + 1 + 1, 0, none⟩) 1 1, .slice (some ⟨X.heap.size + 1 + 1 + 1 + 1 + 1, 0, none⟩) 1 1] 45)) = W7 ∧ Below X.heap.size X W7 ∧ (∀ kk : Nat, kk < 6 → Blk W7 (X.heap.size + kk) 47 (insR (oddL kk)) ∧ W7.cell? ⟨X.heap.size + 1 + 1 + 1 + 1 + 1 + 1, kk, none⟩ = some (.slice (some ⟨X.heap.size + kk, 0, none⟩) (oddL kk).length (oddL kk).length)) ∧ X.heap.size + 7 ≤ W7.heap.size := by
  obtain ⟨a0, ha0⟩ : ∃ z, X.alloc (.cells #[.int .i64 4, .int .i64 0, .int .i64 0, .int .i64 0, .int .i64 0, .bool false] 47) = z := ⟨_, rfl⟩
  have z0 : a0.heap.size = X.heap.size + 1 := by rw [← ha0]; simp
  have b0 : Below X.heap.size X a0 := by rw [← ha0]; exact (Below.refl _ _).alloc (Nat.le_refl _) _
  have k0 : Blk a0 (X.heap.size + 0) 47 (insR (oddL 0)) := by rw [← ha0]; exact Blk.new X _ _
  rw [ha0]
  obtain ⟨a1, ha1⟩ : ∃ z, a0.alloc (.cells #[.int .i64 22, .int .i64 0, .int .i64 0, .int .i64 0, .int .i64 1, .bool false] 47) = z := ⟨_, rfl⟩
  have z1 : a1.heap.size = X.heap.size + 2 := by rw [← ha1]; simp [z0]
  have b1 : Below a0.heap.size a0 a1 := by rw [← ha1]; exact (Below.refl _ _).alloc (Nat.le_refl _) _
  have k1 : Blk a1 (X.heap.size + 1) 47 (insR (oddL 1)) := by rw [← ha1, ← z0]; exact Blk.new a0 _ _
  rw [ha1]
  obtain ⟨a2, ha2⟩ : ∃ z, a1.alloc (.cells #[.int .i64 18, .int .i64 0, .int .i64 0, .int .i64 0, .int .i64 1, .bool false, .int .i64 1, .int .i64 0, .int .i64 0, .int .i64 0, .int .i64 0, .bool false] 47) = z := ⟨_, rfl⟩
  have z2 : a2.heap.size = X.heap.size + 3 := by rw [← ha2]; simp [z1]
  have b2 : Below a1.heap.size a1 a2 := by rw [← ha2]; exact (Below.refl _ _).alloc (Nat.le_refl _) _
  have k2 : Blk a2 (X.heap.size + 2) 47 (insR (oddL 2)) := by rw [← ha2, ← z1]; exact Blk.new a1 _ _
  rw [ha2]
  obtain ⟨a3, ha3⟩ : ∃ z, a2.alloc (.cells #[.int .i64 23, .int .i64 0, .int .i64 0, .int .i64 0, .int .i64 1, .bool false, .int .i64 1, .int .i64 0, .int .i64 0, .int .i64 0, .int .i64 0, .bool false] 47) = z := ⟨_, rfl⟩
  have z3 : a3.heap.size = X.heap.size + 4 := by rw [← ha3]; simp [z2]
  have b3 : Below a2.heap.size a2 a3 := by rw [← ha3]; exact (Below.refl _ _).alloc (Nat.le_refl _) _
  have k3 : Blk a3 (X.heap.size + 3) 47 (insR (oddL 3)) := by rw [← ha3, ← z2]; exact Blk.new a2 _ _
  rw [ha3]
  obtain ⟨a4, ha4⟩ : ∃ z, a3.alloc (.cells #[.int .i64 22, .int .i64 0, .int .i64 0, .int .i64 0, .int .i64 (-1), .bool false] 47) = z := ⟨_, rfl⟩
  have z4 : a4.heap.size = X.heap.size + 5 := by rw [← ha4]; simp [z3]
  have b4 : Below a3.heap.size a3 a4 := by rw [← ha4]; exact (Below.refl _ _).alloc (Nat.le_refl _) _
  have k4 : Blk a4 (X.heap.size + 4) 47 (insR (oddL 4)) := by rw [← ha4, ← z3]; exact Blk.new a3 _ _
  rw [ha4]
  obtain ⟨a5, ha5⟩ : ∃ z, a4.alloc (.cells #[.int .i64 17, .int .i64 0, .int .i64 0, .int .i64 0, .int .i64 0, .bool false] 47) = z := ⟨_, rfl⟩
  have z5 : a5.heap.size = X.heap.size + 6 := by rw [← ha5]; simp [z4]
  have b5 : Below a4.heap.size a4 a5 := by rw [← ha5]; exact (Below.refl _ _).alloc (Nat.le_refl _) _
  have k5 : Blk a5 (X.heap.size + 5) 47 (insR (oddL 5)) := by rw [← ha5, ← z4]; exact Blk.new a4 _ _
  rw [ha5]
  obtain ⟨a6, ha6⟩ : ∃ z, a5.alloc (.cells #[.slice (some ⟨X.heap.size, 0, none⟩) 1 1, .slice (some ⟨X.heap.size + 1, 0, none⟩) 1 1, .slice (some ⟨X.heap.size + 1 + 1, 0, none⟩) 2 2, .slice (some ⟨X.heap.size + 1 + 1 + 1, 0, none⟩) 2 2, .slice (some ⟨X.heap.size + 1 + 1 + 1 + 1, 0, none⟩) 1 1, .slice (some ⟨X.heap.size + 1 + 1 + 1 + 1 + 1, 0, none⟩) 1 1] 45) = z := ⟨_, rfl⟩
  have z6 : a6.heap.size = X.heap.size + 7 := by rw [← ha6]; simp [z5]
  have b6 : Below a5.heap.size a5 a6 := by rw [← ha6]; exact (Below.refl _ _).alloc (Nat.le_refl _) _
  have k6 : Blk a6 (X.heap.size + 1 + 1 + 1 + 1 + 1 + 1) 45 [.slice (some ⟨X.heap.size, 0, none⟩) 1 1, .slice (some ⟨X.heap.size + 1, 0, none⟩) 1 1, .slice (some ⟨X.heap.size + 1 + 1, 0, none⟩) 2 2, .slice (some ⟨X.heap.size + 1 + 1 + 1, 0, none⟩) 2 2, .slice (some ⟨X.heap.size + 1 + 1 + 1 + 1, 0, none⟩) 1 1, .slice (some ⟨X.heap.size + 1 + 1 + 1 + 1 + 1, 0, none⟩) 1 1] := by
    rw [← ha6, show X.heap.size + 1 + 1 + 1 + 1 + 1 + 1 = a5.heap.size from z5.symm]
    exact Blk.new a5 _ _
  refine ⟨a6, ha6, ?_, fun kk hk => ?_, by omega⟩
  · exact b0.trans ((b1.mono (by omega)).trans ((b2.mono (by omega)).trans ((b3.mono (by omega)).trans ((b4.mono (by omega)).trans ((b5.mono (by omega)).trans (b6.mono (by omega)))))))
  · have h : kk = 0 ∨ kk = 1 ∨ kk = 2 ∨ kk = 3 ∨ kk = 4 ∨ kk = 5 := by omega
    rcases h with rfl | rfl | rfl | rfl | rfl | rfl
    · exact ⟨(((((k0.keep b1).keep b2).keep b3).keep b4).keep b5).keep b6, k6.cell 0 rfl⟩
    · exact ⟨((((k1.keep b2).keep b3).keep b4).keep b5).keep b6, k6.cell 1 rfl⟩
    · exact ⟨(((k2.keep b3).keep b4).keep b5).keep b6, k6.cell 2 rfl⟩
    · exact ⟨((k3.keep b4).keep b5).keep b6, k6.cell 3 rfl⟩
    · exact ⟨(k4.keep b5).keep b6, k6.cell 4 rfl⟩
    · exact ⟨k5.keep b6, k6.cell 5 rfl⟩
set_option maxHeartbeats 8000000 in
set_option maxRecDepth 100000 in
theorem recoverBad_walk (l : List RawI) (A : Option Addr) (c : Nat) (n : Int) (hn : N64 n) (w : World) (hT : Tabs w) (hR : RdR w w.heap.size A l) (hl : l.length ≤ 140737488355328) (hc : l.length ≤ c) :
    Calls Tryd.prog 10 #[.slice A l.length c, .int .i64 n] w fun e w' => e = .returned (.bool true) ∧ Below w.heap.size w w' := by
  have HPG := Lib.hid (program_any l A c w hT hR hc hl)
  obtain ⟨ll, hll⟩ : ∃ z, l.length = z := ⟨_, rfl⟩
  rw [hll] at HPG ⊢
  have hk := pickL_bd n 6 (by decide)
  have HPK := Lib.hid (fun W => picked_any n 6 W hn.1 hn.2 (by decide) (by decide))
  obtain ⟨k0, hk0⟩ : ∃ z, pickL n 6 = z := ⟨_, rfl⟩
  rw [hk0] at hk HPK
  obtain ⟨kk, rfl⟩ := Int.eq_ofNat_of_zero_le hk.1
  have hk6 : kk < 6 := by omega
  have hk6I : (kk : Int) < 6 := hk.2
  have HT := Lib.hid hT
  clear hT hR hl hc hll hn hk hk0
  go_enter Tryd.func10, Tryd.ntmps10
  go_wp2_with fail
  refine HPG.out.mono ?_
  rintro e wp ⟨hb1, ⟨tA, tc, fA, fc, bA, bc, dA, dc, lA, lc⟩, m, rfl, hown, hok, hpg⟩
  have hpt := hpg.text
  have hfn := hpg.fn
  have HCM := Lib.hid hpg.check
  obtain ⟨bs', z1, -, z3, z4⟩ := hpg
  have HCHK : Hid (checkE (withOdd m kk) = 0) := Lib.hid (by rw [z4]; exact odd_check z1 z3 _ hk6)
  have HOK := Lib.hid hok
  have HB1 := Lib.hid hb1
  have HOW := Lib.hid hown
  obtain ⟨T, hT⟩ : ∃ z, m.text.length = z := ⟨_, rfl⟩
  obtain ⟨nf, hnf⟩ : ∃ z, m.funcs.length = z := ⟨_, rfl⟩
  rw [hT] at hpt
  rw [hnf] at hfn
  obtain ⟨hT1, hT2⟩ := hpt
  obtain ⟨hf1, hf2⟩ := hfn
  have HTE := Lib.hid hT
  have HNF := Lib.hid hnf
  unfold Img.val
  simp only at *
  rw [hT, hnf]
  clear hown hok z1 z3 z4 HPG hT hnf
  go_upto_region 2 with fail
  obtain ⟨X, hX⟩ : ∃ X, wp.alloc (.cells #[.slice tA T tc, .slice fA nf fc, .slice bA m.tables.length bc, .slice dA m.data.length dc, .slice lA m.lines.length lc, .int .i64 m.entry] 31) = X := ⟨_, rfl⟩
  have hm1 : Blk X wp.heap.size 31 [.slice tA T tc, .slice fA nf fc, .slice bA m.tables.length bc, .slice dA m.data.length dc, .slice lA m.lines.length lc, .int .i64 m.entry] := by rw [← hX]; exact heap_alloc_new wp _
  have hbX : Below wp.heap.size wp X := by rw [← hX]; exact (Below.refl _ _).alloc (Nat.le_refl _) _
  have HWX := Lib.hid (hb1.trans (hbX.mono hb1.size))
  have HOX := Lib.hid (HOW.out.keep hbX)
  have HM1 := Lib.hid hm1
  have hwX := HWX.out.size
  rw [hX]
  clear hX hm1 hb1 hbX
  go_upto_region 3 with fail
  obtain ⟨W7, hW7, hb7, hodd, hz7⟩ := odd_blocks X
  rw [hW7]
  obtain ⟨ho7, y_kk⟩ := hodd kk hk6
  have hwp7 : wp.heap.size < W7.heap.size := by have := HM1.out.lt; have := hb7.size; omega
  obtain ⟨Y, hY⟩ : ∃ z, X.heap.size = z := ⟨_, rfl⟩
  obtain ⟨nn, hnn⟩ : ∃ z, (oddL kk).length = z := ⟨_, rfl⟩
  rw [hY] at y_kk ho7 hz7
  rw [hY]
  rw [hnn] at y_kk
  have hol := (odd_len hk6).1
  rw [hnn] at hol
  have HOL := Lib.hid (odd_len hk6).2
  have HNN := Lib.hid hnn
  have HO7 := Lib.hid ho7
  have HM7 := Lib.hid (HM1.out.keep hb7)
  have HOW7 := Lib.hid (HOX.out.keep hb7)
  have HB7 := Lib.hid (HWX.out.trans (hb7.mono HWX.out.size))
  have HPX : Hid (wp.heap.size < Y) := Lib.hid (by rw [← hY]; exact HM1.out.lt)
  have y_l : Y + 1 + 1 + 1 + 1 + 1 + 1 < W7.heap.size := by omega
  clear hW7 hb7 hodd hz7 hnn ho7 hY HM1 HOX HWX hwX
  go_upto_region 4 with fail
  go_wp2_with fail
  refine (HPK.out _).mono ?_
  rintro e wq ⟨rfl, rfl⟩
  go_wp2_with fail
  go_loopg [7, 41] nn (fun gk s7 s41 wr => ∃ (j Z : Nat) (tA' : Option Addr) (tc' : Nat), j ≤ nn ∧ s41 = .int .i64 j ∧ s7 = .int .i64 (Z : Nat) ∧ Z ≤ 4 * j ∧ Hid ((encAll ((oddL kk).take j)).length = Z) ∧ Hid (Blk wr wp.heap.size 31 [.slice tA' (T + Z) tc', .slice fA nf fc, .slice bA m.tables.length bc, .slice dA m.data.length dc, .slice lA m.lines.length lc, .int .i64 m.entry]) ∧ Hid (ImgOwn wr w.heap.size ⟨m.text ++ encAll ((oddL kk).take j), m.funcs, m.tables, m.data, m.lines, m.entry⟩ ⟨tA', tc', fA, fc, bA, bc, dA, dc, lA, lc⟩) ∧ Hid (Below w.heap.size w wr) ∧ Hid (Blk wr (Y + kk) 47 (insR (oddL kk))) ∧ nn - j ≤ gk)
  case atStart =>
    refine ⟨0, 0, tA, tc, Nat.zero_le _, rfl, rfl, Nat.le_refl _, Lib.hid rfl, HM7, Lib.hid ?_, HB7, HO7, Nat.le_refl _⟩
    have e : m.text ++ encAll ((oddL kk).take 0) = m.text := by simp [encAll]
    rw [e]
    exact HOW7.out
  case round =>
    obtain ⟨j, Z, tA', tc', hj, rfl, rfl, hZ, HZ, HMi, HOi, HBi, HODi, hgk⟩ := hrel
    have y0 := HMi.out.cell 0 rfl
    have yf0 := HMi.out.free 0
    have yl := HMi.out.lt
    by_cases hjl : j < nn
    · have hx : (oddL kk)[j]? = some ((oddL kk)[j]'(by rw [HNN.out]; exact hjl)) := List.getElem?_eq_getElem _
      obtain ⟨I, hIe⟩ : ∃ q, (oddL kk)[j]'(by rw [HNN.out]; exact hjl) = q := ⟨_, rfl⟩
      rw [hIe] at hx
      have HC := Lib.hid (odd_chk hk6 I (List.mem_of_getElem? hx))
      have hep := enc_pos HC.out
      obtain ⟨ez, hez⟩ : ∃ z, I.enc.length = z := ⟨_, rfl⟩
      rw [hez] at hep
      have HEZ := Lib.hid hez
      have HTK : Hid (encAll ((oddL kk).take (j + 1)) = encAll ((oddL kk).take j) ++ I.enc) := Lib.hid (by
        rw [List.take_add_one, hx]
        exact encAll_snoc _ _)
      have c0 := HODi.out.cell _ (insR_at hx 0 _ rfl)
      have c1 := HODi.out.cell _ (insR_at hx 1 _ rfl)
      have c2 := HODi.out.cell _ (insR_at hx 2 _ rfl)
      have c3 := HODi.out.cell _ (insR_at hx 3 _ rfl)
      have c4 := HODi.out.cell _ (insR_at hx 4 _ rfl)
      have c5 := HODi.out.cell _ (insR_at hx 5 _ rfl)
      simp only [Nat.add_zero] at c0
      have ol := HODi.out.lt
      have hjI : (j : Int) < (nn : Int) := by omega
      clear hx hIe hez
      go_upto_region 7 with fail
      go_wp2_with fail
      have hbf : Below wr.heap.size wr (wr.alloc (.cells #[.int .i64 I.k, .int .i64 I.d, .int .i64 I.a, .int .i64 I.b, .int .i64 I.n, .bool I.l] 47)) := (Below.refl _ _).alloc (Nat.le_refl _) _
      refine (encode_any I _ (HT.out.below (HBi.out.trans (hbf.mono HBi.out.size))) HC.out).mono ?_
      rintro e w2 ⟨g, cp, rfl, hcp, hg, hgz, hb2, hcell, -⟩
      rw [HEZ.out] at hcp ⊢
      have hb12 : Below wr.heap.size wr w2 := hbf.trans (hb2.mono (by simp))
      have HO2 := Lib.hid (HOi.out.keep hb12)
      have HM2 := Lib.hid (HMi.out.keep hb12)
      have HOD2 := Lib.hid (HODi.out.keep hb12)
      have HB2 := Lib.hid (HBi.out.trans (hb12.mono HBi.out.size))
      have HE := Lib.hid hcell
      have q0 := HM2.out.cell 0 rfl
      have qf0 := HM2.out.free 0
      have ql := HM2.out.lt
      have htx := HO2.out.tx
      simp only [List.length_append, HTE.out, HZ.out] at htx
      have HTX := Lib.hid htx
      have hbs := HB2.out.size
      have hlen : (m.text ++ encAll ((oddL kk).take j)).length + ez ≤ 140737488355328 := by
        rw [List.length_append, HTE.out, HZ.out]
        omega
      have HLL : Hid ((m.text ++ encAll ((oddL kk).take j) ++ I.enc).length = T + (Z + ez)) := Lib.hid (by
        rw [List.length_append, List.length_append, HTE.out, HZ.out, HEZ.out]
        omega)
      clear hb2 hb12 hbf hcell hg htx y0 yf0 yl c0 c1 c2 c3 c4 c5 ol
      go_wp2_with (first | (at_builtin; refine app_bytes_lies rfl _ _ rfl w.heap.size _ _ I.enc rfl HTX.out g ez cp rfl HEZ.out (by omega) HE.out hlen hbs ?a1))
      case a1 =>
        rintro g5 c5 w3 ho5 hgr3 hat3 hlt3
        simp only [HTE.out, HZ.out, HEZ.out] at ho5 ⊢
        have hone : (Value.slice tA' (T + Z) tc').ownBlock ≠ some wp.heap.size := fun e => by
          rcases own_blk_ne HTX.out HM2.out (by decide) with h | h
          · rw [h] at e; cases e
          · exact h e
        have hm3 := HM2.out.gb hgr3 hone
        have r0 := hm3.cell 0 rfl
        have rf0 := hm3.free 0
        have rl := hm3.lt
        have hO3 := HO2.out.setTx (L' := m.text ++ encAll ((oddL kk).take (j + 1))) (n := T + (Z + ez)) (by simp only [List.length_append, HTE.out, HZ.out]; exact hgr3) (by rw [HTK.out]; exact ho5) (by rw [HTK.out, ← List.append_assoc]; exact HLL.out) (by
          intro e
          have h : (m.text ++ encAll ((oddL kk).take j)).length = 0 := by rw [show m.text ++ encAll ((oddL kk).take j) = [] from e]; rfl
          rw [List.length_append, HTE.out] at h
          omega)
        have hb3 : Below w.heap.size w w3 := HB2.out.trans (gb_below_of hgr3 (fun q hq => (World.ownsRow.lt HTX.out q hq).1) HB2.out.size)
        have hod3 := HOD2.out.gb hgr3 (fun e => by
          rcases own_blk_ne HTX.out HOD2.out (by decide) with h | h
          · rw [h] at e; cases e
          · exact h e)
        obtain ⟨V, hV⟩ : ∃ z, w3.setCell ⟨wp.heap.size, 0, none⟩ (.slice (some ⟨g5, 0, none⟩) (T + (Z + ez)) c5) = z := ⟨_, rfl⟩
        have hgV : w3.grownBy V (some wp.heap.size) := by rw [← hV]; exact gb_setCell (gb_refl _ _) _ _
        have HMV : Hid (Blk V wp.heap.size 31 [.slice (some ⟨g5, 0, none⟩) (T + (Z + ez)) c5, .slice fA nf fc, .slice bA m.tables.length bc, .slice dA m.data.length dc, .slice lA m.lines.length lc, .int .i64 m.entry]) := Lib.hid (by rw [← hV]; exact hm3.set 0 _)
        have HOV := Lib.hid (hO3.blk hm3 hgV (by intro x e; cases e) (by decide))
        have HBV := Lib.hid (hb3.trans (gb_to_below hgV HB1.out.size hb3.size))
        have HODV := Lib.hid (hod3.gb hgV (fun e => by have := HPX.out; injection e with e; omega))
        have HZ2 : Hid ((encAll ((oddL kk).take (j + 1))).length = Z + ez) := Lib.hid (by rw [HTK.out, List.length_append, HZ.out, HEZ.out])
        clear ho5 hgr3 hat3 hm3 hO3 hb3 hod3 hone q0 qf0 ql
        go_wp2_with fail
        clear hV r0 rf0 rl hgV
        go_roundg (nn - (j + 1))
        case measure => omega
        case rel => exact ⟨j + 1, Z + ez, _, c5, by omega, by go_num, by go_num, by omega, HZ2, HMV, HOV, HBV, HODV, Nat.le_refl _⟩
    · obtain rfl : j = nn := by omega
      have hjI : ¬ (j : Int) < (j : Int) := by omega
      have HFUL : Hid (encAll ((oddL kk).take j) = encAll (oddL kk)) := Lib.hid (by rw [List.take_of_length_le (by rw [HNN.out]; exact Nat.le_refl _)])
      have HOF := HOi.out
      rw [HFUL.out] at HOF
      have HOE := Lib.hid HOF
      have HZE : Hid ((encAll (oddL kk)).length = Z) := Lib.hid (by rw [← HFUL.out]; exact HZ.out)
      obtain ⟨TZ, hTZ⟩ : ∃ z, T + Z = z := ⟨_, rfl⟩
      have hw68 : IntKind.i64.wrap ((TZ : Int) - (Z : Int)) = (T : Int) := by
        rw [show (TZ : Int) - (Z : Int) = (T : Int) by omega]
        exact IntWalk.i64_in _ (by omega)
      have hmi := HMi.out
      rw [hTZ] at hmi
      have HMI := Lib.hid hmi
      have HTZ := Lib.hid hTZ
      have hZ8 : Z ≤ 8 := by rw [← HZE.out]; exact HOL.out.2
      have hfn' := HOE.out.fn
      simp only [HNF.out] at hfn'
      have HFN := Lib.hid hfn'
      clear y0 yf0 yl HMi hfn' HOF hTZ hj hgk hjl
      have y0 := hmi.cell 0 rfl
      have y1 := hmi.cell 1 rfl
      have yf1 := hmi.free 1
      have yl := hmi.lt
      have hwr := HBi.out.size
      clear hmi
      go_wp2_with (first | (at_builtin; refine app_one rfl _ _ 26 25 3 32 _ Tryd.underlying26 infoFunc rfl (by decide) rfl w.heap.size _ nf _ rfl (World.ownsRow.alloc HFN.out _) wr.heap.size 1 rfl [.string ⟨#[111, 100, 100]⟩, .int .i64 (T : Int), .int .i64 (Z : Int)] 25 (0, 0) (heap_alloc_new wr _) rfl (by simp [Value.oneCell']) (by omega) (by omega) (by simp; omega) (wr.heap.size + 1) (by simp) ?a2))
      case a2 =>
        rintro g2 c2 w3 ho3 hgr3 hat3 hlt3
        have hal : Below wr.heap.size wr (wr.alloc (.cells #[.string ⟨#[111, 100, 100]⟩, .int .i64 (T : Int), .int .i64 (Z : Int)] 25)) := (Below.refl _ _).alloc (Nat.le_refl _) _
        have hone : (Value.slice fA nf fc).ownBlock ≠ some wp.heap.size := fun e => by
          rcases own_blk_ne HFN.out HMI.out (by decide) with h | h
          · rw [h] at e; cases e
          · exact h e
        have hm3 := (HMI.out.keep hal).gb hgr3 hone
        have r1 := hm3.cell 1 rfl
        have rf1 := hm3.free 1
        have rl := hm3.lt
        have hO3 := (HOE.out.keep hal).setFn (L' := m.funcs ++ [⟨oddN3, m.text.length, (encAll (oddL kk)).length⟩]) (n := nf + 1) (by simp only [HNF.out]; exact hgr3) (by rw [HTE.out, HZE.out, funcsV_snoc]; exact ho3) (by rw [List.length_append, HNF.out]; rfl) (by
          intro e
          have h : m.funcs.length = 0 := by rw [show m.funcs = [] from e]; rfl
          rw [HNF.out] at h
          omega)
        have hb3 : Below w.heap.size w w3 := (HBi.out.trans (hal.mono HBi.out.size)).trans (gb_below_of hgr3 (fun q hq => (World.ownsRow.lt HFN.out q hq).1) (by simp; omega))
        obtain ⟨V, hV⟩ : ∃ z, w3.setCell ⟨wp.heap.size, 1, none⟩ (.slice (some ⟨g2, 0, none⟩) (nf + 1) c2) = z := ⟨_, rfl⟩
        have hgV : w3.grownBy V (some wp.heap.size) := by rw [← hV]; exact gb_setCell (gb_refl _ _) _ _
        have hmV : Blk V wp.heap.size 31 [.slice tA' TZ tc', .slice (some ⟨g2, 0, none⟩) (nf + 1) c2, .slice bA m.tables.length bc, .slice dA m.data.length dc, .slice lA m.lines.length lc, .int .i64 m.entry] := by rw [← hV]; exact hm3.set 1 _
        have hOV : ImgOwn V w.heap.size (withOdd m kk) ⟨tA', tc', some ⟨g2, 0, none⟩, c2, bA, bc, dA, dc, lA, lc⟩ := hO3.blk hm3 hgV (by intro x e; cases e) (by decide)
        have HBV := Lib.hid (hb3.trans (gb_to_below hgV HB1.out.size hb3.size))
        have htl : (withOdd m kk).text.length = TZ := by
          show (m.text ++ encAll (oddL kk)).length = TZ
          rw [List.length_append, HTE.out, HZE.out]
          exact HTZ.out
        have hfl : (withOdd m kk).funcs.length = nf + 1 := by
          show (m.funcs ++ _).length = _
          rw [List.length_append, HNF.out]
          rfl
        have hTZ8 : TZ ≤ 1608 := by rw [← HTZ.out]; omega
        have hk2 : ImgOk (withOdd m kk) ⟨tA', tc', some ⟨g2, 0, none⟩, c2, bA, bc, dA, dc, lA, lc⟩ := by
          have h := HOK.out
          refine ⟨by rw [htl]; omega, by rw [hfl]; omega, h.bl, h.dl, h.ll, own_capG hOV.tx, own_capG hOV.fn, h.bc, h.dc, h.lc, ?_, ?_, h.bb, h.db, h.lb, h.eb⟩
          · intro x hx
            rcases List.mem_append.1 hx with hx | hx
            · exact h.tb x hx
            · exact encAll_bytes _ (odd_chk hk6) x hx
          · intro f hf
            rcases List.mem_append.1 hf with hf | hf
            · exact h.fb f hf
            · simp only [List.mem_cons, List.not_mem_nil, or_false] at hf
              subst hf
              simp only [HTE.out, HZE.out]
              exact ⟨by unfold N64; omega, by unfold N64; omega, by decide⟩
        have hre : recE (withOdd m kk) = 9 := recE_N HCHK.out (by rw [htl]; omega) (odd_none HCM.out hk6)
        have HREC : Hid (∀ W, Below V.heap.size V W → Calls Tryd.prog 16 #[.agg #[.slice tA' TZ tc', .slice (some ⟨g2, 0, none⟩) (nf + 1) c2, .slice bA m.tables.length bc, .slice dA m.data.length dc, .slice lA m.lines.length lc, .int .i64 m.entry]] W (BadPost W 9)) := Lib.hid fun W hW => by
          have h := rec_bad (withOdd m kk) ⟨tA', tc', some ⟨g2, 0, none⟩, c2, bA, bc, dA, dc, lA, lc⟩ W (HT.out.below (HBV.out.trans (hW.mono HBV.out.size))) ((hOV.rd.below hW).more hW.size) hk2 (by rw [hre]; decide)
          unfold Img.val at h
          rw [htl, hfl, hre] at h
          exact h
        have HCK : Hid (∀ W, Below V.heap.size V W → Calls Tryd.prog 27 #[.agg #[.slice tA' TZ tc', .slice (some ⟨g2, 0, none⟩) (nf + 1) c2, .slice bA m.tables.length bc, .slice dA m.data.length dc, .slice lA m.lines.length lc, .int .i64 m.entry]] W fun e w' => e = .returned (.int .i64 0) ∧ Below W.heap.size W w') := Lib.hid fun W hW => by
          have h := imgCheck_any (withOdd m kk) ⟨tA', tc', some ⟨g2, 0, none⟩, c2, bA, bc, dA, dc, lA, lc⟩ W ((hOV.rd.below hW).more hW.size) hk2
          rw [HCHK.out] at h
          unfold Img.val at h
          rw [htl, hfl] at h
          exact h
        have HMV := Lib.hid hmV
        clear ho3 hgr3 hat3 hm3 hO3 hb3 hone hgV hmV hOV htl hfl hk2 hre y0 y1 yf1 yl hal
        go_upto_region 14 with fail
        clear hV r1 rf1 rl
        have v0 := HMV.out.cell 0 rfl
        have v1 := HMV.out.cell 1 rfl
        have v2 := HMV.out.cell 2 rfl
        have v3 := HMV.out.cell 3 rfl
        have v4 := HMV.out.cell 4 rfl
        have v5 := HMV.out.cell 5 rfl
        have vl := HMV.out.lt
        go_wp2_with fail
        refine (HREC.out V (Below.refl _ _)).mono ?_
        rintro e w5 ⟨rfl, hb5⟩
        have HB5 := Lib.hid hb5
        clear hb5 v0 v1 v2 v3 v4 v5 vl
        go_upto_region 15 with fail
        go_wp2_with fail
        refine (nexts_zero _).mono ?_
        rintro e w6 ⟨rfl, hb6⟩
        have HB6 : Hid (Below V.heap.size V w6) := Lib.hid ((HB5.out.alloc HB5.out.size _).trans (hb6.mono (by have := HB5.out.size; simp; omega)))
        have hm6 := HMV.out.keep HB6.out
        have v0 := hm6.cell 0 rfl
        have v1 := hm6.cell 1 rfl
        have v2 := hm6.cell 2 rfl
        have v3 := hm6.cell 3 rfl
        have v4 := hm6.cell 4 rfl
        have v5 := hm6.cell 5 rfl
        have vl := hm6.lt
        clear hb6 hm6
        go_wp2_with fail
        refine (HCK.out w6 HB6.out).mono ?_
        rintro e w7 ⟨rfl, hb7⟩
        have HB7' := Lib.hid ((HBV.out.trans (HB6.out.mono HBV.out.size)).trans (hb7.mono (by have := HBV.out.size; have := HB6.out.size; omega)))
        clear hb7 v0 v1 v2 v3 v4 v5 vl
        go_wp2_with fail
        go_ret
        exact ⟨rfl, HB7'.out⟩
set_option maxRecDepth 100000 in
theorem recoverBad_contract (H : Type) (enc : TypeId × Value → H) (W : World) (base : Nat) (args : Array Value) (ds gs : List (DataW H)) (before : List MemPlace)
    (hval : ∀ (j : Nat) t v, Tryd.f10.params[j]? = some t → args[j]? = some v → Value.okWide Tryd.prog W .any base t v)
    (hW : DataW.Whole enc Tryd.prog Tryd.f10.params.toList Rows.recoverBadSpec.vars false W args.toList ds gs before) (hL : laidMetH Tryd.prog Rows.recoverBadRow.laid W)
    (hz : (DataW.weightsEach Tryd.prog (Tryd.f10.params.toList ++ (OpenSpec.ofChange Rows.recoverBadSpec).bare.plain.varTypes Tryd.prog) (ds ++ gs)).all (· ≤ reachBytes) = true) :
    Calls Tryd.prog 10 args W fun e W' => ∃ v, e = .returned v ∧ Rows.recoverBadSpec.post enc Tryd.prog Tryd.f10 false true false false W args v W' := by
  have hT : Tabs W := tabs_of_laid5 hL
  have hW0 := hW
  obtain ⟨p, q, hA0, hV, rfl, hfz, hnd⟩ := hW
  have hA : DataW.TrodAll enc Tryd.prog W 0 (fun _ => true) true Tryd.f10.params.toList args.toList ds p := hA0
  rw [Tryd.params10] at hA hval
  obtain ⟨v0, vs0, d0, ds0, p0, q0, hargs, rfl, rfl, h0, r0⟩ := trodAll_cons hA
  obtain ⟨v1, vs1, d1, ds1, p1, q1, rfl, rfl, rfl, h1, r1⟩ := trodAll_cons r0
  obtain ⟨rfl, rfl, rfl⟩ := trodAll_nil r1
  obtain rfl : args = #[v0, v1] := by cases args; simp_all
  obtain ⟨rfl, rfl⟩ := trodVars_none hV
  clear hA0
  obtain ⟨A, cap, L, rfl, hcap, hcm, hR, hd⟩ := open_raws (hval 0 43 v0 rfl rfl) h0
  obtain ⟨n, rfl, rfl, rfl, wn⟩ := open_int Tryd.underlying3 (hval 1 3 v1 rfl rfl) h1
  have hL : L.length ≤ 140737488355328 := by
    rcases hd with ⟨-, rfl, -⟩ | ⟨elems, spare, rfl, hl⟩
    · exact Nat.zero_le _
    · have h1 := sized_slice hz (j := 0) (t := 43) (by rw [Tryd.params10]; rfl) rfl Tryd.underlying43
      have h2 : Tryd.prog.bytesOf 76 = 32 := by kernel_rfl
      have h3 := reachBytes_lt
      rw [h2, hl] at h1
      omega
  refine (recoverBad_walk L A cap n (i64_of_wf wn) W hT hR hL hcap).mono fun e W' ⟨he, hb⟩ => ?_
  subst he
  exact ⟨_, rfl, law_post hW0 rfl rfl (by kernel_rfl) (by kernel_rfl) hb⟩
set_option maxRecDepth 100000 in
theorem recoverBad_met (os : Os) : laidMet Tryd.prog Rows.recoverBadRow.laid ((laidWorld5 os).forCall (fun _ _ => 0) ⟨#[], #[.slice none 0 0, .int .i64 0], []⟩).memory :=
  laidMet_of_run' 8 (by kernel_rfl) (by kernel_rfl)
set_option maxRecDepth 100000 in
theorem recoverBad_reads (os : Os) {H : Type} (enc : TypeId × Value → H) : ∃ places, DataW.whole enc Tryd.prog ((laidWorld5 os).forCall (fun _ _ => 0) ⟨#[], #[.slice none 0 0, .int .i64 0], []⟩).memory Tryd.f10.params.toList Rows.recoverBadSpec.vars false (#[.slice none 0 0, .int .i64 0] : Array Value).toList 8 = some ([.nil, .lit (.int .i64 0)], [], places) :=
  ⟨[], by kernel_rfl⟩
set_option maxRecDepth 100000 in
theorem recoverBad_lifted (os : Os) (started : os.Started) (H : Type) (enc : TypeId × Value → H) (F : Stop.Interp) :
    ReturnsInHanded {} Tryd.checked os 10 .any ((OpenSpec.ofChange Rows.recoverBadSpec).preRow enc Tryd.prog Tryd.f10 Rows.recoverBadRow.domain false Rows.recoverBadRow.laid) (((OpenSpec.ofChange Rows.recoverBadSpec).at F).post enc Tryd.prog Tryd.f10 false true false false) := by
  obtain ⟨places, hx⟩ := recoverBad_reads os enc
  refine returnsInHanded_of_row (C := Tryd.checked) (s := OpenSpec.ofChange Rows.recoverBadSpec) ownP started (by kernel_rfl) Tryd.func10
    (witness_row_at (enc := enc) (C := Tryd.checked) false (laidWorld5 os) #[.slice none 0 0, .int .i64 0] rfl (by kernel_rfl) (by kernel_rfl) (by kernel_rfl)
      (OpenSpec.preRow_of_cond 8 hx (by kernel_rfl) (fun k hk => by cases hk) (by kernel_rfl) (recoverBad_met os))) ?_
  intro W base args ds gs before hval hW _ _ hreach hL _ _
  exact recoverBad_contract H enc W base args ds gs before hval hW hL hreach
set_option maxRecDepth 100000 in
theorem recoverBad_said : Rows.RecoverBadSaid :=
  OpenClaim.holds_of_cond 10 Tryd.f10 rfl rfl rfl rfl rfl rfl rfl ⟨rfl, rfl, rfl, rfl, rfl⟩ rfl rfl rfl rfl rfl (by kernel_rfl) Tryd.func10 (by kernel_rfl)
    (of_decide_eq_true (by kernel_rfl)) (by unfold Func.isWrapper; first | (rw [if_pos (by decide +kernel)]; kernel_rfl) | (rw [if_neg (by decide +kernel)]; exact ⟨rfl, rfl⟩))
    (fun os started H enc _ F => by rw [OpenClaim.pre_eq_preRow]; exact recoverBad_lifted os started H enc F)
set_option maxRecDepth 100000 in
theorem recoverBad_plain (f : FuncId) (fn : Func) (hf : Tryd.pinned.checked.prog.funcNamed "bolthole/boltholekeep.RecoverBad" = some f) (hfn : Tryd.pinned.checked.prog.funcs[f]? = some fn) :
    ∀ (j : Nat) t, fn.params[j]? = some t → Tryd.pinned.checked.prog.wantsStandIn t = false := by
  obtain rfl : f = 10 := Option.some.inj ((show Tryd.prog.funcNamed "bolthole/boltholekeep.RecoverBad" = some 10 by kernel_rfl).symm.trans hf) |>.symm
  obtain rfl : fn = Tryd.f10 := (Option.some.inj (Tryd.func10.symm.trans hfn)).symm
  intro j t ht
  have hall : ∀ t ∈ Tryd.f10.params, Tryd.prog.wantsStandIn t = false := by
    rw [Tryd.params10]
    intro t ht
    simp only [List.mem_toArray, List.mem_cons, List.not_mem_nil, or_false] at ht
    rcases ht with rfl | rfl
    all_goals kernel_rfl
  exact hall t (Array.mem_of_getElem? ht)
set_option maxRecDepth 100000 in
theorem recoverBad_card : Rows.RecoverBadCardSaid :=
  Claim7.holds_tied_plain_at .later [] _ _ _ _ recoverBad_said (fun _ h => by cases h) (by kernel_rfl) (fun _ h => by cases h) recoverBad_row_tie rfl ⟨rfl, rfl⟩ (by kernel_rfl) rfl (fun f fn hf hfn => ⟨by kernel_rfl, recoverBad_plain f fn hf hfn⟩) (by kernel_rfl)
end Go.Proofs.YtlekjnnofhjgjaaDoor
