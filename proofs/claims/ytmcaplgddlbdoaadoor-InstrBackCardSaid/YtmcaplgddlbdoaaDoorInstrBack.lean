/- The given statement on InstrBack, proved: an instruction's bytes are the instruction, wherever they stand. No condition of its own. -/
import Derived.Test.YtmcaplgddlbdoaaDoorLawB
import Derived.Test.YtmcaplgddlbdoaaDoorIsaK
import Derived.Test.YtmcaplgddlbdoaaDoorTxt
import Derived.WalkLawsBesides
namespace Go.Proofs.YtmcaplgddlbdoaaDoor
open Go.ChangeShapes Go.WideShapes Go.ChangeAt Go.RowKit Go.Joins
open Go.ChangeMaps (open_string)
def strL (s : ByteArray) : List Int := s.data.toList.map fun b => (b.toNat : Int)
theorem strL_len (s : ByteArray) : (strL s).length = s.size := by unfold strL; rw [List.length_map]; rfl
theorem strL_bd (s : ByteArray) : ∀ x ∈ strL s, 0 ≤ x ∧ x < 256 := by
  intro x hx
  simp only [strL, List.mem_map] at hx
  obtain ⟨b, _, rfl⟩ := hx
  have := b.toNat_lt
  omega
theorem bytesRow_get (s : ByteArray) (cap j : Nat) (x : Int) (h : (strL s)[j]? = some x) : (bytesRow s cap)[j]? = some (Value.int .u8 x) := by
  simp only [strL, List.getElem?_map, Option.map_eq_some_iff] at h
  obtain ⟨b, hb, rfl⟩ := h
  have hj : j < s.data.size := by
    have := (List.getElem?_eq_some_iff.1 hb).1
    simpa using this
  unfold bytesRow
  rw [Array.getElem?_append_left (by simpa using hj)]
  rw [Array.getElem?_map, ← Array.getElem?_toList, hb]
  rfl
set_option maxHeartbeats 4000000 in
set_option maxRecDepth 100000 in
theorem instrBack_walk (r : RawI) (hr : r.ok) (l : Bool) (s : ByteArray) (hs : s.size ≤ 140737488351232) (w : World) (hT : Tabs w) : Calls Tryd.prog 8 #[.agg #[.int .i64 r.k, .int .i64 r.a, .int .i64 r.b, .int .i64 r.c], .bool l, .string s] w fun e w' =>
    e = .returned (.bool true) ∧ Below w.heap.size w w' := by
  have ha := anyI_ok r l
  obtain ⟨I, hI⟩ : ∃ I, anyI r l = I := ⟨_, rfl⟩
  have any0 : ∀ w1, Calls Tryd.prog 10 #[.agg #[.int .i64 r.k, .int .i64 r.a, .int .i64 r.b, .int .i64 r.c], .bool l] w1 fun e w' => e = .returned (.agg I.cells) ∧ Below w1.heap.size w1 w' := fun w1 => by rw [← hI]; exact any_any r l hr w1
  rw [hI] at ha
  have A0 := Lib.hid any0
  have hC := Lib.hid ha
  obtain ⟨hp0, hp1⟩ := enc_pos ha
  clear any0 hI ha
  obtain ⟨n, hn⟩ : ∃ n, I.enc.length = n := ⟨_, rfl⟩
  rw [hn] at hp0 hp1
  have HN := Lib.hid hn
  clear hn
  go_enter Tryd.func8, Tryd.ntmps8
  go_wp2_with fail
  refine (A0.out _).mono ?_
  rintro e w1 ⟨rfl, hb1⟩
  unfold Ins.cells
  have hB1 : Below w.heap.size w w1 := ((Below.refl _ _).alloc (Nat.le_refl _) _).trans (hb1.mono (by simp))
  have hT1 := hT.below hB1
  have hz1 := hB1.size
  clear hb1
  go_wp2_with fail
  refine (encode_any I _ (hT1.alloc _) hC.out).mono ?_
  rintro e w2 ⟨g, cap, rfl, hcap, hg, hgz, hb2, hcell, -⟩
  rw [HN.out] at hcap ⊢
  have HC := Lib.hid hcell
  have hB2 : Below w.heap.size w w2 := (hB1.alloc hz1 _).trans (hb2.mono (by simp; omega))
  have hT2 := hT.below hB2
  have i0 : ∀ j v, I.cells[j]? = some v → w2.cell? ⟨w1.heap.size, j, none⟩ = some v := fun j v hv => (hb2.cell (p := ⟨w1.heap.size, j, none⟩) (by simp)).trans ((cell_of_row _ _ _ _ _ _ (heap_alloc_new w1 _)).trans hv)
  have k0 : w2.cell? ⟨w1.heap.size, 0, none⟩ = some (.int .i64 I.k) := i0 0 _ rfl
  have k1 : w2.cell? ⟨w1.heap.size, 1, none⟩ = some (.int .i64 I.d) := i0 1 _ rfl
  have k2 : w2.cell? ⟨w1.heap.size, 2, none⟩ = some (.int .i64 I.a) := i0 2 _ rfl
  have k3 : w2.cell? ⟨w1.heap.size, 3, none⟩ = some (.int .i64 I.b) := i0 3 _ rfl
  have k4 : w2.cell? ⟨w1.heap.size, 4, none⟩ = some (.int .i64 I.n) := i0 4 _ rfl
  have k5 : w2.cell? ⟨w1.heap.size, 5, none⟩ = some (.bool I.l) := i0 5 _ rfl
  have hz2 : w1.heap.size < w2.heap.size := by have := hb2.size; simp at this; omega
  have hg1 : w1.heap.size < g := by simp at hg; omega
  clear hcell hb2 i0 hT1 hg
  go_wp2_with fail
  refine (size_any _ _ _ _ _ _ _ hT2).mono ?_
  rintro e w3 ⟨rfl, hb3⟩
  have eI : chk I.k I.d I.a I.b I.n I.l = 0 := hC.out
  have hsz : sizeK I.k I.l = n := by have := enc_len hC.out; have := HN.out; omega
  rw [eI, if_pos rfl, hsz]
  clear eI hsz
  have hc3 : ∀ j x, I.enc[j]? = some x → w3.cell? ⟨g, 0 + j, none⟩ = some (.int .u8 x) := fun j x hx => (hb3.cell (p := ⟨g, 0 + j, none⟩) hgz).trans (HC.out j x hx)
  have HC3 := Lib.hid hc3
  have m0 : w3.cell? ⟨w1.heap.size, 0, none⟩ = some (.int .i64 I.k) := (hb3.cell (p := ⟨w1.heap.size, 0, none⟩) hz2).trans k0
  have m1 : w3.cell? ⟨w1.heap.size, 1, none⟩ = some (.int .i64 I.d) := (hb3.cell (p := ⟨w1.heap.size, 1, none⟩) hz2).trans k1
  have m2 : w3.cell? ⟨w1.heap.size, 2, none⟩ = some (.int .i64 I.a) := (hb3.cell (p := ⟨w1.heap.size, 2, none⟩) hz2).trans k2
  have m3 : w3.cell? ⟨w1.heap.size, 3, none⟩ = some (.int .i64 I.b) := (hb3.cell (p := ⟨w1.heap.size, 3, none⟩) hz2).trans k3
  have m4 : w3.cell? ⟨w1.heap.size, 4, none⟩ = some (.int .i64 I.n) := (hb3.cell (p := ⟨w1.heap.size, 4, none⟩) hz2).trans k4
  have m5 : w3.cell? ⟨w1.heap.size, 5, none⟩ = some (.bool I.l) := (hb3.cell (p := ⟨w1.heap.size, 5, none⟩) hz2).trans k5
  have hz3 := hb3.size
  have hB3 : Below w.heap.size w w3 := hB2.trans (hb3.mono hB2.size)
  have hT3 := hT.below hB3
  clear hb3 hc3 k0 k1 k2 k3 k4 k5 hT2 hT HC
  have hcv := fun wx => run_bytes_of_string (P := Tryd.prog) wx 9 31 5 s Tryd.underlying9 Tryd.underlying31 Tryd.underlying5
  obtain ⟨C, hC0⟩ : ∃ C, grownCap w3 s.size 0 5 = C := ⟨_, rfl⟩
  have hCs : s.size ≤ C := by rw [← hC0]; exact grownCap_ge _ _ _ _
  have HCC := Lib.hid hC0
  clear hC0
  have hgr : ∀ wx, wx = w3 → grownCap wx s.size 0 5 = C := fun wx h => by rw [h]; exact HCC.out
  have hcv3 := hcv w3
  rw [HCC.out] at hcv3
  clear hcv
  have hbl : ((w3.alloc (.cells (bytesRow s C) 5 ((bytesRow s C).size, (bytesRow s C).size + 1))).drew).heap[w3.heap.size]? = some (.cells (bytesRow s C) 5 ((bytesRow s C).size, (bytesRow s C).size + 1)) := by
    show (w3.heap.push _)[w3.heap.size]? = _
    simp
  have hrs : (bytesRow s C).size = C := by
    unfold bytesRow
    rw [Array.size_append, Array.size_map, Array.size_replicate]
    have : s.data.size = s.size := rfl
    omega
  have HBL := Lib.hid hbl
  have HRS := Lib.hid hrs
  clear hbl hrs hgr
  go_wp2_with (refine app_text rfl _ _ rfl w3.heap.size w3.heap.size s.size C (strL s) I.enc rfl (strL_len s).symm (bytesRow s C) _ HBL.out HRS.out (Nat.le_of_eq HRS.out.symm) (fun j x hx => bytesRow_get s C j x hx) hCs g n cap rfl HN.out.symm ?a1 ?a2 (Nat.le_refl _) ?a3 ?a4)
  case a1 => intro e; have := HN.out; rw [e] at this; simp at this; omega
  case a2 => intro j x hx; exact ((((Below.refl w3.heap.size w3).alloc (Nat.le_refl _) _).drew).cell (p := ⟨g, 0 + j, none⟩) (by show g < _; omega)).trans (HC3.out j x hx)
  case a3 => have h1 := strL_len s; have h2 := HN.out; omega
  case a4 =>
    rintro g' cap' w4 ⟨hb4, hg4, hg4z, hcap4, hcell4⟩
    have hll : (strL s ++ I.enc).length = s.size + n := by have h1 := strL_len s; have h2 := HN.out; rw [List.length_append]; omega
    have hD1 : decB (strL s ++ I.enc) (s.size : Int) = (I, (n : Int), 0) := by
      have := dec_enc (strL s) [] hC.out
      rw [List.append_nil, strL_len, HN.out] at this
      exact this
    have hD2 : decB (strL s ++ I.enc) ((s.size : Int) + (n : Int)) = (Ins.zero, 0, 2) := by
      have := dec_end (strL s ++ I.enc)
      rw [hll] at this
      exact_mod_cast this
    have hby : ∀ x ∈ strL s ++ I.enc, 0 ≤ x ∧ x < 256 := by
      intro x hx
      rcases List.mem_append.1 hx with h | h
      · exact strL_bd s x h
      · exact enc_bytes hC.out x h
    have hW4 : Below w3.heap.size w3 w4 := (((Below.refl w3.heap.size w3).alloc (Nat.le_refl _) _).drew).trans hb4
    have hR4 : RdB w4 w4.heap.size (some ⟨g', 0, none⟩) (strL s ++ I.enc) := ⟨hby, fun _ => ⟨g', 0, rfl, hg4z, hcell4⟩⟩
    obtain ⟨L, hL⟩ : ∃ L, L = strL s ++ I.enc := ⟨_, rfl⟩
    rw [← hL] at hll hD1 hD2 hR4 hcap4
    rw [hll] at hcap4
    have hB4 : Below w.heap.size w w4 := hB3.trans (hW4.mono hB3.size)
    have q0 : w4.cell? ⟨w1.heap.size, 0, none⟩ = some (.int .i64 I.k) := (hW4.cell (p := ⟨w1.heap.size, 0, none⟩) (by show w1.heap.size < _; omega)).trans m0
    have q1 : w4.cell? ⟨w1.heap.size, 1, none⟩ = some (.int .i64 I.d) := (hW4.cell (p := ⟨w1.heap.size, 1, none⟩) (by show w1.heap.size < _; omega)).trans m1
    have q2 : w4.cell? ⟨w1.heap.size, 2, none⟩ = some (.int .i64 I.a) := (hW4.cell (p := ⟨w1.heap.size, 2, none⟩) (by show w1.heap.size < _; omega)).trans m2
    have q3 : w4.cell? ⟨w1.heap.size, 3, none⟩ = some (.int .i64 I.b) := (hW4.cell (p := ⟨w1.heap.size, 3, none⟩) (by show w1.heap.size < _; omega)).trans m3
    have q4 : w4.cell? ⟨w1.heap.size, 4, none⟩ = some (.int .i64 I.n) := (hW4.cell (p := ⟨w1.heap.size, 4, none⟩) (by show w1.heap.size < _; omega)).trans m4
    have q5 : w4.cell? ⟨w1.heap.size, 5, none⟩ = some (.bool I.l) := (hW4.cell (p := ⟨w1.heap.size, 5, none⟩) (by show w1.heap.size < _; omega)).trans m5
    have HLL := Lib.hid hll
    have HD1 := Lib.hid hD1
    have HD2 := Lib.hid hD2
    have HR := Lib.hid hR4
    have hz4 : w3.heap.size ≤ w4.heap.size := hW4.size
    have hT4 := hT3.below hW4
    clear m0 m1 m2 m3 m4 m5 hll hD1 hD2 hby hcell4 hL hR4 hT3 hb4 HBL HRS HC3 hcv3
    go_wp2_with fail
    refine (decode_any L _ _ cap' _ _ hT4 HLL.out.symm HR.out (by omega) hcap4).mono ?_
    rintro e w5 ⟨rfl, hb5⟩
    rw [HD1.out]
    unfold decV Ins.cells
    have hz5 := hb5.size
    have hB5 : Below w.heap.size w w5 := hB4.trans (hb5.mono hB4.size)
    have r0 : w5.cell? ⟨w1.heap.size, 0, none⟩ = some (.int .i64 I.k) := (hb5.cell (p := ⟨w1.heap.size, 0, none⟩) (by show w1.heap.size < _; omega)).trans q0
    have r1 : w5.cell? ⟨w1.heap.size, 1, none⟩ = some (.int .i64 I.d) := (hb5.cell (p := ⟨w1.heap.size, 1, none⟩) (by show w1.heap.size < _; omega)).trans q1
    have r2 : w5.cell? ⟨w1.heap.size, 2, none⟩ = some (.int .i64 I.a) := (hb5.cell (p := ⟨w1.heap.size, 2, none⟩) (by show w1.heap.size < _; omega)).trans q2
    have r3 : w5.cell? ⟨w1.heap.size, 3, none⟩ = some (.int .i64 I.b) := (hb5.cell (p := ⟨w1.heap.size, 3, none⟩) (by show w1.heap.size < _; omega)).trans q3
    have r4 : w5.cell? ⟨w1.heap.size, 4, none⟩ = some (.int .i64 I.n) := (hb5.cell (p := ⟨w1.heap.size, 4, none⟩) (by show w1.heap.size < _; omega)).trans q4
    have r5 : w5.cell? ⟨w1.heap.size, 5, none⟩ = some (.bool I.l) := (hb5.cell (p := ⟨w1.heap.size, 5, none⟩) (by show w1.heap.size < _; omega)).trans q5
    have hT5 := hT4.below hb5
    have HR5 := Lib.hid ((HR.out.below hb5).more hz5)
    clear hb5 q0 q1 q2 q3 q4 q5 hT4 HR
    go_wp2_with fail
    refine (decode_any L _ _ cap' _ _ (hT5.alloc _) HLL.out.symm ((HR5.out.below ((Below.refl _ _).alloc (Nat.le_refl _) _)).more (by simp)) (by omega) hcap4).mono ?_
    rintro e w6 ⟨rfl, hb6⟩
    rw [HD2.out]
    unfold decV Ins.cells Ins.zero
    have hz6 : w5.heap.size < w6.heap.size := by have := hb6.size; simp at this; omega
    have hB6 : Below w.heap.size w w6 := (hB5.alloc hB5.size _).trans (hb6.mono (by have := hB5.size; simp; omega))
    have hc6 : ∀ b o, b < w5.heap.size → w6.cell? ⟨b, o, none⟩ = w5.cell? ⟨b, o, none⟩ := fun b o h => (hb6.cell (p := ⟨b, o, none⟩) (by simp; omega)).trans (by go_simp)
    have j0 : ∀ j v, I.cells[j]? = some v → w6.cell? ⟨w5.heap.size, j, none⟩ = some v := fun j v hv => (hb6.cell (p := ⟨w5.heap.size, j, none⟩) (by simp)).trans ((cell_of_row _ _ _ _ _ _ (heap_alloc_new w5 _)).trans hv)
    have hlt1 : w1.heap.size < w5.heap.size := by omega
    have t0 := (hc6 _ _ hlt1).trans r0
    have t1 := (hc6 _ _ hlt1).trans r1
    have t2 := (hc6 _ _ hlt1).trans r2
    have t3 := (hc6 _ _ hlt1).trans r3
    have t4 := (hc6 _ _ hlt1).trans r4
    have t5 := (hc6 _ _ hlt1).trans r5
    have u0 : w6.cell? ⟨w5.heap.size, 0, none⟩ = some (.int .i64 I.k) := j0 0 _ rfl
    have u1 : w6.cell? ⟨w5.heap.size, 1, none⟩ = some (.int .i64 I.d) := j0 1 _ rfl
    have u2 : w6.cell? ⟨w5.heap.size, 2, none⟩ = some (.int .i64 I.a) := j0 2 _ rfl
    have u3 : w6.cell? ⟨w5.heap.size, 3, none⟩ = some (.int .i64 I.b) := j0 3 _ rfl
    have u4 : w6.cell? ⟨w5.heap.size, 4, none⟩ = some (.int .i64 I.n) := j0 4 _ rfl
    have u5 : w6.cell? ⟨w5.heap.size, 5, none⟩ = some (.bool I.l) := j0 5 _ rfl
    have hT6 := hT5.below ((((Below.refl _ _).alloc (Nat.le_refl _) _)).trans (hb6.mono (by simp)))
    clear hb6 hc6 j0 r0 r1 r2 r3 r4 r5 hT5 HR5 hcap4 HLL HD1 HD2
    have hB7 : ∀ X, Below w.heap.size w (w6.alloc X) := fun X => hB6.alloc hB6.size X
    have hlt6 : w1.heap.size < w6.heap.size := by omega
    go_wp2_with fail
    refine (check_any _ _ _ _ _ _ _ (hT6.alloc _)).mono ?_
    rintro e w7 ⟨rfl, hb7⟩
    have eI : chk I.k I.d I.a I.b I.n I.l = 0 := hC.out
    rw [eI]
    clear eI
    have hz7 : w6.heap.size < w7.heap.size := by have := hb7.size; simp at this; omega
    have hc7 : ∀ b o, b < w6.heap.size → w7.cell? ⟨b, o, none⟩ = w6.cell? ⟨b, o, none⟩ := fun b o h => (hb7.cell (p := ⟨b, o, none⟩) (by simp; omega)).trans (by go_simp)
    have y0 := (hc7 _ _ hlt6).trans t0
    have y1 := (hc7 _ _ hlt6).trans t1
    have y2 := (hc7 _ _ hlt6).trans t2
    have y3 := (hc7 _ _ hlt6).trans t3
    have y4 := (hc7 _ _ hlt6).trans t4
    have y5 := (hc7 _ _ hlt6).trans t5
    have x0 := (hc7 _ _ hz6).trans u0
    have x1 := (hc7 _ _ hz6).trans u1
    have x2 := (hc7 _ _ hz6).trans u2
    have x3 := (hc7 _ _ hz6).trans u3
    have x4 := (hc7 _ _ hz6).trans u4
    have x5 := (hc7 _ _ hz6).trans u5
    have hBB : Below w.heap.size w w7 := (hB7 _).trans (hb7.mono (by have := hB6.size; simp; omega))
    clear hb7 hc7 t0 t1 t2 t3 t4 t5 u0 u1 u2 u3 u4 u5 hB7 hT6
    go_wp2
    go_ret
    exact ⟨by simp, hBB⟩
theorem instrBack_contract (H : Type) (enc : TypeId × Value → H) (W : World) (base : Nat) (args : Array Value) (ds gs : List (DataW H)) (before : List MemPlace)
    (hval : ∀ (j : Nat) t v, Tryd.f8.params[j]? = some t → args[j]? = some v → Value.okWide Tryd.prog W .any base t v)
    (hW : DataW.Whole enc Tryd.prog Tryd.f8.params.toList Rows.instrBackSpec.vars false W args.toList ds gs before) (hL : laidMetH Tryd.prog Rows.instrBackRow.laid W)
    (hz : (DataW.weightsEach Tryd.prog (Tryd.f8.params.toList ++ (OpenSpec.ofChange Rows.instrBackSpec).bare.plain.varTypes Tryd.prog) (ds ++ gs)).all (· ≤ reachBytes) = true) :
    Calls Tryd.prog 8 args W fun e W' => ∃ v, e = .returned v ∧ Rows.instrBackSpec.post enc Tryd.prog Tryd.f8 false true false false W args v W' := by
  have hT : Tabs W := tabs_of_laid (rest := []) hL
  have hW0 := hW
  obtain ⟨p, q, hA0, hV, rfl, hfz, hnd⟩ := hW
  have hA : DataW.TrodAll enc Tryd.prog W 0 (fun _ => true) true Tryd.f8.params.toList args.toList ds p := hA0
  rw [Tryd.params8] at hA hval
  obtain ⟨v0, vs0, d0, ds0, p0, q0, hargs, rfl, rfl, h0, r0⟩ := trodAll_cons hA
  obtain ⟨v1, vs1, d1, ds1, p1, q1, rfl, rfl, rfl, h1, r1⟩ := trodAll_cons r0
  obtain ⟨v2, vs2, d2, ds2, p2, q2, rfl, rfl, rfl, h2, r2⟩ := trodAll_cons r1
  obtain ⟨rfl, rfl, rfl⟩ := trodAll_nil r2
  obtain rfl : args = #[v0, v1, v2] := by cases args; simp_all
  obtain ⟨rfl, rfl⟩ := trodVars_none hV
  clear hA0
  obtain ⟨x, rfl, hx⟩ := open_raw (hval 0 23 v0 rfl rfl) h0
  obtain ⟨l, rfl, rfl, rfl⟩ := open_bool Tryd.underlying4 (hval 1 4 v1 rfl rfl) h1
  obtain ⟨s, rfl, rfl, rfl, ws⟩ := open_string Tryd.underlying9 (hval 2 9 v2 rfl rfl) h2
  have hs : s.size ≤ 140737488351232 := by
    have h1 := sized_string hz (j := 2) (t := 9) (by rw [Tryd.params8]; rfl) rfl
    have h2 : reachBytes = 140737488351232 := by decide
    rw [h2] at h1
    simpa using h1
  refine (instrBack_walk x hx l s hs W hT).mono fun e W' ⟨he, hb⟩ => ?_
  subst he
  exact ⟨_, rfl, law_post hW0 rfl rfl (by kernel_rfl) (by kernel_rfl) hb⟩
theorem instrBack_met (os : Os) : laidMet Tryd.prog Rows.instrBackRow.laid ((laidWorld os).forCall (fun _ _ => 0) ⟨#[], #[.agg #[.int .i64 0, .int .i64 0, .int .i64 0, .int .i64 0], .bool false, .string ByteArray.empty], []⟩).memory :=
  laidMet_of_run' 8 (by kernel_rfl) (by kernel_rfl)
theorem instrBack_reads (os : Os) {H : Type} (enc : TypeId × Value → H) : ∃ places, DataW.whole enc Tryd.prog ((laidWorld os).forCall (fun _ _ => 0) ⟨#[], #[.agg #[.int .i64 0, .int .i64 0, .int .i64 0, .int .i64 0], .bool false, .string ByteArray.empty], []⟩).memory Tryd.f8.params.toList Rows.instrBackSpec.vars false (#[.agg #[.int .i64 0, .int .i64 0, .int .i64 0, .int .i64 0], .bool false, .string ByteArray.empty] : Array Value).toList 8 = some ([.agg [.lit (.int .i64 0), .lit (.int .i64 0), .lit (.int .i64 0), .lit (.int .i64 0)], .lit (.bool false), .lit (.string [])], [], places) :=
  ⟨[], by kernel_rfl⟩
set_option maxRecDepth 100000 in
theorem instrBack_lifted (os : Os) (started : os.Started) (H : Type) (enc : TypeId × Value → H) (F : Stop.Interp) :
    ReturnsInHanded {} Tryd.checked os 8 .any ((OpenSpec.ofChange Rows.instrBackSpec).preRow enc Tryd.prog Tryd.f8 Rows.instrBackRow.domain false Rows.instrBackRow.laid) (((OpenSpec.ofChange Rows.instrBackSpec).at F).post enc Tryd.prog Tryd.f8 false true false false) := by
  obtain ⟨places, hx⟩ := instrBack_reads os enc
  refine returnsInHanded_of_row (C := Tryd.checked) (s := OpenSpec.ofChange Rows.instrBackSpec) ownP started (by kernel_rfl) Tryd.func8
    (witness_row_at (enc := enc) (C := Tryd.checked) false (laidWorld os) #[.agg #[.int .i64 0, .int .i64 0, .int .i64 0, .int .i64 0], .bool false, .string ByteArray.empty] rfl (by kernel_rfl) (by kernel_rfl) (by kernel_rfl)
      (OpenSpec.preRow_of_cond 8 hx (by kernel_rfl) (fun k hk => by cases hk) (by kernel_rfl) (instrBack_met os))) ?_
  intro W base args ds gs before hval hW _ _ hreach hL _ _
  exact instrBack_contract H enc W base args ds gs before hval hW hL hreach
theorem instrBack_said : Rows.InstrBackSaid :=
  OpenClaim.holds_of_cond 8 Tryd.f8 rfl rfl rfl rfl rfl rfl rfl ⟨rfl, rfl, rfl, rfl, rfl⟩ rfl rfl rfl rfl rfl (by kernel_rfl) Tryd.func8 (by kernel_rfl)
    (of_decide_eq_true (by kernel_rfl)) (by unfold Func.isWrapper; first | (rw [if_pos (by decide +kernel)]; kernel_rfl) | (rw [if_neg (by decide +kernel)]; exact ⟨rfl, rfl⟩))
    (fun os started H enc _ F => by rw [OpenClaim.pre_eq_preRow]; exact instrBack_lifted os started H enc F)
theorem instrBack_plain (f : FuncId) (fn : Func) (hf : Tryd.pinned.checked.prog.funcNamed "bolthole/boltholekeep.InstrBack" = some f) (hfn : Tryd.pinned.checked.prog.funcs[f]? = some fn) :
    false = Tryd.pinned.checked.prog.looks [] ∧ ∀ (j : Nat) t, fn.params[j]? = some t → Tryd.pinned.checked.prog.wantsStandIn t = false := by
  obtain rfl : f = 8 := Option.some.inj ((show Tryd.prog.funcNamed "bolthole/boltholekeep.InstrBack" = some 8 by kernel_rfl).symm.trans hf) |>.symm
  obtain rfl : fn = Tryd.f8 := (Option.some.inj (Tryd.func8.symm.trans hfn)).symm
  refine ⟨by kernel_rfl, fun j t ht => ?_⟩
  have hall : ∀ t ∈ Tryd.f8.params, Tryd.prog.wantsStandIn t = false := by
    rw [Tryd.params8]
    intro t ht
    simp only [List.mem_toArray, List.mem_cons, List.not_mem_nil, or_false] at ht
    rcases ht with rfl | rfl | rfl
    all_goals kernel_rfl
  exact hall t (Array.mem_of_getElem? ht)
theorem instrBack_card : Rows.InstrBackCardSaid :=
  Claim7.holds_tied_plain_at .later [] _ _ _ _ instrBack_said (fun _ h => by cases h) (by kernel_rfl) (fun _ h => by cases h) instrBack_row_tie rfl ⟨rfl, rfl⟩ (by kernel_rfl) rfl instrBack_plain (by kernel_rfl)
end Go.Proofs.YtmcaplgddlbdoaaDoor
