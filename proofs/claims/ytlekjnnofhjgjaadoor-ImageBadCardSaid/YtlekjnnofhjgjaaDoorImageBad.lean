/- The given statement on ImageBad, proved: an image that may not be is refused. No condition of its own. -/
import Derived.Test.YtlekjnnofhjgjaaDoorLawS
import Derived.Test.YtlekjnnofhjgjaaDoorBadP
import Derived.Test.YtlekjnnofhjgjaaDoorEncX
import Derived.Test.YtlekjnnofhjgjaaDoorRunW
import Derived.Test.YtlekjnnofhjgjaaDoorFlowN
import Derived.OwnWalk
import Derived.Deep.DeepCutAuto
import Derived.Deep.CutBlock
import Derived.Deep.LoopGhost
import Derived.IntWalk
import Derived.WalkLawsBesides
namespace Go.Proofs.YtlekjnnofhjgjaaDoor
open Go.ChangeShapes Go.WideShapes Go.ChangeAt Go.RowKit Go.Joins
open Go.ChangeMaps (open_string)
theorem RdT.keepO {w w' : World} {B : Nat} {A : Option Addr} {ts : List (List Int)} (h : RdT w B A ts) (hb : Below B w w') : RdT w' B A ts := h.keep hb
theorem infoLnB : (Tryd.prog.info? 63).map (fun i => (i.zero, i.size, i.bytes)) = some (some (.agg #[.int .i64 0, .int .i64 0]), 2, 16) := by kernel_rfl
theorem infoI64B : (Tryd.prog.info? 3).map (fun i => (i.zero, i.size, i.bytes)) = some (some (.int .i64 0), 1, 8) := by kernel_rfl
theorem fst0_len (g : FnD → FnD) : ∀ l : List FnD, (fst0 g l).length = l.length
  | [] => rfl
  | _ :: _ => rfl
theorem gb_to_none {w w' : World} (h : w.grownBy w' none) : Below w.heap.size w w' := ⟨h.os, h.tape, h.output, h.size, fun i hi => h.block i hi (by simp)⟩
set_option maxHeartbeats 16000000 in
set_option maxRecDepth 100000 in
theorem imageBad_walk (l : List RawI) (A : Option Addr) (c : Nat) (n n2 : Int) (hn : N64 n) (hn2 : N64 n2) (w : World) (hT : Tabs w) (hR : RdR w w.heap.size A l) (hl : l.length ≤ 140737488355328) (hc : l.length ≤ c) :
    Calls Tryd.prog 9 #[.slice A l.length c, .int .i64 n, .int .i64 n2] w fun e w' => e = .returned (.bool true) ∧ Below w.heap.size w w' := by
  have HPG := Lib.hid (program_any l A c w hT hR hc hl)
  obtain ⟨ll, hll⟩ : ∃ z, l.length = z := ⟨_, rfl⟩
  rw [hll] at HPG ⊢
  have hk := pickL_bd n 9 (by decide)
  have HPJ := Lib.hid (fun W => picked_any n 9 W hn.1 hn.2 (by decide) (by decide))
  obtain ⟨k0, hk0⟩ : ∃ z, pickL n 9 = z := ⟨_, rfl⟩
  rw [hk0] at hk HPJ
  obtain ⟨jj, rfl⟩ := Int.eq_ofNat_of_zero_le hk.1
  have hj9 : jj < 9 := by omega
  have hk2 := pickL_bd n2 50 (by decide)
  have HPK := Lib.hid (fun W => picked_any n2 50 W hn2.1 hn2.2 (by decide) (by decide))
  obtain ⟨k1, hk1⟩ : ∃ z, pickL n2 50 = z := ⟨_, rfl⟩
  rw [hk1] at hk2 HPK
  obtain ⟨kN, rfl⟩ := Int.eq_ofNat_of_zero_le hk2.1
  have hkN : kN < 50 := by omega
  obtain ⟨K, hK⟩ : ∃ K : Nat, kN + 1 = K := ⟨_, rfl⟩
  have hKI : (1 : Int) + (kN : Int) = (K : Int) := by omega
  have hK1 : 1 ≤ K ∧ K ≤ 50 := by omega
  have HKI := Lib.hid hKI
  have HK1 := Lib.hid hK1
  have HT := Lib.hid hT
  clear hT hR hl hc hll hn hn2 hk hk0 hk1 hk2 hK hKI
  go_enter Tryd.func9, Tryd.ntmps9
  go_wp2_with fail
  refine HPG.out.mono ?_
  rintro e wp ⟨hb1, ⟨tA, tc, fA, fc, bA, bc, dA, dc, lA, lc⟩, m, rfl, hown, hok, hpg⟩
  have hpt := hpg.text
  have hfn := hpg.fn
  have hck := hpg.check
  have HF := Lib.hid (check_fits hck)
  have hdl : m.data.length = 6 ∧ m.tables.length = 3 ∧ m.lines.length ≤ 400 := by
    obtain ⟨bs', z1, -, z3, z4⟩ := hpg
    refine ⟨by rw [z4]; rfl, by rw [z4]; simp [imgOf, tabL], ?_⟩
    rw [z4]
    have h1 := linL_len bs'.flatten 0 0
    have h2 := z1.ns
    show (linL 0 0 bs'.flatten).length ≤ 400
    omega
  have HCHK : Hid (checkE (badM m jj K) = badW jj) := Lib.hid (bad_check hck (by omega) (by omega) (by omega) (by omega) (by omega) hj9 hK1)
  have HCK := Lib.hid hck
  have HOK := Lib.hid hok
  have HB1 := Lib.hid hb1
  have HOW := Lib.hid hown
  have HDL := Lib.hid hdl
  obtain ⟨T, hT⟩ : ∃ z, m.text.length = z := ⟨_, rfl⟩
  obtain ⟨nf, hnf⟩ : ∃ z, m.funcs.length = z := ⟨_, rfl⟩
  rw [hT] at hpt
  rw [hnf] at hfn
  obtain ⟨hT1, hT2⟩ := hpt
  obtain ⟨hf1, hf2⟩ := hfn
  have HTE := Lib.hid hT
  have HNF := Lib.hid hnf
  unfold Img.val
  simp only at *
  rw [hT, hnf]
  clear hown hok HPG hT hnf hck hdl hpg hK1
  go_upto_region 2 with fail
  obtain ⟨X, hX⟩ : ∃ X, wp.alloc (.cells #[.slice tA T tc, .slice fA nf fc, .slice bA m.tables.length bc, .slice dA m.data.length dc, .slice lA m.lines.length lc, .int .i64 m.entry] 31) = X := ⟨_, rfl⟩
  have hm1 : Blk X wp.heap.size 31 [.slice tA T tc, .slice fA nf fc, .slice bA m.tables.length bc, .slice dA m.data.length dc, .slice lA m.lines.length lc, .int .i64 m.entry] := by rw [← hX]; exact heap_alloc_new wp _
  have hbX : Below wp.heap.size wp X := by rw [← hX]; exact (Below.refl _ _).alloc (Nat.le_refl _) _
  have HWX := Lib.hid (hb1.trans (hbX.mono hb1.size))
  have HOX := Lib.hid (HOW.out.keep hbX)
  have HM1 := Lib.hid hm1
  have hwX := HWX.out.size
  rw [hX]
  clear hX hm1 hb1 hbX
  go_wp2_with fail
  refine (HPK.out _).mono ?_
  rintro e wq ⟨rfl, rfl⟩
  go_upto_region 3 with fail
  rw [HKI.out]
  go_wp2_with fail
  refine (HPJ.out _).mono ?_
  rintro e wq ⟨rfl, rfl⟩
  go_upto_block 0 with fail
  go_cut [9] (fun s9 wx => ∃ (m' : Img) (v' : ImgV), s9 = .int .i64 (badW jj) ∧ Hid (Blk wx wp.heap.size 31 [.slice v'.tA m'.text.length v'.tc, .slice v'.fA m'.funcs.length v'.fc, .slice v'.bA m'.tables.length v'.bc, .slice v'.dA m'.data.length v'.dc, .slice v'.lA m'.lines.length v'.lc, .int .i64 m'.entry]) ∧ Hid (ImgRd wx wx.heap.size m' v') ∧ Hid (ImgOk m' v') ∧ Hid (checkE m' = badW jj) ∧ Hid (Below w.heap.size w wx))
  case first =>
    have hK50 := HK1.out
    have y0 := HM1.out.cell 0 rfl
    have y1 := HM1.out.cell 1 rfl
    have y2 := HM1.out.cell 2 rfl
    have y3 := HM1.out.cell 3 rfl
    have y4 := HM1.out.cell 4 rfl
    have y5 := HM1.out.cell 5 rfl
    have yf0 := HM1.out.free 0
    have yf2 := HM1.out.free 2
    have yf3 := HM1.out.free 3
    have yf4 := HM1.out.free 4
    have yf5 := HM1.out.free 5
    have yl := HM1.out.lt
    have hbp : w.heap.size ≤ wp.heap.size := HB1.out.size
    have h9 : jj = 0 ∨ jj = 1 ∨ jj = 2 ∨ jj = 3 ∨ jj = 4 ∨ jj = 5 ∨ jj = 6 ∨ jj = 7 ∨ jj = 8 := by omega
    clear hj9
    rcases h9 with rfl | rfl | rfl | rfl | rfl | rfl | rfl | rfl | rfl
    · skip
      obtain ⟨f0, r, hfr⟩ : ∃ f0 r, m.funcs = f0 :: r := by
        cases h : m.funcs with
        | nil =>
          have h2 := HNF.out
          rw [h] at h2
          simp at h2
          omega
        | cons a t => exact ⟨a, t, rfl⟩
      have hfn0 := HOX.out.fn
      simp only [HNF.out] at hfn0
      obtain ⟨fb, rfl⟩ := own_ptr hfn0 (by omega)
      have hc0 : (funcsV m.funcs)[1]? = some (.int .i64 f0.start) := by rw [hfr]; rfl
      obtain ⟨x_c, x_f, x_l⟩ := own_cellf hfn0 hc0

      obtain ⟨hst, hgst⟩ := hfn0.stored 1 (.int .i64 (K : Int))
      obtain ⟨V, hV⟩ : ∃ z, X.setCell ⟨fb, 1, none⟩ (.int .i64 (K : Int)) = z := ⟨_, rfl⟩
      rw [hV] at hst hgst
      have hL' : (funcsV m.funcs).set 1 (.int .i64 (K : Int)) = funcsV (fst0 (fun f => { f with start := (K : Int) }) m.funcs) := by rw [hfr]; rfl
      have hlen : (fst0 (fun f => { f with start := (K : Int) }) m.funcs).length = nf := by rw [fst0_len]; exact HNF.out
      rw [hL'] at hst
      have hOV := HOX.out.setFn (w' := V) (L' := fst0 (fun f => { f with start := (K : Int) }) m.funcs) (A' := some ⟨fb, 0, none⟩) (c' := fc) (n := nf) (by simp only [HNF.out]; exact hgst) hst hlen (by rw [hfr]; simp)
      have hmV : Blk V wp.heap.size 31 [.slice tA T tc, .slice (some ⟨fb, 0, none⟩) nf fc, .slice bA m.tables.length bc, .slice dA m.data.length dc, .slice lA m.lines.length lc, .int .i64 m.entry] := HM1.out.gb hgst (fun e => by
        rcases own_blk_ne hfn0 HM1.out (by decide) with h | h
        · cases h
        · exact h e)
      have HBV : Hid (Below w.heap.size w V) := Lib.hid (HWX.out.trans (gb_to_below hgst (World.ownsRow.lt hfn0 fb rfl).1 HWX.out.size))
      have HIV : Hid (ImgRd V V.heap.size (badM m 0 K) ⟨tA, tc, some ⟨fb, 0, none⟩, fc, bA, bc, dA, dc, lA, lc⟩) := Lib.hid hOV.rd
      have HKV : Hid (ImgOk (badM m 0 K) ⟨tA, tc, some ⟨fb, 0, none⟩, fc, bA, bc, dA, dc, lA, lc⟩) := Lib.hid (by
        have h := HOK.out
        have hf0 := h.fb f0 (by rw [hfr]; simp)
        refine ⟨h.tl, by show (fst0 (fun f => { f with start := (K : Int) }) m.funcs).length ≤ _; rw [hlen]; omega, h.bl, h.dl, h.ll, h.tc, by show (fst0 (fun f => { f with start := (K : Int) }) m.funcs).length ≤ fc; rw [hlen, ← HNF.out]; exact h.fc, h.bc, h.dc, h.lc, h.tb, fun f hf => ?_, h.bb, h.db, h.lb, h.eb⟩
        have hf' : f ∈ fst0 (fun f => { f with start := (K : Int) }) m.funcs := hf
        rw [hfr] at hf'
        rcases List.mem_cons.1 hf' with rfl | hf'
        · exact ⟨by unfold N64; simp only; omega, hf0.2.1, hf0.2.2⟩
        · exact h.fb f (by rw [hfr]; simp [hf']))
      have HMV : Hid (Blk V wp.heap.size 31 [.slice tA (badM m 0 K).text.length tc, .slice (some ⟨fb, 0, none⟩) (badM m 0 K).funcs.length fc, .slice bA (badM m 0 K).tables.length bc, .slice dA (badM m 0 K).data.length dc, .slice lA (badM m 0 K).lines.length lc, .int .i64 (badM m 0 K).entry]) := Lib.hid (by
        have e0 : (badM m 0 K).text.length = T := HTE.out
        have e1 : (badM m 0 K).funcs.length = nf := hlen
        rw [e0, e1]
        exact hmV)
      have hnfI : (0 : Int) < (nf : Int) := by omega
      clear hfn0 hc0 hst hgst hL' hlen hOV hmV hfr
      go_wp2
      go_meet
      exact ⟨badM m 0 K, ⟨tA, tc, some ⟨fb, 0, none⟩, fc, bA, bc, dA, dc, lA, lc⟩, rfl, HMV, HIV, HKV, HCHK, HBV⟩
    · skip
      obtain ⟨f0, r, hfr⟩ : ∃ f0 r, m.funcs = f0 :: r := by
        cases h : m.funcs with
        | nil =>
          have h2 := HNF.out
          rw [h] at h2
          simp at h2
          omega
        | cons a t => exact ⟨a, t, rfl⟩
      have hfn0 := HOX.out.fn
      simp only [HNF.out] at hfn0
      obtain ⟨fb, rfl⟩ := own_ptr hfn0 (by omega)
      have hc0 : (funcsV m.funcs)[2]? = some (.int .i64 f0.size) := by rw [hfr]; rfl
      obtain ⟨x_c, x_f, x_l⟩ := own_cellf hfn0 hc0
      have hsz := fns_ok HCK.out f0 (by rw [hfr]; simp)
      rw [HTE.out] at hsz
      obtain ⟨hs1, hs2, hs3⟩ := hsz
      have hs4 : f0.size ≤ 1600 := by omega
      clear hs1 hs3
      obtain ⟨hst, hgst⟩ := hfn0.stored 2 (.int .i64 (f0.size + (K : Int)))
      obtain ⟨V, hV⟩ : ∃ z, X.setCell ⟨fb, 2, none⟩ (.int .i64 (f0.size + (K : Int))) = z := ⟨_, rfl⟩
      rw [hV] at hst hgst
      have hL' : (funcsV m.funcs).set 2 (.int .i64 (f0.size + (K : Int))) = funcsV (fst0 (fun f => { f with size := f.size + (K : Int) }) m.funcs) := by rw [hfr]; rfl
      have hlen : (fst0 (fun f => { f with size := f.size + (K : Int) }) m.funcs).length = nf := by rw [fst0_len]; exact HNF.out
      rw [hL'] at hst
      have hOV := HOX.out.setFn (w' := V) (L' := fst0 (fun f => { f with size := f.size + (K : Int) }) m.funcs) (A' := some ⟨fb, 0, none⟩) (c' := fc) (n := nf) (by simp only [HNF.out]; exact hgst) hst hlen (by rw [hfr]; simp)
      have hmV : Blk V wp.heap.size 31 [.slice tA T tc, .slice (some ⟨fb, 0, none⟩) nf fc, .slice bA m.tables.length bc, .slice dA m.data.length dc, .slice lA m.lines.length lc, .int .i64 m.entry] := HM1.out.gb hgst (fun e => by
        rcases own_blk_ne hfn0 HM1.out (by decide) with h | h
        · cases h
        · exact h e)
      have HBV : Hid (Below w.heap.size w V) := Lib.hid (HWX.out.trans (gb_to_below hgst (World.ownsRow.lt hfn0 fb rfl).1 HWX.out.size))
      have HIV : Hid (ImgRd V V.heap.size (badM m 1 K) ⟨tA, tc, some ⟨fb, 0, none⟩, fc, bA, bc, dA, dc, lA, lc⟩) := Lib.hid hOV.rd
      have HKV : Hid (ImgOk (badM m 1 K) ⟨tA, tc, some ⟨fb, 0, none⟩, fc, bA, bc, dA, dc, lA, lc⟩) := Lib.hid (by
        have h := HOK.out
        have hf0 := h.fb f0 (by rw [hfr]; simp)
        refine ⟨h.tl, by show (fst0 (fun f => { f with size := f.size + (K : Int) }) m.funcs).length ≤ _; rw [hlen]; omega, h.bl, h.dl, h.ll, h.tc, by show (fst0 (fun f => { f with size := f.size + (K : Int) }) m.funcs).length ≤ fc; rw [hlen, ← HNF.out]; exact h.fc, h.bc, h.dc, h.lc, h.tb, fun f hf => ?_, h.bb, h.db, h.lb, h.eb⟩
        have hf' : f ∈ fst0 (fun f => { f with size := f.size + (K : Int) }) m.funcs := hf
        rw [hfr] at hf'
        rcases List.mem_cons.1 hf' with rfl | hf'
        · exact ⟨hf0.1, by unfold N64; simp only; omega, hf0.2.2⟩
        · exact h.fb f (by rw [hfr]; simp [hf']))
      have HMV : Hid (Blk V wp.heap.size 31 [.slice tA (badM m 1 K).text.length tc, .slice (some ⟨fb, 0, none⟩) (badM m 1 K).funcs.length fc, .slice bA (badM m 1 K).tables.length bc, .slice dA (badM m 1 K).data.length dc, .slice lA (badM m 1 K).lines.length lc, .int .i64 (badM m 1 K).entry]) := Lib.hid (by
        have e0 : (badM m 1 K).text.length = T := HTE.out
        have e1 : (badM m 1 K).funcs.length = nf := hlen
        rw [e0, e1]
        exact hmV)
      have hnfI : (0 : Int) < (nf : Int) := by omega
      clear hfn0 hc0 hst hgst hL' hlen hOV hmV hfr
      go_wp2
      go_meet
      exact ⟨badM m 1 K, ⟨tA, tc, some ⟨fb, 0, none⟩, fc, bA, bc, dA, dc, lA, lc⟩, rfl, HMV, HIV, HKV, HCHK, HBV⟩
    · skip
      obtain ⟨V, hV⟩ : ∃ z, X.setCell ⟨wp.heap.size, 5, none⟩ (.int .i64 ((nf : Int) + (K : Int))) = z := ⟨_, rfl⟩
      have hgV : X.grownBy V (some wp.heap.size) := by rw [← hV]; exact gb_setCell (gb_refl _ _) _ _
      have hmV : Blk V wp.heap.size 31 [.slice tA T tc, .slice fA nf fc, .slice bA m.tables.length bc, .slice dA m.data.length dc, .slice lA m.lines.length lc, .int .i64 ((nf : Int) + (K : Int))] := by rw [← hV]; exact HM1.out.set 5 _
      have hrd := (HOX.out.blk HM1.out hgV (by intro x e; cases e) (by decide)).rd
      have HIV : Hid (ImgRd V V.heap.size (badM m 2 K) ⟨tA, tc, fA, fc, bA, bc, dA, dc, lA, lc⟩) := Lib.hid ⟨hrd.text, hrd.funcs, hrd.tables, hrd.data, hrd.lines⟩
      have HKV : Hid (ImgOk (badM m 2 K) ⟨tA, tc, fA, fc, bA, bc, dA, dc, lA, lc⟩) := Lib.hid (by
        have h := HOK.out
        refine ⟨h.tl, h.fl, h.bl, h.dl, h.ll, h.tc, h.fc, h.bc, h.dc, h.lc, h.tb, h.fb, h.bb, h.db, h.lb, ?_⟩
        show N64 ((m.funcs.length : Int) + (K : Int))
        rw [HNF.out]
        unfold N64
        omega)
      have HMV : Hid (Blk V wp.heap.size 31 [.slice tA (badM m 2 K).text.length tc, .slice fA (badM m 2 K).funcs.length fc, .slice bA (badM m 2 K).tables.length bc, .slice dA (badM m 2 K).data.length dc, .slice lA (badM m 2 K).lines.length lc, .int .i64 (badM m 2 K).entry]) := Lib.hid (by
        have e0 : (badM m 2 K).text.length = T := HTE.out
        have e1 : (badM m 2 K).funcs.length = nf := HNF.out
        have e5 : (badM m 2 K).entry = (nf : Int) + (K : Int) := by show (m.funcs.length : Int) + (K : Int) = _; rw [HNF.out]
        rw [e0, e1, e5]
        exact hmV)
      have HBV : Hid (Below w.heap.size w V) := Lib.hid (HWX.out.trans (gb_to_below hgV hbp HWX.out.size))
      clear hgV hmV hrd
      go_wp2
      go_meet
      exact ⟨badM m 2 K, ⟨tA, tc, fA, fc, bA, bc, dA, dc, lA, lc⟩, rfl, HMV, HIV, HKV, HCHK, HBV⟩
    · skip
      have h3 := HDL.out.2.1
      rw [h3] at y2
      obtain ⟨b0, hb0, hta, hdq⟩ := HOX.out.tb
      simp only [h3] at hta
      have hal : Below X.heap.size X ((X.alloc (.cells #[.int .i64 ((T : Int) + (K : Int))] 3)).alloc (.cells #[.slice (some ⟨X.heap.size, 0, none⟩) 1 1] 28)) := ((Below.refl _ _).alloc (Nat.le_refl _) _).alloc (by simp) _
      have hbl : Blk ((X.alloc (.cells #[.int .i64 ((T : Int) + (K : Int))] 3)).alloc (.cells #[.slice (some ⟨X.heap.size, 0, none⟩) 1 1] 28)) X.heap.size 3 [.int .i64 ((T : Int) + (K : Int))] := (Blk.new X _ _).alloc _
      have how : World.ownsRow ((X.alloc (.cells #[.int .i64 ((T : Int) + (K : Int))] 3)).alloc (.cells #[.slice (some ⟨X.heap.size, 0, none⟩) 1 1] 28)) X.heap.size 3 1 (.slice (some ⟨X.heap.size, 0, none⟩) 1 1) 1 (intsV .i64 [(T : Int) + (K : Int)]) := ⟨rfl, .inr ⟨X.heap.size, 1, _, rfl, Nat.le_refl _, hbl, Nat.le_refl _, by unfold maxLen; omega, rfl, rfl⟩⟩
      have hb0X : b0 ≤ X.heap.size := by
        obtain ⟨A0, c0, vs, e0, e1, -⟩ := hta
        rw [h3] at e1
        obtain ⟨q, hq⟩ := own_ptr e1 (by omega)
        have := World.ownsRow.lt e1 q (by rw [hq]; rfl)
        omega
      obtain ⟨vs, hvs, hpush⟩ := hta.push2 h3 hal how rfl (by omega) hb0X
      have HVS := Lib.hid hvs
      have hbp2 : b0 ≤ (((X.alloc (.cells #[.int .i64 ((T : Int) + (K : Int))] 3)).alloc (.cells #[.slice (some ⟨X.heap.size, 0, none⟩) 1 1] 28))).heap.size := by simp; omega
      clear hta how hbl hdq h3
      go_wp2_with (first | (at_builtin; refine app_one rfl _ _ 27 28 1 24 _ Tryd.underlying27 infoInts rfl (by decide) rfl b0 _ 3 _ rfl HVS.out (X.heap.size + 1) 1 rfl [.slice (some ⟨X.heap.size, 0, none⟩) 1 1] 28 (0, 0) (heap_alloc2_new X _ _) rfl (by simp [Value.oneCell']) (by omega) (by omega) hbp2 (X.heap.size + 1 + 1) (by simp) ?a3))
      case a3 =>
        intro g3 c3 w3 ho3 hgr3 hat3 hlt3
        have hta3 := hpush w3 g3 c3 (X.heap.size + 1 + 1) ho3 hgr3 hat3 (by simp)
        have hO1 := HOX.out.keep hal
        have hty3 : ∀ q, (Value.slice bA 3 bc).ownBlock = some q → TypB ((X.alloc (.cells #[.int .i64 ((T : Int) + (K : Int))] 3)).alloc (.cells #[.slice (some ⟨X.heap.size, 0, none⟩) 1 1] 28)) q 28 := fun q e => own_typ HVS.out e
        have hm3 := (HM1.out.keep hal).keepT hgr3 hty3 (by decide)
        obtain ⟨V, hV⟩ : ∃ z, w3.setCell ⟨wp.heap.size, 2, none⟩ (.slice (some ⟨g3, 0, none⟩) (3 + 1) c3) = z := ⟨_, rfl⟩
        have hgV : w3.grownBy V (some wp.heap.size) := by rw [← hV]; exact gb_setCell (gb_refl _ _) _ _
        have htV : ∀ q, some wp.heap.size = some q → TypB w3 q 31 := fun q e => by injection e with e; subst e; exact hm3.typ
        have htaV := hta3.gbT hgV (by
          obtain ⟨A0, c0, vs', e0, e1, -⟩ := hta3
          exact own_blk_ne e1 hm3 (by decide)) htV (by decide)
        have hmV : Blk V wp.heap.size 31 [.slice tA T tc, .slice fA nf fc, .slice (some ⟨g3, 0, none⟩) (3 + 1) c3, .slice dA m.data.length dc, .slice lA m.lines.length lc, .int .i64 m.entry] := by rw [← hV]; exact (show Blk w3 wp.heap.size _ _ from hm3).set 2 _
        have e2 : (badM m 3 K).tables.length = 3 + 1 := by show (m.tables ++ [[(m.text.length : Int) + (K : Int)]]).length = _; rw [List.length_append, HDL.out.2.1]; rfl
        have et : m.tables ++ [[(T : Int) + (K : Int)]] = (badM m 3 K).tables := by show _ = m.tables ++ [[(m.text.length : Int) + (K : Int)]]; rw [HTE.out]
        rw [et] at htaV
        have HIV : Hid (ImgRd V V.heap.size (badM m 3 K) ⟨tA, tc, fA, fc, some ⟨g3, 0, none⟩, c3, dA, dc, lA, lc⟩) := Lib.hid ⟨own_rdg (own_keepT (own_keepT hO1.tx hgr3 hty3 (by decide)) hgV htV (by decide)), own_rdg (own_keepT (own_keepT hO1.fn hgr3 hty3 (by decide)) hgV htV (by decide)), htaV.rdt, own_rdg (own_keepT (own_keepT hO1.dt hgr3 hty3 (by decide)) hgV htV (by decide)), own_rdg (own_keepT (own_keepT hO1.ln hgr3 hty3 (by decide)) hgV htV (by decide))⟩
        have hc3 := own_capG ho3
        have HKV : Hid (ImgOk (badM m 3 K) ⟨tA, tc, fA, fc, some ⟨g3, 0, none⟩, c3, dA, dc, lA, lc⟩) := Lib.hid (by
          have h := HOK.out
          refine ⟨h.tl, h.fl, by rw [e2]; omega, h.dl, h.ll, h.tc, h.fc, by rw [e2]; exact hc3, h.dc, h.lc, h.tb, h.fb, fun t ht => ?_, h.db, h.lb, h.eb⟩
          rw [← et] at ht
          rcases List.mem_append.1 ht with ht | ht
          · exact h.bb t ht
          · rw [List.mem_singleton] at ht
            subst ht
            intro x hx
            rw [List.mem_singleton] at hx
            subst hx
            unfold N64
            omega)
        have HMV : Hid (Blk V wp.heap.size 31 [.slice tA (badM m 3 K).text.length tc, .slice fA (badM m 3 K).funcs.length fc, .slice (some ⟨g3, 0, none⟩) (badM m 3 K).tables.length c3, .slice dA (badM m 3 K).data.length dc, .slice lA (badM m 3 K).lines.length lc, .int .i64 (badM m 3 K).entry]) := Lib.hid (by
          have e0 : (badM m 3 K).text.length = T := HTE.out
          have e1 : (badM m 3 K).funcs.length = nf := HNF.out
          rw [e0, e1, e2]
          exact hmV)
        have hb3 : Below w.heap.size w w3 := (HWX.out.trans (hal.mono HWX.out.size)).trans (gb_below_of hgr3 (fun q hq => Nat.le_trans hb0 (World.ownsRow.lt HVS.out q hq).1) (by have := HWX.out.size; simp; omega))
        have HBV : Hid (Below w.heap.size w V) := Lib.hid (hb3.trans (gb_to_below hgV hbp hb3.size))
        have r2 := hm3.cell 2 rfl
        have rf2 := hm3.free 2
        have rl := hm3.lt
        rw [HDL.out.2.1] at r2
        clear ho3 hgr3 hat3 hlt3 hO1 hty3 hm3 hta3 hgV htV htaV hmV e2 et hc3 hb3 y2 yf2 hpush hvs hb0X hbp2
        go_wp2_with fail
        go_meet
        exact ⟨badM m 3 K, ⟨tA, tc, fA, fc, some ⟨g3, 0, none⟩, c3, dA, dc, lA, lc⟩, rfl, HMV, HIV, HKV, HCHK, HBV⟩
    · skip
      have hdt := HOX.out.dt
      simp only [HDL.out.1] at hdt
      have h6 := HDL.out.1
      rw [h6] at y3
      obtain ⟨db, rfl⟩ := own_ptr hdt (by omega)
      have HDT := Lib.hid hdt
      have hcap := own_capG hdt
      clear h6 hdt
      go_wp2_with (first | (at_builtin; refine app_one rfl _ _ 28 3 1 8 _ Tryd.underlying28 infoI64B rfl (by decide) rfl w.heap.size _ 6 _ rfl (World.ownsRow.alloc HDT.out _) X.heap.size 1 rfl [.int .i64 (1099511627776 + (K : Int))] 3 (0, 0) (heap_alloc_new X _) rfl (by simp [Value.oneCell']) (by omega) (by omega) (by simp; omega) (X.heap.size + 1) (by simp) ?a4))
      case a4 =>
        intro g3 c3 w3 ho3 hgr3 hat3 hlt3
        have hal : Below X.heap.size X (X.alloc (.cells #[.int .i64 (1099511627776 + (K : Int))] 3)) := (Below.refl _ _).alloc (Nat.le_refl _) _
        have hO1 := HOX.out.keep hal
        have hty3 : ∀ q, (Value.slice (some ⟨db, 0, none⟩) 6 dc).ownBlock = some q → TypB (X.alloc (.cells #[.int .i64 (1099511627776 + (K : Int))] 3)) q 3 := fun q e => own_typ (World.ownsRow.alloc HDT.out _) e
        have hm3 := (HM1.out.keep hal).keepT hgr3 hty3 (by decide)
        obtain ⟨b0, hb0, hta, hdq⟩ := hO1.tb
        have hta3 : TabsAt w3 b0 (.slice bA m.tables.length bc) m.tables := hta.gb (q := db) hgr3 (hdq db rfl)
        obtain ⟨V, hV⟩ : ∃ z, w3.setCell ⟨wp.heap.size, 3, none⟩ (.slice (some ⟨g3, 0, none⟩) (6 + 1) c3) = z := ⟨_, rfl⟩
        have hgV : w3.grownBy V (some wp.heap.size) := by rw [← hV]; exact gb_setCell (gb_refl _ _) _ _
        have htV : ∀ q, some wp.heap.size = some q → TypB w3 q 31 := fun q e => by injection e with e; subst e; exact hm3.typ
        have htaV : TabsAt V b0 (.slice bA m.tables.length bc) m.tables := hta3.gbT hgV (by
          obtain ⟨A0, c0, vs, e0, e1, -⟩ := hta3
          exact own_blk_ne e1 hm3 (by decide)) htV (by decide)
        have hmV : Blk V wp.heap.size 31 [.slice tA T tc, .slice fA nf fc, .slice bA m.tables.length bc, .slice (some ⟨g3, 0, none⟩) (6 + 1) c3, .slice lA m.lines.length lc, .int .i64 m.entry] := by rw [← hV]; exact (show Blk w3 wp.heap.size _ _ from hm3).set 3 _
        have e3 : (badM m 4 K).data.length = 6 + 1 := by show (m.data ++ [1099511627776 + (K : Int)]).length = _; rw [List.length_append, HDL.out.1]; rfl
        have ed : intsV .i64 m.data ++ [Value.int .i64 (1099511627776 + (K : Int))] = intsV .i64 (badM m 4 K).data := by show _ = intsV .i64 (m.data ++ [1099511627776 + (K : Int)]); simp [intsV]
        rw [ed] at ho3
        have HIV : Hid (ImgRd V V.heap.size (badM m 4 K) ⟨tA, tc, fA, fc, bA, bc, some ⟨g3, 0, none⟩, c3, lA, lc⟩) := Lib.hid ⟨own_rdg (own_keepT (own_keepT hO1.tx hgr3 hty3 (by decide)) hgV htV (by decide)), own_rdg (own_keepT (own_keepT hO1.fn hgr3 hty3 (by decide)) hgV htV (by decide)), htaV.rdt, own_rdg (own_keepT ho3 hgV htV (by decide)), own_rdg (own_keepT (own_keepT hO1.ln hgr3 hty3 (by decide)) hgV htV (by decide))⟩
        have hc3 := own_capG ho3
        have HKV : Hid (ImgOk (badM m 4 K) ⟨tA, tc, fA, fc, bA, bc, some ⟨g3, 0, none⟩, c3, lA, lc⟩) := Lib.hid (by
          have h := HOK.out
          refine ⟨h.tl, h.fl, h.bl, by rw [e3]; omega, h.ll, h.tc, h.fc, h.bc, by rw [e3]; exact hc3, h.lc, h.tb, h.fb, h.bb, fun x hx => ?_, h.lb, h.eb⟩
          have hx' : x ∈ m.data ++ [1099511627776 + (K : Int)] := hx
          rcases List.mem_append.1 hx' with hx' | hx'
          · exact h.db x hx'
          · rw [List.mem_singleton] at hx'
            unfold N64
            omega)
        have HMV : Hid (Blk V wp.heap.size 31 [.slice tA (badM m 4 K).text.length tc, .slice fA (badM m 4 K).funcs.length fc, .slice bA (badM m 4 K).tables.length bc, .slice (some ⟨g3, 0, none⟩) (badM m 4 K).data.length c3, .slice lA (badM m 4 K).lines.length lc, .int .i64 (badM m 4 K).entry]) := Lib.hid (by
          have e0 : (badM m 4 K).text.length = T := HTE.out
          have e1 : (badM m 4 K).funcs.length = nf := HNF.out
          rw [e0, e1, e3]
          exact hmV)
        have hb3 : Below w.heap.size w w3 := (HWX.out.trans (hal.mono HWX.out.size)).trans (gb_below_of hgr3 (fun q hq => (World.ownsRow.lt HDT.out q hq).1) (by have := HWX.out.size; simp; omega))
        have HBV : Hid (Below w.heap.size w V) := Lib.hid (hb3.trans (gb_to_below hgV hbp hb3.size))
        have r3 := hm3.cell 3 rfl
        have rf3 := hm3.free 3
        have rl := hm3.lt
        rw [HDL.out.1] at r3
        clear ho3 hgr3 hat3 hlt3 hal hO1 hty3 hm3 hb0 hta hdq hta3 hgV htV htaV hmV e3 ed hc3 hb3 y3 yf3
        go_wp2_with fail
        go_meet
        exact ⟨badM m 4 K, ⟨tA, tc, fA, fc, bA, bc, some ⟨g3, 0, none⟩, c3, lA, lc⟩, rfl, HMV, HIV, HKV, HCHK, HBV⟩
    · skip
      obtain ⟨nl, hnl⟩ : ∃ q, m.lines.length = q := ⟨_, rfl⟩
      have hln := HOX.out.ln
      simp only [hnl] at hln
      have hnl4 : nl ≤ 400 := by rw [← hnl]; exact HDL.out.2.2
      rw [hnl] at y4
      have HLN := Lib.hid hln
      have HNL := Lib.hid hnl
      clear hln hnl
      go_wp2_with (first | (at_builtin; refine app_one rfl _ _ 29 63 2 16 _ Tryd.underlying29 infoLnB rfl (by decide) rfl w.heap.size _ nl _ rfl (World.ownsRow.alloc HLN.out _) X.heap.size 1 rfl [.int .i64 ((T : Int) + (K : Int)), .int .i64 1] 63 (0, 0) (heap_alloc_new X _) rfl (by simp [Value.oneCell']) (by omega) (by omega) (by simp; omega) (X.heap.size + 1) (by simp) ?a5))
      case a5 =>
        intro g3 c3 w3 ho3 hgr3 hat3 hlt3
        have hal : Below X.heap.size X (X.alloc (.cells #[.int .i64 ((T : Int) + (K : Int)), .int .i64 1] 63)) := (Below.refl _ _).alloc (Nat.le_refl _) _
        have hO1 := HOX.out.keep hal
        have hty3 : ∀ q, (Value.slice lA nl lc).ownBlock = some q → TypB (X.alloc (.cells #[.int .i64 ((T : Int) + (K : Int)), .int .i64 1] 63)) q 63 := fun q e => own_typ (World.ownsRow.alloc HLN.out _) e
        have hm3 := (HM1.out.keep hal).keepT hgr3 hty3 (by decide)
        obtain ⟨b0, hb0, hta, hdq⟩ := hO1.tb
        have hta3 : TabsAt w3 b0 (.slice bA m.tables.length bc) m.tables := hta.gbT hgr3 (by
          obtain ⟨A0, c0, vs, e0, e1, -⟩ := hta
          exact own_ne e1 (World.ownsRow.alloc HLN.out _) (by decide)) hty3 (by decide)
        obtain ⟨V, hV⟩ : ∃ z, w3.setCell ⟨wp.heap.size, 4, none⟩ (.slice (some ⟨g3, 0, none⟩) (nl + 1) c3) = z := ⟨_, rfl⟩
        have hgV : w3.grownBy V (some wp.heap.size) := by rw [← hV]; exact gb_setCell (gb_refl _ _) _ _
        have htV : ∀ q, some wp.heap.size = some q → TypB w3 q 31 := fun q e => by injection e with e; subst e; exact hm3.typ
        have htaV : TabsAt V b0 (.slice bA m.tables.length bc) m.tables := hta3.gbT hgV (by
          obtain ⟨A0, c0, vs, e0, e1, -⟩ := hta3
          exact own_blk_ne e1 hm3 (by decide)) htV (by decide)
        have hmV : Blk V wp.heap.size 31 [.slice tA T tc, .slice fA nf fc, .slice bA m.tables.length bc, .slice dA m.data.length dc, .slice (some ⟨g3, 0, none⟩) (nl + 1) c3, .int .i64 m.entry] := by rw [← hV]; exact (show Blk w3 wp.heap.size _ _ from hm3).set 4 _
        have e4 : (badM m 5 K).lines.length = nl + 1 := by show (m.lines ++ [((m.text.length : Int) + (K : Int), (1 : Int))]).length = _; rw [List.length_append, HNL.out]; rfl
        have ed : linesV m.lines ++ [.int .i64 ((T : Int) + (K : Int)), .int .i64 1] = linesV (badM m 5 K).lines := by
          show _ = linesV (m.lines ++ [((m.text.length : Int) + (K : Int), (1 : Int))])
          rw [HTE.out]
          simp [linesV, lineV]
        rw [ed] at ho3
        have HIV : Hid (ImgRd V V.heap.size (badM m 5 K) ⟨tA, tc, fA, fc, bA, bc, dA, dc, some ⟨g3, 0, none⟩, c3⟩) := Lib.hid ⟨own_rdg (own_keepT (own_keepT hO1.tx hgr3 hty3 (by decide)) hgV htV (by decide)), own_rdg (own_keepT (own_keepT hO1.fn hgr3 hty3 (by decide)) hgV htV (by decide)), htaV.rdt, own_rdg (own_keepT (own_keepT hO1.dt hgr3 hty3 (by decide)) hgV htV (by decide)), own_rdg (own_keepT ho3 hgV htV (by decide))⟩
        have hc3 := own_capG ho3
        have HKV : Hid (ImgOk (badM m 5 K) ⟨tA, tc, fA, fc, bA, bc, dA, dc, some ⟨g3, 0, none⟩, c3⟩) := Lib.hid (by
          have h := HOK.out
          refine ⟨h.tl, h.fl, h.bl, h.dl, by rw [e4]; omega, h.tc, h.fc, h.bc, h.dc, by rw [e4]; exact hc3, h.tb, h.fb, h.bb, h.db, fun x hx => ?_, h.eb⟩
          have hx' : x ∈ m.lines ++ [((m.text.length : Int) + (K : Int), (1 : Int))] := hx
          rcases List.mem_append.1 hx' with hx' | hx'
          · exact h.lb x hx'
          · rw [List.mem_singleton] at hx'
            subst hx'
            rw [HTE.out]
            exact ⟨by unfold N64; simp only; omega, by unfold N64; simp only; omega⟩)
        have HMV : Hid (Blk V wp.heap.size 31 [.slice tA (badM m 5 K).text.length tc, .slice fA (badM m 5 K).funcs.length fc, .slice bA (badM m 5 K).tables.length bc, .slice dA (badM m 5 K).data.length dc, .slice (some ⟨g3, 0, none⟩) (badM m 5 K).lines.length c3, .int .i64 (badM m 5 K).entry]) := Lib.hid (by
          have e0 : (badM m 5 K).text.length = T := HTE.out
          have e1 : (badM m 5 K).funcs.length = nf := HNF.out
          rw [e0, e1, e4]
          exact hmV)
        have hb3 : Below w.heap.size w w3 := (HWX.out.trans (hal.mono HWX.out.size)).trans (gb_below_of hgr3 (fun q hq => (World.ownsRow.lt HLN.out q hq).1) (by have := HWX.out.size; simp; omega))
        have HBV : Hid (Below w.heap.size w V) := Lib.hid (hb3.trans (gb_to_below hgV hbp hb3.size))
        have r4 := hm3.cell 4 rfl
        have rf4 := hm3.free 4
        have rl := hm3.lt
        rw [HNL.out] at r4
        clear ho3 hgr3 hat3 hlt3 hal hO1 hty3 hm3 hb0 hta hdq hta3 hgV htV htaV hmV e4 ed hc3 hb3 y4 yf4
        go_wp2_with fail
        go_meet
        exact ⟨badM m 5 K, ⟨tA, tc, fA, fc, bA, bc, dA, dc, some ⟨g3, 0, none⟩, c3⟩, rfl, HMV, HIV, HKV, HCHK, HBV⟩
    · skip
      obtain ⟨f0, r, hfr⟩ : ∃ f0 r, m.funcs = f0 :: r := by
        cases h : m.funcs with
        | nil =>
          have h2 := HNF.out
          rw [h] at h2
          simp at h2
          omega
        | cons a t => exact ⟨a, t, rfl⟩
      have hfn0 := HOX.out.fn
      simp only [HNF.out] at hfn0
      obtain ⟨fb, rfl⟩ := own_ptr hfn0 (by omega)
      have hc0 : (funcsV m.funcs)[0]? = some (.string f0.name) := by rw [hfr]; rfl
      obtain ⟨x_c, x_f, x_l⟩ := own_cellf hfn0 hc0

      obtain ⟨hst, hgst⟩ := hfn0.stored 0 (.string ⟨#[65]⟩)
      obtain ⟨V, hV⟩ : ∃ z, X.setCell ⟨fb, 0, none⟩ (.string ⟨#[65]⟩) = z := ⟨_, rfl⟩
      rw [hV] at hst hgst
      have hL' : (funcsV m.funcs).set 0 (.string ⟨#[65]⟩) = funcsV (fst0 (fun f => { f with name := ⟨#[65]⟩ }) m.funcs) := by rw [hfr]; rfl
      have hlen : (fst0 (fun f => { f with name := ⟨#[65]⟩ }) m.funcs).length = nf := by rw [fst0_len]; exact HNF.out
      rw [hL'] at hst
      have hOV := HOX.out.setFn (w' := V) (L' := fst0 (fun f => { f with name := ⟨#[65]⟩ }) m.funcs) (A' := some ⟨fb, 0, none⟩) (c' := fc) (n := nf) (by simp only [HNF.out]; exact hgst) hst hlen (by rw [hfr]; simp)
      have hmV : Blk V wp.heap.size 31 [.slice tA T tc, .slice (some ⟨fb, 0, none⟩) nf fc, .slice bA m.tables.length bc, .slice dA m.data.length dc, .slice lA m.lines.length lc, .int .i64 m.entry] := HM1.out.gb hgst (fun e => by
        rcases own_blk_ne hfn0 HM1.out (by decide) with h | h
        · cases h
        · exact h e)
      have HBV : Hid (Below w.heap.size w V) := Lib.hid (HWX.out.trans (gb_to_below hgst (World.ownsRow.lt hfn0 fb rfl).1 HWX.out.size))
      have HIV : Hid (ImgRd V V.heap.size (badM m 6 K) ⟨tA, tc, some ⟨fb, 0, none⟩, fc, bA, bc, dA, dc, lA, lc⟩) := Lib.hid hOV.rd
      have HKV : Hid (ImgOk (badM m 6 K) ⟨tA, tc, some ⟨fb, 0, none⟩, fc, bA, bc, dA, dc, lA, lc⟩) := Lib.hid (by
        have h := HOK.out
        have hf0 := h.fb f0 (by rw [hfr]; simp)
        refine ⟨h.tl, by show (fst0 (fun f => { f with name := ⟨#[65]⟩ }) m.funcs).length ≤ _; rw [hlen]; omega, h.bl, h.dl, h.ll, h.tc, by show (fst0 (fun f => { f with name := ⟨#[65]⟩ }) m.funcs).length ≤ fc; rw [hlen, ← HNF.out]; exact h.fc, h.bc, h.dc, h.lc, h.tb, fun f hf => ?_, h.bb, h.db, h.lb, h.eb⟩
        have hf' : f ∈ fst0 (fun f => { f with name := ⟨#[65]⟩ }) m.funcs := hf
        rw [hfr] at hf'
        rcases List.mem_cons.1 hf' with rfl | hf'
        · exact ⟨hf0.1, hf0.2.1, by show (1 : Nat) ≤ 140737488355328; decide⟩
        · exact h.fb f (by rw [hfr]; simp [hf']))
      have HMV : Hid (Blk V wp.heap.size 31 [.slice tA (badM m 6 K).text.length tc, .slice (some ⟨fb, 0, none⟩) (badM m 6 K).funcs.length fc, .slice bA (badM m 6 K).tables.length bc, .slice dA (badM m 6 K).data.length dc, .slice lA (badM m 6 K).lines.length lc, .int .i64 (badM m 6 K).entry]) := Lib.hid (by
        have e0 : (badM m 6 K).text.length = T := HTE.out
        have e1 : (badM m 6 K).funcs.length = nf := hlen
        rw [e0, e1]
        exact hmV)
      have hnfI : (0 : Int) < (nf : Int) := by omega
      clear hfn0 hc0 hst hgst hL' hlen hOV hmV hfr
      go_wp2
      go_meet
      exact ⟨badM m 6 K, ⟨tA, tc, some ⟨fb, 0, none⟩, fc, bA, bc, dA, dc, lA, lc⟩, rfl, HMV, HIV, HKV, HCHK, HBV⟩
    · skip
      have htx := HOX.out.tx
      simp only [HTE.out] at htx
      have HTX := Lib.hid htx
      clear htx
      go_wp2_with (first | (at_builtin; refine app_zeros rfl _ _ rfl w.heap.size _ m.text rfl HTX.out K rfl (by omega) (by rw [HTE.out]; omega) (by omega) ?a7))
      case a7 =>
        intro g5 c5 w3 ho3 hgr3 hat3 hlt3
        simp only [HTE.out] at ho3 ⊢
        have hone : (Value.slice tA T tc).ownBlock ≠ some wp.heap.size := fun e => by
          rcases own_blk_ne HTX.out HM1.out (by decide) with h | h
          · rw [h] at e; cases e
          · exact h e
        have hm3 := HM1.out.gb hgr3 hone
        have r0 := hm3.cell 0 rfl
        have rf0 := hm3.free 0
        have rl := hm3.lt
        have hO3 := HOX.out.setTx (L' := m.text ++ List.replicate K 0) (n := T + K) (by simp only [HTE.out]; exact hgr3) ho3 (by rw [List.length_append, HTE.out, List.length_replicate]) (by
          intro e
          have h : m.text.length = 0 := by rw [show m.text = [] from e]; rfl
          rw [HTE.out] at h
          omega)
        have hb3 : Below w.heap.size w w3 := HWX.out.trans (gb_below_of hgr3 (fun q hq => (World.ownsRow.lt HTX.out q hq).1) HWX.out.size)
        obtain ⟨V, hV⟩ : ∃ z, w3.setCell ⟨wp.heap.size, 0, none⟩ (.slice (some ⟨g5, 0, none⟩) (T + K) c5) = z := ⟨_, rfl⟩
        have hgV : w3.grownBy V (some wp.heap.size) := by rw [← hV]; exact gb_setCell (gb_refl _ _) _ _
        have hmV : Blk V wp.heap.size 31 [.slice (some ⟨g5, 0, none⟩) (T + K) c5, .slice fA nf fc, .slice bA m.tables.length bc, .slice dA m.data.length dc, .slice lA m.lines.length lc, .int .i64 m.entry] := by rw [← hV]; exact hm3.set 0 _
        have hOV := hO3.blk hm3 hgV (by intro x e; cases e) (by decide)
        have HBV : Hid (Below w.heap.size w V) := Lib.hid (hb3.trans (gb_to_below hgV hbp hb3.size))
        have HIV : Hid (ImgRd V V.heap.size (badM m 7 K) ⟨some ⟨g5, 0, none⟩, c5, fA, fc, bA, bc, dA, dc, lA, lc⟩) := Lib.hid hOV.rd
        have e0 : (badM m 7 K).text.length = T + K := by show (m.text ++ List.replicate K 0).length = _; rw [List.length_append, HTE.out, List.length_replicate]
        have hcap : T + K ≤ c5 := by
          have h := ho3
          unfold OwnB at h
          simp only [List.length_append, List.length_replicate, HTE.out] at h
          exact own_capG h
        have HKV : Hid (ImgOk (badM m 7 K) ⟨some ⟨g5, 0, none⟩, c5, fA, fc, bA, bc, dA, dc, lA, lc⟩) := Lib.hid (by
          have h := HOK.out
          refine ⟨by rw [e0]; omega, h.fl, h.bl, h.dl, h.ll, by rw [e0]; exact hcap, h.fc, h.bc, h.dc, h.lc, fun x hx => ?_, h.fb, h.bb, h.db, h.lb, h.eb⟩
          have hx' : x ∈ m.text ++ List.replicate K 0 := hx
          rcases List.mem_append.1 hx' with hx' | hx'
          · exact h.tb x hx'
          · rw [List.mem_replicate] at hx'
            omega)
        have HMV : Hid (Blk V wp.heap.size 31 [.slice (some ⟨g5, 0, none⟩) (badM m 7 K).text.length c5, .slice fA (badM m 7 K).funcs.length fc, .slice bA (badM m 7 K).tables.length bc, .slice dA (badM m 7 K).data.length dc, .slice lA (badM m 7 K).lines.length lc, .int .i64 (badM m 7 K).entry]) := Lib.hid (by
          have e1 : (badM m 7 K).funcs.length = nf := HNF.out
          rw [e0, e1]
          exact hmV)
        clear ho3 hgr3 hat3 hlt3 hone hm3 hO3 hb3 hgV hmV hOV e0 hcap y0 yf0
        go_wp2_with fail
        go_meet
        exact ⟨badM m 7 K, ⟨some ⟨g5, 0, none⟩, c5, fA, fc, bA, bc, dA, dc, lA, lc⟩, rfl, HMV, HIV, HKV, HCHK, HBV⟩
    · skip
      obtain ⟨i0, hi0, hz0, hz1, hz2⟩ := info_parts infoI64B
      obtain ⟨W1, hmk, how, hg1⟩ := run_makeSlice_full (P := Tryd.prog) X w.heap.size 28 3 i0 (.int .i64 0) 1 Tryd.underlying28 hi0 hz0 hz1 .i64 .i64 (64 + K) (by omega) (by rw [hz2]; omega) (by unfold maxLen; omega) HWX.out.size
      have ecast : (((64 + K : Nat)) : Int) = 64 + (K : Int) := by omega
      rw [ecast] at hmk
      rw [show (Value.int .i64 0).cells = #[Value.int .i64 0] from rfl, Nat.mul_one, toList_madeCells_one] at how
      have hz : List.replicate (64 + K) (Value.int .i64 0) = intsV .i64 (List.replicate (64 + K) 0) := by unfold intsV; rw [List.map_replicate]
      rw [hz] at how
      have hbX1 : Below X.heap.size X W1 := gb_to_none hg1
      have hm3 := HM1.out.keep hbX1
      have hO3 := HOX.out.keep hbX1
      obtain ⟨V, hV⟩ : ∃ z, W1.setCell ⟨wp.heap.size, 3, none⟩ (.slice (some ⟨X.heap.size, 0, none⟩) (64 + K) (64 + K)) = z := ⟨_, rfl⟩
      have hgV : W1.grownBy V (some wp.heap.size) := by rw [← hV]; exact gb_setCell (gb_refl _ _) _ _
      have htV : ∀ q, some wp.heap.size = some q → TypB W1 q 31 := fun q e => by injection e with e; subst e; exact hm3.typ
      have hmV : Blk V wp.heap.size 31 [.slice tA T tc, .slice fA nf fc, .slice bA m.tables.length bc, .slice (some ⟨X.heap.size, 0, none⟩) (64 + K) (64 + K), .slice lA m.lines.length lc, .int .i64 m.entry] := by rw [← hV]; exact hm3.set 3 _
      have hrd := (hO3.blk hm3 hgV (by intro x e; cases e) (by decide)).rd
      have HIV : Hid (ImgRd V V.heap.size (badM m 8 K) ⟨tA, tc, fA, fc, bA, bc, some ⟨X.heap.size, 0, none⟩, 64 + K, lA, lc⟩) := Lib.hid ⟨hrd.text, hrd.funcs, hrd.tables, own_rdg (own_keepT how hgV htV (by decide)), hrd.lines⟩
      have e3 : (badM m 8 K).data.length = 64 + K := by show (List.replicate (64 + K) (0 : Int)).length = _; rw [List.length_replicate]
      have HKV : Hid (ImgOk (badM m 8 K) ⟨tA, tc, fA, fc, bA, bc, some ⟨X.heap.size, 0, none⟩, 64 + K, lA, lc⟩) := Lib.hid (by
        have h := HOK.out
        refine ⟨h.tl, h.fl, h.bl, by rw [e3]; omega, h.ll, h.tc, h.fc, h.bc, by rw [e3]; exact Nat.le_refl _, h.lc, h.tb, h.fb, h.bb, fun x hx => ?_, h.lb, h.eb⟩
        have hx' : x ∈ List.replicate (64 + K) (0 : Int) := hx
        rw [List.mem_replicate] at hx'
        unfold N64
        omega)
      have HMV : Hid (Blk V wp.heap.size 31 [.slice tA (badM m 8 K).text.length tc, .slice fA (badM m 8 K).funcs.length fc, .slice bA (badM m 8 K).tables.length bc, .slice (some ⟨X.heap.size, 0, none⟩) (badM m 8 K).data.length (64 + K), .slice lA (badM m 8 K).lines.length lc, .int .i64 (badM m 8 K).entry]) := Lib.hid (by
        have e0 : (badM m 8 K).text.length = T := HTE.out
        have e1 : (badM m 8 K).funcs.length = nf := HNF.out
        rw [e0, e1, e3]
        exact hmV)
      have HBV : Hid (Below w.heap.size w V) := Lib.hid ((HWX.out.trans (hbX1.mono HWX.out.size)).trans (gb_to_below hgV hbp (by have := HWX.out.size; have := hbX1.size; omega)))
      have q3 := hm3.cell 3 rfl
      have qf3 := hm3.free 3
      have ql := hm3.lt
      clear how hg1 hbX1 hm3 hO3 hgV htV hmV hrd e3 hz ecast hi0 hz0 hz1 hz2
      go_wp2
      go_meet
      exact ⟨badM m 8 K, ⟨tA, tc, fA, fc, bA, bc, some ⟨X.heap.size, 0, none⟩, 64 + K, lA, lc⟩, rfl, HMV, HIV, HKV, HCHK, HBV⟩
  case rest =>
    obtain ⟨m', ⟨tA', tc', fA', fc', bA', bc', dA', dc', lA', lc'⟩, rfl, HMx, HIx, HOx, HCx, HBx⟩ := hcut
    have hw0 : badW jj ≠ 0 := by
      have h9 : jj = 0 ∨ jj = 1 ∨ jj = 2 ∨ jj = 3 ∨ jj = 4 ∨ jj = 5 ∨ jj = 6 ∨ jj = 7 ∨ jj = 8 := by omega
      rcases h9 with rfl | rfl | rfl | rfl | rfl | rfl | rfl | rfl | rfl <;> decide
    obtain ⟨E, hE⟩ : ∃ q, badW jj = q := ⟨_, rfl⟩
    rw [hE] at HCx hw0 ⊢
    have HW0 := Lib.hid hw0
    have HCE : Hid (checkE m' ≠ 0) := Lib.hid (by rw [HCx.out]; exact hw0)
    have hmv : m'.val ⟨tA', tc', fA', fc', bA', bc', dA', dc', lA', lc'⟩ = #[.slice tA' m'.text.length tc', .slice fA' m'.funcs.length fc', .slice bA' m'.tables.length bc', .slice dA' m'.data.length dc', .slice lA' m'.lines.length lc', .int .i64 m'.entry] := rfl
    have HEN : Hid (∀ W, Below wc.heap.size wc W → Calls Tryd.prog 26 #[.agg #[.slice tA' m'.text.length tc', .slice fA' m'.funcs.length fc', .slice bA' m'.tables.length bc', .slice dA' m'.data.length dc', .slice lA' m'.lines.length lc', .int .i64 m'.entry]] W fun e w' => e = .returned (.tuple #[.slice none 0 0, .int .i64 E]) ∧ Below W.heap.size W w') := Lib.hid fun W hW => by
      have h := imgEncode_any m' ⟨tA', tc', fA', fc', bA', bc', dA', dc', lA', lc'⟩ W ((HIx.out.below hW).more hW.size) HOx.out
      rw [hmv] at h
      refine h.mono ?_
      rintro e w' ⟨h1, h2, -⟩
      refine ⟨?_, h1⟩
      rw [h2 HCE.out, HCx.out]
    have HRN : Hid (∀ W, Below wc.heap.size wc W → Calls Tryd.prog 15 #[.agg #[.slice tA' m'.text.length tc', .slice fA' m'.funcs.length fc', .slice bA' m'.tables.length bc', .slice dA' m'.data.length dc', .slice lA' m'.lines.length lc', .int .i64 m'.entry], .slice none 0 0, .int .i64 10] W fun e w' => e = .returned (.tuple #[.agg #[.slice none 0 0, .int .i64 0, .int .i64 0, .int .i64 0], .int .i64 E]) ∧ Below W.heap.size W w') := Lib.hid fun W hW => by
      have h := run_any m' ⟨tA', tc', fA', fc', bA', bc', dA', dc', lA', lc'⟩ none 0 [] 10 W (HT.out.below (HBx.out.trans (hW.mono HBx.out.size))) ((HIx.out.below hW).more hW.size) HOx.out (RdG.nil _ _ _) (Nat.le_refl _) (by simp) (by unfold N64; omega) (by simp)
      rw [hmv] at h
      refine h.mono ?_
      rintro e w' ⟨h1, h2, -⟩
      have hre : runE m' [] 10 = E := by
        unfold runE
        rw [if_pos HCE.out, HCx.out]
      refine ⟨?_, h1⟩
      rw [hre] at h2
      exact h2 HW0.out
    have HRC : Hid (∀ W, Below wc.heap.size wc W → Calls Tryd.prog 16 #[.agg #[.slice tA' m'.text.length tc', .slice fA' m'.funcs.length fc', .slice bA' m'.tables.length bc', .slice dA' m'.data.length dc', .slice lA' m'.lines.length lc', .int .i64 m'.entry]] W (BadPost W E)) := Lib.hid fun W hW => by
      have hre : recE m' = E := by rw [recE_C HCE.out, HCx.out]
      have h := rec_bad m' ⟨tA', tc', fA', fc', bA', bc', dA', dc', lA', lc'⟩ W (HT.out.below (HBx.out.trans (hW.mono HBx.out.size))) ((HIx.out.below hW).more hW.size) HOx.out (by rw [hre]; exact HW0.out)
      rw [hmv, hre] at h
      exact h
    have HCH : Hid (∀ W, Below wc.heap.size wc W → Calls Tryd.prog 27 #[.agg #[.slice tA' m'.text.length tc', .slice fA' m'.funcs.length fc', .slice bA' m'.tables.length bc', .slice dA' m'.data.length dc', .slice lA' m'.lines.length lc', .int .i64 m'.entry]] W fun e w' => e = .returned (.int .i64 E) ∧ Below W.heap.size W w') := Lib.hid fun W hW => by
      have h := imgCheck_any m' ⟨tA', tc', fA', fc', bA', bc', dA', dc', lA', lc'⟩ W ((HIx.out.below hW).more hW.size) HOx.out
      rw [HCx.out, hmv] at h
      exact h
    clear hE hw0 hmv hj9
    have hmx := HMx.out
    simp only at hmx
    have HMY := Lib.hid hmx
    have m0 := hmx.cell 0 rfl
    have m1 := hmx.cell 1 rfl
    have m2 := hmx.cell 2 rfl
    have m3 := hmx.cell 3 rfl
    have m4 := hmx.cell 4 rfl
    have m5 := hmx.cell 5 rfl
    have ml := hmx.lt
    clear hmx
    go_wp2_with fail
    refine (HEN.out wc (Below.refl _ _)).mono ?_
    rintro e w2 ⟨rfl, hb2⟩
    have HB2 := Lib.hid hb2
    clear hb2 m0 m1 m2 m3 m4 m5 ml
    have hmx := HMY.out.keep HB2.out
    have m0 := hmx.cell 0 rfl
    have m1 := hmx.cell 1 rfl
    have m2 := hmx.cell 2 rfl
    have m3 := hmx.cell 3 rfl
    have m4 := hmx.cell 4 rfl
    have m5 := hmx.cell 5 rfl
    have ml := hmx.lt
    clear hmx
    go_upto_region 28 with fail
    go_wp2_with fail
    refine (HRN.out w2 HB2.out).mono ?_
    rintro e w3 ⟨rfl, hb3⟩
    have HB3 := Lib.hid (HB2.out.trans (hb3.mono HB2.out.size))
    clear hb3 m0 m1 m2 m3 m4 m5 ml
    go_upto_region 29 with fail
    have hal3 : Below w3.heap.size w3 (w3.alloc (.cells #[.slice none 0 0, .int .i64 0, .int .i64 0, .int .i64 0] 33)) := (Below.refl _ _).alloc (Nat.le_refl _) _
    obtain ⟨W4, hW4⟩ : ∃ q, w3.alloc (.cells #[.slice none 0 0, .int .i64 0, .int .i64 0, .int .i64 0] 33) = q := ⟨_, rfl⟩
    rw [hW4] at hal3 ⊢
    have HB4 := Lib.hid (HB3.out.trans (hal3.mono HB3.out.size))
    have hmx := HMY.out.keep HB4.out
    have m0 := hmx.cell 0 rfl
    have m1 := hmx.cell 1 rfl
    have m2 := hmx.cell 2 rfl
    have m3 := hmx.cell 3 rfl
    have m4 := hmx.cell 4 rfl
    have m5 := hmx.cell 5 rfl
    have ml := hmx.lt
    clear hmx hW4 hal3
    go_wp2_with fail
    refine (HRC.out W4 HB4.out).mono ?_
    rintro e w5 ⟨rfl, hb5⟩
    have HB5 := Lib.hid (HB4.out.trans (hb5.mono HB4.out.size))
    clear hb5 m0 m1 m2 m3 m4 m5 ml
    go_upto_region 30 with fail
    have hal5 : Below w5.heap.size w5 (w5.alloc (.cells #[.slice none 0 0, .slice none 0 0, .slice none 0 0] 39)) := (Below.refl _ _).alloc (Nat.le_refl _) _
    obtain ⟨W6, hW6⟩ : ∃ q, w5.alloc (.cells #[.slice none 0 0, .slice none 0 0, .slice none 0 0] 39) = q := ⟨_, rfl⟩
    rw [hW6] at hal5 ⊢
    have HB6 := Lib.hid (HB5.out.trans (hal5.mono HB5.out.size))
    have hmx := HMY.out.keep HB6.out
    have m0 := hmx.cell 0 rfl
    have m1 := hmx.cell 1 rfl
    have m2 := hmx.cell 2 rfl
    have m3 := hmx.cell 3 rfl
    have m4 := hmx.cell 4 rfl
    have m5 := hmx.cell 5 rfl
    have ml := hmx.lt
    clear hmx hW6 hal5
    go_wp2_with fail
    refine (HCH.out W6 HB6.out).mono ?_
    rintro e w7 ⟨rfl, hb7⟩
    have HB7 := Lib.hid (HBx.out.trans ((HB6.out.trans (hb7.mono HB6.out.size)).mono HBx.out.size))
    clear hb7 m0 m1 m2 m3 m4 m5 ml
    go_wp2_with fail
    go_ret
    exact ⟨rfl, HB7.out⟩
set_option maxRecDepth 100000 in
theorem imageBad_contract (H : Type) (enc : TypeId × Value → H) (W : World) (base : Nat) (args : Array Value) (ds gs : List (DataW H)) (before : List MemPlace)
    (hval : ∀ (j : Nat) t v, Tryd.f9.params[j]? = some t → args[j]? = some v → Value.okWide Tryd.prog W .any base t v)
    (hW : DataW.Whole enc Tryd.prog Tryd.f9.params.toList Rows.imageBadSpec.vars false W args.toList ds gs before) (hL : laidMetH Tryd.prog Rows.imageBadRow.laid W)
    (hz : (DataW.weightsEach Tryd.prog (Tryd.f9.params.toList ++ (OpenSpec.ofChange Rows.imageBadSpec).bare.plain.varTypes Tryd.prog) (ds ++ gs)).all (· ≤ reachBytes) = true) :
    Calls Tryd.prog 9 args W fun e W' => ∃ v, e = .returned v ∧ Rows.imageBadSpec.post enc Tryd.prog Tryd.f9 false true false false W args v W' := by
  have hT : Tabs W := tabs_of_laid5 hL
  have hW0 := hW
  obtain ⟨p, q, hA0, hV, rfl, hfz, hnd⟩ := hW
  have hA : DataW.TrodAll enc Tryd.prog W 0 (fun _ => true) true Tryd.f9.params.toList args.toList ds p := hA0
  rw [Tryd.params9] at hA hval
  obtain ⟨v0, vs0, d0, ds0, p0, q0, hargs, rfl, rfl, h0, r0⟩ := trodAll_cons hA
  obtain ⟨v1, vs1, d1, ds1, p1, q1, rfl, rfl, rfl, h1, r1⟩ := trodAll_cons r0
  obtain ⟨v2, vs2, d2, ds2, p2, q2, rfl, rfl, rfl, h2, r2⟩ := trodAll_cons r1
  obtain ⟨rfl, rfl, rfl⟩ := trodAll_nil r2
  obtain rfl : args = #[v0, v1, v2] := by cases args; simp_all
  obtain ⟨rfl, rfl⟩ := trodVars_none hV
  clear hA0
  obtain ⟨A, cap, L, rfl, hcap, hcm, hR, hd⟩ := open_raws (hval 0 43 v0 rfl rfl) h0
  obtain ⟨n, rfl, rfl, rfl, wn⟩ := open_int Tryd.underlying3 (hval 1 3 v1 rfl rfl) h1
  obtain ⟨n2, rfl, rfl, rfl, wn2⟩ := open_int Tryd.underlying3 (hval 2 3 v2 rfl rfl) h2
  have hL : L.length ≤ 140737488355328 := by
    rcases hd with ⟨-, rfl, -⟩ | ⟨elems, spare, rfl, hl⟩
    · exact Nat.zero_le _
    · have h1 := sized_slice hz (j := 0) (t := 43) (by rw [Tryd.params9]; rfl) rfl Tryd.underlying43
      have h2 : Tryd.prog.bytesOf 76 = 32 := by kernel_rfl
      have h3 := reachBytes_lt
      rw [h2, hl] at h1
      omega
  refine (imageBad_walk L A cap n n2 (i64_of_wf wn) (i64_of_wf wn2) W hT hR hL hcap).mono fun e W' ⟨he, hb⟩ => ?_
  subst he
  exact ⟨_, rfl, law_post hW0 rfl rfl (by kernel_rfl) (by kernel_rfl) hb⟩
set_option maxRecDepth 100000 in
theorem imageBad_met (os : Os) : laidMet Tryd.prog Rows.imageBadRow.laid ((laidWorld5 os).forCall (fun _ _ => 0) ⟨#[], #[.slice none 0 0, .int .i64 0, .int .i64 0], []⟩).memory :=
  laidMet_of_run' 8 (by kernel_rfl) (by kernel_rfl)
set_option maxRecDepth 100000 in
theorem imageBad_reads (os : Os) {H : Type} (enc : TypeId × Value → H) : ∃ places, DataW.whole enc Tryd.prog ((laidWorld5 os).forCall (fun _ _ => 0) ⟨#[], #[.slice none 0 0, .int .i64 0, .int .i64 0], []⟩).memory Tryd.f9.params.toList Rows.imageBadSpec.vars false (#[.slice none 0 0, .int .i64 0, .int .i64 0] : Array Value).toList 8 = some ([.nil, .lit (.int .i64 0), .lit (.int .i64 0)], [], places) :=
  ⟨[], by kernel_rfl⟩
set_option maxRecDepth 100000 in
theorem imageBad_lifted (os : Os) (started : os.Started) (H : Type) (enc : TypeId × Value → H) (F : Stop.Interp) :
    ReturnsInHanded {} Tryd.checked os 9 .any ((OpenSpec.ofChange Rows.imageBadSpec).preRow enc Tryd.prog Tryd.f9 Rows.imageBadRow.domain false Rows.imageBadRow.laid) (((OpenSpec.ofChange Rows.imageBadSpec).at F).post enc Tryd.prog Tryd.f9 false true false false) := by
  obtain ⟨places, hx⟩ := imageBad_reads os enc
  refine returnsInHanded_of_row (C := Tryd.checked) (s := OpenSpec.ofChange Rows.imageBadSpec) ownP started (by kernel_rfl) Tryd.func9
    (witness_row_at (enc := enc) (C := Tryd.checked) false (laidWorld5 os) #[.slice none 0 0, .int .i64 0, .int .i64 0] rfl (by kernel_rfl) (by kernel_rfl) (by kernel_rfl)
      (OpenSpec.preRow_of_cond 8 hx (by kernel_rfl) (fun k hk => by cases hk) (by kernel_rfl) (imageBad_met os))) ?_
  intro W base args ds gs before hval hW _ _ hreach hL _ _
  exact imageBad_contract H enc W base args ds gs before hval hW hL hreach
set_option maxRecDepth 100000 in
theorem imageBad_said : Rows.ImageBadSaid :=
  OpenClaim.holds_of_cond 9 Tryd.f9 rfl rfl rfl rfl rfl rfl rfl ⟨rfl, rfl, rfl, rfl, rfl⟩ rfl rfl rfl rfl rfl (by kernel_rfl) Tryd.func9 (by kernel_rfl)
    (of_decide_eq_true (by kernel_rfl)) (by unfold Func.isWrapper; first | (rw [if_pos (by decide +kernel)]; kernel_rfl) | (rw [if_neg (by decide +kernel)]; exact ⟨rfl, rfl⟩))
    (fun os started H enc _ F => by rw [OpenClaim.pre_eq_preRow]; exact imageBad_lifted os started H enc F)
set_option maxRecDepth 100000 in
theorem imageBad_plain (f : FuncId) (fn : Func) (hf : Tryd.pinned.checked.prog.funcNamed "bolthole/boltholekeep.ImageBad" = some f) (hfn : Tryd.pinned.checked.prog.funcs[f]? = some fn) :
    ∀ (j : Nat) t, fn.params[j]? = some t → Tryd.pinned.checked.prog.wantsStandIn t = false := by
  obtain rfl : f = 9 := Option.some.inj ((show Tryd.prog.funcNamed "bolthole/boltholekeep.ImageBad" = some 9 by kernel_rfl).symm.trans hf) |>.symm
  obtain rfl : fn = Tryd.f9 := (Option.some.inj (Tryd.func9.symm.trans hfn)).symm
  intro j t ht
  have hall : ∀ t ∈ Tryd.f9.params, Tryd.prog.wantsStandIn t = false := by
    rw [Tryd.params9]
    intro t ht
    simp only [List.mem_toArray, List.mem_cons, List.not_mem_nil, or_false] at ht
    rcases ht with rfl | rfl | rfl
    all_goals kernel_rfl
  exact hall t (Array.mem_of_getElem? ht)
set_option maxRecDepth 100000 in
theorem imageBad_card : Rows.ImageBadCardSaid :=
  Claim7.holds_tied_plain_at .later [] _ _ _ _ imageBad_said (fun _ h => by cases h) (by kernel_rfl) (fun _ h => by cases h) imageBad_row_tie rfl ⟨rfl, rfl⟩ (by kernel_rfl) rfl (fun f fn hf hfn => ⟨by kernel_rfl, imageBad_plain f fn hf hfn⟩) (by kernel_rfl)
end Go.Proofs.YtlekjnnofhjgjaaDoor
