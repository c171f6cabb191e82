/- The given statement on OrderBad, proved: edges that may not be are refused, and flows that do not fit. No condition of its own. -/
import Derived.Test.YtbdlmafhcgndeaaDoorLawS
import Derived.Test.YtbdlmafhcgndeaaDoorFlwR
import Derived.Test.YtbdlmafhcgndeaaDoorObd
import Derived.Deep.DeepCutAuto
import Derived.Deep.CutBlock
import Derived.Deep.LoopGhost
import Derived.Deep.QuietTactic
import Derived.BigQuiet
import Derived.IntWalk
import Derived.WalkLawsBesides
namespace Go.Proofs.YtbdlmafhcgndeaaDoor
open Go.ChangeShapes Go.WideShapes Go.ChangeAt Go.RowKit Go.Joins
open Go.ChangeMaps (open_string)
set_option maxHeartbeats 8000000 in
set_option maxRecDepth 100000 in
theorem orderBad_walk (l : List RawI) (A : Option Addr) (c : Nat) (n : Int) (hn : N64 n) (w : World) (hT : Tabs w) (hR : RdR w w.heap.size A l) (hl : l.length ≤ 140737488355328) (hc : l.length ≤ c) :
    Calls Tryd.prog 9 #[.slice A l.length c, .int .i64 n] w fun e w' => e = .returned (.bool true) ∧ Below w.heap.size w w' := by
  have HFW := Lib.hid (flowed_any l A c w hT hR hc hl)
  have hk := pickL_bd n 5 (by decide)
  have HPK := Lib.hid (fun W => picked_any n 5 W hn.1 hn.2 (by decide) (by decide))
  obtain ⟨k0, hk0⟩ : ∃ z, pickL n 5 = z := ⟨_, rfl⟩
  rw [hk0] at hk HPK
  obtain ⟨kk, rfl⟩ := Int.eq_ofNat_of_zero_le hk.1
  have hk5 : kk < 5 := by omega
  have hk5I : (kk : Int) < 5 := hk.2
  have HB0 := Lib.hid (Below.refl w.heap.size w)
  obtain ⟨ll, hll⟩ : ∃ z, l.length = z := ⟨_, rfl⟩
  rw [hll] at HFW ⊢
  clear hT hR hl hc hll hn hk hk0
  go_enter Tryd.func9, Tryd.ntmps9
  go_wp2_with fail
  refine HFW.out.mono ?_
  rintro e w1 ⟨hb1, m, v, d, xA, yA, zA, xc, yc, zc, rfl, hst⟩
  obtain ⟨ld, bm, S, gs, hF, hFn⟩ := gen_flow hst.pgm.check hst.rc
  have HB1 := Lib.hid (HB0.out.trans (hb1.mono HB0.out.size))
  have HST := Lib.hid hst
  have HF := Lib.hid hF
  have HFN := Lib.hid hFn
  obtain ⟨tA, tc, fA, fc, bA, bc, dA, dc, lA, lc⟩ := v
  clear hb1 hst hF hFn HFW HB0
  unfold Img.val flowV
  simp only
  obtain ⟨T, hTe⟩ : ∃ z, m.text.length = z := ⟨_, rfl⟩
  obtain ⟨NF, hNF⟩ : ∃ z, m.funcs.length = z := ⟨_, rfl⟩
  obtain ⟨nb, hnb⟩ : ∃ z, m.tables.length = z := ⟨_, rfl⟩
  obtain ⟨nd, hnd⟩ : ∃ z, m.data.length = z := ⟨_, rfl⟩
  obtain ⟨nl, hnl⟩ : ∃ z, m.lines.length = z := ⟨_, rfl⟩
  obtain ⟨NB, hNB⟩ : ∃ z, d.blocks.length = z := ⟨_, rfl⟩
  obtain ⟨nt, hnt⟩ : ∃ z, d.tables.length = z := ⟨_, rfl⟩
  obtain ⟨nz, hnz⟩ : ∃ z, d.firsts.length = z := ⟨_, rfl⟩
  rw [hTe, hNF, hnb, hnd, hnl, hNB, hnt, hnz]
  have HTE := Lib.hid hTe
  have HNF := Lib.hid hNF
  have HN5 := Lib.hid (And.intro hnb (And.intro hnd hnl))
  have HNB := Lib.hid hNB
  have HNT := Lib.hid hnt
  have HNZ := Lib.hid hnz
  clear hTe hNF hnb hnd hnl hNB hnt hnz
  go_upto_region 2 with fail
  obtain ⟨X, hX⟩ : ∃ X, w1.alloc (.cells #[.slice tA T tc, .slice fA NF fc, .slice bA nb bc, .slice dA nd dc, .slice lA nl lc, .int .i64 m.entry] 30) = X := ⟨_, rfl⟩
  rw [hX]
  have hm1 : Blk X w1.heap.size 30 [.slice tA T tc, .slice fA NF fc, .slice bA nb bc, .slice dA nd dc, .slice lA nl lc, .int .i64 m.entry] := by rw [← hX]; exact Blk.new w1 _ _
  have hbX : Below w1.heap.size w1 X := by rw [← hX]; exact (Below.refl _ _).alloc (Nat.le_refl _) _
  have hxs : X.heap.size = w1.heap.size + 1 := by rw [← hX]; simp
  obtain ⟨Y, hY⟩ : ∃ Y, X.alloc (.cells #[.slice xA NB xc, .slice yA nt yc, .slice zA nz zc] 34) = Y := ⟨_, rfl⟩
  rw [hY]
  have hfY : Blk Y (w1.heap.size + 1) 34 [.slice xA NB xc, .slice yA nt yc, .slice zA nz zc] := by rw [← hY, ← hxs]; exact Blk.new X _ _
  have hbY : Below X.heap.size X Y := by rw [← hY]; exact (Below.refl _ _).alloc (Nat.le_refl _) _
  have hmY := hm1.keep hbY
  have hbWY := hbX.trans (hbY.mono hbX.size)
  obtain ⟨BX, hBX⟩ : ∃ z, w1.heap.size = z := ⟨_, rfl⟩
  rw [hBX] at hfY hmY ⊢
  have HFY := Lib.hid hfY
  have HSTY := Lib.hid (HST.out.below hbWY)
  have HWY := Lib.hid (HB1.out.trans (hbWY.mono HB1.out.size))
  have HTXT := Lib.hid HST.out.pgm.text
  have hfew := HF.out.few
  have hNBb : NB ≤ 1600 := (by have h2 := HST.out.pgm.text; have h3 := HNB.out; omega)
  have hNZ3 : 1 ≤ nz ∧ nz ≤ 3 := (by have h2 := HST.out.pgm.fnz; have h3 := HF.out.firsts.1; have h4 := HNZ.out; omega)
  have hNB1 : 1 ≤ NB := by
    have h2 := HST.out.pgm.fnz
    have h3 := HF.out.firsts
    have hz : d.firsts[0]? = some (d.firsts[0]'(by omega)) := List.getElem?_eq_getElem _
    obtain ⟨f, x, r, -, k2, k3, -⟩ := h3.2 0 _ hz
    have := (List.getElem?_eq_some_iff.1 k3).1
    have := HNB.out
    omega
  have f0 := hfY.cell 0 rfl
  have f1 := hfY.cell 1 rfl
  have f2 := hfY.cell 2 rfl
  have fl := hfY.lt
  clear hX hY hm1 hbX hbY hfY hmY hbWY hxs hfew HST hBX
  go_upto_region 4 with fail
  obtain ⟨W7, hW7, hb7, hk7, hs7⟩ := odd_rows NB Y
  rw [hW7]
  clear hW7
  obtain ⟨g5, hg5⟩ : ∃ z, Y.heap.size + 1 + 1 + 1 + 1 + 1 = z := ⟨_, rfl⟩
  rw [hg5] at hk7 ⊢
  obtain ⟨hok, hoc⟩ := hk7 kk hk5
  obtain ⟨el, hel⟩ : ∃ z, (oddE NB kk).length = z := ⟨_, rfl⟩
  rw [hel] at hoc
  have hel2 : el ≤ 2 := by
    rw [← hel]
    have h : kk = 0 ∨ kk = 1 ∨ kk = 2 ∨ kk = 3 ∨ kk = 4 := by omega
    rcases h with rfl | rfl | rfl | rfl | rfl <;> simp [oddE]
  have HEL := Lib.hid hel
  have HOK := Lib.hid hok
  obtain ⟨bo, hbo⟩ : ∃ z, Y.heap.size + kk = z := ⟨_, rfl⟩
  have HBO := Lib.hid hbo
  rw [hbo] at hoc
  have h5l : g5 < W7.heap.size := by omega
  have HG5 := Lib.hid (And.intro hg5 hs7)
  have HF7 := Lib.hid (HFY.out.keep hb7)
  have HB7 := Lib.hid hb7
  clear hk7 hok hel hbo hg5 hs7 hb7 f0 f1 f2 fl
  go_upto_region 5 with fail
  obtain ⟨V, hV⟩ : ∃ z, W7.alloc (.cells #[.int .i64 2, .int .i64 2, .int .i64 2, .int .i64 2, .int .i64 8] 35) = z := ⟨_, rfl⟩
  rw [hV]
  have hrw : Blk V W7.heap.size 35 [.int .i64 2, .int .i64 2, .int .i64 2, .int .i64 2, .int .i64 8] := by rw [← hV]; exact Blk.new W7 _ _
  have hbV : Below W7.heap.size W7 V := by rw [← hV]; exact (Below.refl _ _).alloc (Nat.le_refl _) _
  have hrc : V.cell? ⟨W7.heap.size, kk, none⟩ = some (.int .i64 (oddR kk)) := by
    have h : kk = 0 ∨ kk = 1 ∨ kk = 2 ∨ kk = 3 ∨ kk = 4 := by omega
    rcases h with rfl | rfl | rfl | rfl | rfl
    · exact hrw.cell 0 rfl
    · exact hrw.cell 1 rfl
    · exact hrw.cell 2 rfl
    · exact hrw.cell 3 rfl
    · exact hrw.cell 4 rfl
  have hrl := hrw.lt
  have hocV := (hbV.cell (p := ⟨g5, kk, none⟩) h5l).trans hoc
  have h5V := Nat.lt_of_lt_of_le h5l hbV.size
  have HFV := Lib.hid (HF7.out.keep hbV)
  have HOV := Lib.hid (HOK.out.keep hbV)
  have HBV := Lib.hid (HB7.out.trans (hbV.mono HB7.out.size))
  obtain ⟨g7, hg7⟩ : ∃ z, W7.heap.size = z := ⟨_, rfl⟩
  rw [hg7] at hrc hrl ⊢
  obtain ⟨er, her⟩ : ∃ z, oddR kk = z := ⟨_, rfl⟩
  rw [her] at hrc
  have HER := Lib.hid her
  clear hV hrw hbV hoc h5l hg7 her
  go_wp2_with fail
  refine (HPK.out V).mono ?_
  rintro e V2 ⟨rfl, rfl⟩
  have v0 := HFV.out.cell 0 rfl
  have v1 := HFV.out.cell 1 rfl
  have v2 := HFV.out.cell 2 rfl
  have vl := HFV.out.lt
  have HEDW : Hid (RdG V V.heap.size (some ⟨bo, 0, none⟩) (edgV (oddE NB kk))) := Lib.hid (by
    intro _
    have h := HOV.out
    rw [HBO.out] at h
    exact ⟨bo, 0, rfl, h.lt, fun j u hu => by have := h.cell j hu; simpa using this⟩)
  have HORD : Hid (∀ W, Below V.heap.size V W → Calls Tryd.prog 27 #[.agg #[.slice xA NB xc, .slice yA nt yc, .slice zA nz zc], .slice (some ⟨bo, 0, none⟩) el el] W fun e w' => e = .returned (.tuple #[.slice none 0 0, .int .i64 er]) ∧ Below W.heap.size W w') := Lib.hid fun W hW => by
    have hgo := odd_go (N := NB) (by omega) hk5
    rw [HER.out] at hgo
    have her0 : er ≠ 0 := by
      rw [← HER.out]
      unfold oddR
      split <;> decide
    have h := order_bad d xA yA zA xc yc zc (oddE NB kk) (some ⟨bo, 0, none⟩) el er W ((HSTY.out.flow.below HBV.out).below hW) (by have := HNB.out; omega) (by have := HNZ.out; omega) ((HEDW.out.below hW).more hW.size) (by rw [HEL.out]; exact Nat.le_refl _) (by rw [HEL.out]; omega)
      (.inr ⟨fitE_ok (HF.out.flowFit HFN.out), by rw [HNB.out, hgo]; exact her0, by rw [HNB.out, hgo]⟩)
    unfold flowV at h
    rw [HNB.out, HNT.out, HNZ.out, HEL.out] at h
    exact h
  go_upto_region 6 with fail
  refine wp_region_W (fun w' => w'.cell? ⟨BX + 1, 0, none⟩ = some (.slice xA NB xc) ∧ w'.cell? ⟨BX + 1, 1, none⟩ = some (.slice yA nt yc) ∧ w'.cell? ⟨BX + 1, 2, none⟩ = some (.slice zA nz zc) ∧ w'.cell? ⟨g5, kk, none⟩ = some (.slice (some ⟨bo, 0, none⟩) el el)) 11 (by kernel_rfl) (by (try dsimp only); go_keep) (fun hHeld => ?_)
  refine wpW_take 0 (v := ?_) rfl (by kernel_rfl) (by kernel_rfl) (by kernel_rfl) (by kernel_rfl) (fun _ _ _ h => h) (Or.inl ⟨by rfl, ?_⟩) hHeld ?_
  rotate_left
  · intro w hSw
    try dsimp only at hSw
    go_simp
    try with_reducible rfl
  try simp only [Act.put, List.setIfInBounds_toArray, List.set_cons_zero, List.set_cons_succ]
  refine wpW_take 1 (v := ?_) rfl (by kernel_rfl) (by kernel_rfl) (by kernel_rfl) (by kernel_rfl) (fun _ _ _ h => h) (Or.inl ⟨by rfl, ?_⟩) hHeld ?_
  rotate_left
  · intro w hSw
    try dsimp only at hSw
    go_simp
    try with_reducible rfl
  try simp only [Act.put, List.setIfInBounds_toArray, List.set_cons_zero, List.set_cons_succ]
  refine wpW_take 2 (v := ?_) rfl (by kernel_rfl) (by kernel_rfl) (by kernel_rfl) (by kernel_rfl) (fun _ _ _ h => h) (Or.inl ⟨by rfl, ?_⟩) hHeld ?_
  rotate_left
  · intro w hSw
    try dsimp only at hSw
    go_simp
    try with_reducible rfl
  try simp only [Act.put, List.setIfInBounds_toArray, List.set_cons_zero, List.set_cons_succ]
  refine wpW_take 3 (v := ?_) rfl (by kernel_rfl) (by kernel_rfl) (by kernel_rfl) (by kernel_rfl) (fun _ _ _ h => h) (Or.inl ⟨by rfl, ?_⟩) hHeld ?_
  rotate_left
  · intro w hSw
    try dsimp only at hSw
    go_simp
    try with_reducible rfl
  try simp only [Act.put, List.setIfInBounds_toArray, List.set_cons_zero, List.set_cons_succ]
  refine wpW_take 4 (v := ?_) rfl (by kernel_rfl) (by kernel_rfl) (by kernel_rfl) (by kernel_rfl) (fun _ _ _ h => h) (Or.inl ⟨by rfl, ?_⟩) hHeld ?_
  rotate_left
  · intro w hSw
    try dsimp only at hSw
    go_simp
    try with_reducible rfl
  try simp only [Act.put, List.setIfInBounds_toArray, List.set_cons_zero, List.set_cons_succ]
  refine wpW_one 5 rfl (by kernel_rfl) (fun K hK => ?_)
  go_simp
  refine (HORD.out _ ((Below.refl _ _).drew)).mono ?_
  rintro e w5 ⟨rfl, hb5'⟩
  have hb5 : Below V.heap.size V w5 := ((Below.refl V.heap.size V).drew).trans hb5'
  have x0 : w5.cell? ⟨BX + 1, 0, none⟩ = some (.slice xA NB xc) := (hb5.cell (p := ⟨BX + 1, 0, none⟩) vl).trans v0
  have x1 : w5.cell? ⟨BX + 1, 1, none⟩ = some (.slice yA nt yc) := (hb5.cell (p := ⟨BX + 1, 1, none⟩) vl).trans v1
  have x2 : w5.cell? ⟨BX + 1, 2, none⟩ = some (.slice zA nz zc) := (hb5.cell (p := ⟨BX + 1, 2, none⟩) vl).trans v2
  have x3 : w5.cell? ⟨g5, kk, none⟩ = some (.slice (some ⟨bo, 0, none⟩) el el) := (hb5.cell (p := ⟨g5, kk, none⟩) h5V).trans hocV
  refine hK.out _ _ (by (try dsimp only); exact ⟨x0, x1, x2, x3⟩) (fun hHeld => ?_)
  clear hK K
  try simp only [Act.put, List.setIfInBounds_toArray, List.set_cons_zero, List.set_cons_succ]
  refine wpW_take 6 (v := ?_) rfl (by kernel_rfl) (by kernel_rfl) (by kernel_rfl) (by kernel_rfl) (fun _ _ _ h => h) (Or.inl ⟨by rfl, ?_⟩) hHeld ?_
  rotate_left
  · intro w hSw
    try dsimp only at hSw
    go_simp
    try with_reducible rfl
  try simp only [Act.put, List.setIfInBounds_toArray, List.set_cons_zero, List.set_cons_succ]
  refine wpW_take 7 (v := ?_) rfl (by kernel_rfl) (by kernel_rfl) (by kernel_rfl) (by kernel_rfl) (fun _ _ _ h => h) (Or.inl ⟨by rfl, ?_⟩) hHeld ?_
  rotate_left
  · intro w hSw
    try dsimp only at hSw
    go_simp
    try with_reducible rfl
  try simp only [Act.put, List.setIfInBounds_toArray, List.set_cons_zero, List.set_cons_succ]
  refine wpW_take 8 (v := ?_) rfl (by kernel_rfl) (by kernel_rfl) (by kernel_rfl) (by kernel_rfl) (fun _ _ _ h => h) (Or.inl ⟨by rfl, ?_⟩) hHeld ?_
  rotate_left
  · intro w hSw
    try dsimp only at hSw
    go_simp
    try with_reducible rfl
  try simp only [Act.put, List.setIfInBounds_toArray, List.set_cons_zero, List.set_cons_succ]
  refine wpW_take 9 (v := ?_) rfl (by kernel_rfl) (by kernel_rfl) (by kernel_rfl) (by kernel_rfl) (fun _ _ _ h => h) (Or.inl ⟨by rfl, ?_⟩) hHeld ?_
  rotate_left
  · intro w hSw
    try dsimp only at hSw
    go_simp
    try with_reducible rfl
  try simp only [Act.put, List.setIfInBounds_toArray, List.set_cons_zero, List.set_cons_succ]
  refine wpW_take 10 (v := ?_) rfl (by kernel_rfl) (by kernel_rfl) (by kernel_rfl) (by kernel_rfl) (fun _ _ _ h => h) (Or.inl ⟨by rfl, ?_⟩) hHeld ?_
  rotate_left
  · intro w hSw
    try dsimp only at hSw
    go_simp
    try with_reducible rfl
  try simp only [Act.put, List.setIfInBounds_toArray, List.set_cons_zero, List.set_cons_succ]
  refine wpW_done (by kernel_rfl) ?_ _
  have HB5 := Lib.hid (HBV.out.trans (hb5.mono HBV.out.size))
  have HB5V := Lib.hid hb5
  have HF5 := Lib.hid (HFV.out.keep hb5)
  have HRC := Lib.hid ((hb5.cell (p := ⟨g7, kk, none⟩) hrl).trans hrc)
  have hrl5 := Nat.lt_of_lt_of_le hrl hb5.size
  have HOC5 := Lib.hid x3
  have h55 := Nat.lt_of_lt_of_le h5V hb5.size
  have HL5 := Lib.hid (And.intro hrl5 h55)
  have vl := HF5.out.lt
  clear hb5 hb5' v0 v1 v2 hrc hocV hrl h5V x3 hrl5 h55
  go_upto_region 8 with fail
  obtain ⟨G, hG⟩ : ∃ z, w5.alloc (.cells #[.slice xA NB xc, .slice yA nt yc, .slice zA nz zc] 34) = z := ⟨_, rfl⟩
  rw [hG]
  have hgg : Blk G w5.heap.size 34 [.slice xA NB xc, .slice yA nt yc, .slice zA nz zc] := by rw [← hG]; exact Blk.new w5 _ _
  have hbG : Below w5.heap.size w5 G := by rw [← hG]; exact (Below.refl _ _).alloc (Nat.le_refl _) _
  have HBG := Lib.hid (HB5.out.trans (hbG.mono HB5.out.size))
  have HBG5 := Lib.hid hbG
  have HFG := Lib.hid (HF5.out.keep hbG)
  obtain ⟨g8, hg8⟩ : ∃ z, w5.heap.size = z := ⟨_, rfl⟩
  have hY8 : Y.heap.size ≤ g8 := by rw [← hg8]; exact HB5.out.size
  rw [hg8] at hgg ⊢
  have HGG := Lib.hid (And.intro hgg (And.intro hY8 hg8))
  have hRf : RdG G G.heap.size zA (intsV .i64 d.firsts) := (HSTY.out.flow.below HBG.out).fst.1
  have HCL := Lib.hid (clone_int d.firsts zA nz zc G HNZ.out (fun e => by
    exfalso
    obtain ⟨b, o, h, -⟩ := hRf (by intro h; have h2 := congrArg List.length h; simp [intsV] at h2; have h3 := HNZ.out; rw [h2] at h3; simp at h3; omega)
    rw [e] at h
    cases h) (by omega) hRf)
  have y2 := HFG.out.cell 2 rfl
  have yl := HFG.out.lt
  clear hG hbG hgg hY8 hg8 hRf x0 x1 x2 vl
  go_wp2_with fail
  refine HCL.out.mono ?_
  rintro e w8 ⟨cA, cc, rfl, hb8, ho8⟩
  have HO8 := Lib.hid ho8
  have HB8 := Lib.hid hb8
  have hsz8 := hb8.size
  have HS8 : Hid (G.heap.size ≤ (w8.alloc (.cells #[.int .i64 0] 3)).heap.size) := Lib.hid (by simp; omega)
  clear y2 yl hb8 ho8 hsz8
  go_wp2_with (first | (at_builtin; refine app_one rfl _ _ 27 3 1 8 _ Tryd.underlying27 infoIntNO rfl (by decide) rfl G.heap.size _ nz _ rfl (own_keep HO8.out ((Below.refl _ _).alloc (Nat.le_refl _) _)) w8.heap.size 1 rfl [.int .i64 0] 3 (0, 0) (heap_alloc_new w8 _) rfl (by simp [Value.oneCell']) (by omega) (by omega) HS8.out (w8.heap.size + 1) (by simp) ?a1))
  case a1 =>
    intro g9 c9 w9 ho9 hg9 _ _
    have h8G := HGG.out.1.lt
    have hYG := HBG.out.size
    have hne8 : (Value.slice cA nz cc).ownBlock ≠ some g8 := fun e => by
      have h1 := (World.ownsRow.lt HO8.out g8 e).1
      omega
    have hne9 : (Value.slice (some ⟨g9, 0, none⟩) (nz + 1) c9).ownBlock ≠ some g8 := fun e => by
      have h1 := (World.ownsRow.lt ho9 g8 e).1
      omega
    have hG9 : Blk w9 g8 34 [.slice xA NB xc, .slice yA nt yc, .slice zA nz zc] := ((HGG.out.1.keep HB8.out).alloc _).gb hg9 hne8
    have hb8 := HBG.out.trans (HB8.out.mono HBG.out.size)
    have hb8' : Below Y.heap.size Y (w8.alloc (.cells #[.int .i64 0] 3)) := hb8.alloc hb8.size _
    have hb9 := hb8'.grown hg9 hb8'.size (fun q e => by have h1 := (World.ownsRow.lt HO8.out q e).1; omega)
    have hb85 := HBG5.out.trans (HB8.out.mono HBG5.out.size)
    have hb85' : Below w5.heap.size w5 (w8.alloc (.cells #[.int .i64 0] 3)) := hb85.alloc hb85.size _
    have hb95 := hb85'.grown hg9 hb85'.size (fun q e => by have h1 := (World.ownsRow.lt HO8.out q e).1; have h2 := HBG5.out.size; omega)
    have HX5 := Lib.hid (hb95.trans (gb_to_below (gb_setCell (gb_refl w9 (some g8)) 2 (.slice (some ⟨g9, 0, none⟩) (nz + 1) c9)) (by rw [HGG.out.2.2]; exact Nat.le_refl _) hb95.size))
    have z2 := hG9.cell 2 rfl
    have zf := hG9.free 2
    have zl := hG9.lt
    have HX9 := Lib.hid (And.intro hb9 (And.intro hG9 (And.intro hne9 ho9)))
    clear h8G hYG hne8 hne9 hG9 hb8 hb8' hb9 ho9 hg9 hb85 hb85' hb95
    go_upto_region 9 with fail
    obtain ⟨U, hU⟩ : ∃ z, w9.setCell ⟨g8, 2, none⟩ (.slice (some ⟨g9, 0, none⟩) (nz + 1) c9) = z := ⟨_, rfl⟩
    rw [hU]
    have hbU5 : Below w5.heap.size w5 U := by rw [← hU]; exact HX5.out
    have hGU : Blk U g8 34 [.slice xA NB xc, .slice yA nt yc, .slice (some ⟨g9, 0, none⟩) (nz + 1) c9] := by rw [← hU]; exact HX9.out.2.1.set 2 _
    have hbU : Below Y.heap.size Y U := by rw [← hU]; exact HX9.out.1.trans (gb_to_below (gb_setCell (gb_refl w9 (some g8)) 2 _) HGG.out.2.1 HX9.out.1.size)
    have hoU : U.ownsRow G.heap.size 3 1 (.slice (some ⟨g9, 0, none⟩) (nz + 1) c9) (nz + 1) (intsV .i64 (d.firsts ++ [0])) := by
      rw [← hU, show intsV .i64 (d.firsts ++ [0]) = intsV .i64 d.firsts ++ [.int .i64 0] by simp [intsV]]
      exact own_gb HX9.out.2.2.2 (gb_setCell (gb_refl w9 (some g8)) 2 _) HX9.out.2.2.1
    have hlen : (d.firsts ++ [0]).length = nz + 1 := by rw [List.length_append, HNZ.out]; rfl
    have HOR2 : Hid (Calls Tryd.prog 27 #[.agg #[.slice xA NB xc, .slice yA nt yc, .slice (some ⟨g9, 0, none⟩) (nz + 1) c9], .slice none 0 0] U fun e w' => e = .returned (.tuple #[.slice none 0 0, .int .i64 8]) ∧ Below U.heap.size U w') := Lib.hid (by
      have hF2 := (HSTY.out.flow.below hbU).firsts (B := G.heap.size) (gA := some ⟨g9, 0, none⟩) (c := c9) (L := d.firsts ++ [0]) (by rw [hlen]; exact hoU)
      have hf8 := fitE_bad (HF.out.unfit HFN.out)
      have h := order_bad ⟨d.blocks, d.tables, d.firsts ++ [0]⟩ xA yA (some ⟨g9, 0, none⟩) xc yc c9 [] none 0 8 U hF2 (by have := HNB.out; simp only; omega) (by simp only; rw [hlen]; omega) (by intro h; exact absurd rfl h) (Nat.le_refl _) (by decide) (.inl ⟨by rw [hf8]; decide, by rw [hf8]⟩)
      unfold flowV at h
      simp only at h
      rw [HNB.out, HNT.out, hlen] at h
      exact h)
    have HBU := Lib.hid hbU
    have u0 := hGU.cell 0 rfl
    have u1 := hGU.cell 1 rfl
    have u2 := hGU.cell 2 rfl
    have ul := hGU.lt
    clear hU hGU hbU hoU hlen z2 zf zl
    go_wp2_with fail
    refine HOR2.out.mono ?_
    rintro e w10 ⟨rfl, hb10⟩
    have hb105 := hbU5.trans (hb10.mono hbU5.size)
    have r0 := (hb105.cell (p := ⟨g7, kk, none⟩) HL5.out.1).trans HRC.out
    have r1 := (hb105.cell (p := ⟨g5, kk, none⟩) HL5.out.2).trans HOC5.out
    have rl0 := Nat.lt_of_lt_of_le HL5.out.1 hb105.size
    have rl1 := Nat.lt_of_lt_of_le HL5.out.2 hb105.size
    have HB10 := Lib.hid (HWY.out.trans ((HB5.out.trans (hb105.mono HB5.out.size)).mono HWY.out.size))
    have HED : Hid (∀ W, Below w10.heap.size w10 W → Calls Tryd.prog 29 #[.slice (some ⟨bo, 0, none⟩) el el, .int .i64 NB] W fun e w' => e = .returned (.int .i64 er) ∧ Below W.heap.size W w') := Lib.hid fun W hW => by
      have hgo := odd_go (N := NB) (by omega) hk5
      rw [HER.out] at hgo
      have hVW := HB5V.out.trans ((hb105.trans (hW.mono hb105.size)).mono HB5V.out.size)
      have h := edges_any (oddE NB kk) (some ⟨bo, 0, none⟩) el NB W ((HEDW.out.below hVW).more hVW.size) (by rw [HEL.out]; exact Nat.le_refl _) (by rw [HEL.out]; omega)
      rw [HEL.out, hgo] at h
      exact h
    have qe : (er == er) = true := by simp
    clear hb10 hb105 hbU5 u0 u1 u2 ul
    go_upto_region 10 with fail
    refine wp_region_W (fun w' => w'.cell? ⟨g7, kk, none⟩ = some (.int .i64 er) ∧ w'.cell? ⟨g5, kk, none⟩ = some (.slice (some ⟨bo, 0, none⟩) el el)) 27 (by kernel_rfl) (by (try dsimp only); go_keep) (fun hHeld => ?_)
    refine wpW_take 0 (v := ?_) rfl (by kernel_rfl) (by kernel_rfl) (by kernel_rfl) (by kernel_rfl) (fun _ _ _ h => h) (Or.inl ⟨by rfl, ?_⟩) hHeld ?_
    rotate_left
    · intro w hSw
      try dsimp only at hSw
      go_simp
      try with_reducible rfl
    try simp only [Act.put, List.setIfInBounds_toArray, List.set_cons_zero, List.set_cons_succ]
    refine wpW_take 1 (v := ?_) rfl (by kernel_rfl) (by kernel_rfl) (by kernel_rfl) (by kernel_rfl) (fun _ _ _ h => h) (Or.inl ⟨by rfl, ?_⟩) hHeld ?_
    rotate_left
    · intro w hSw
      try dsimp only at hSw
      go_simp
      try with_reducible rfl
    try simp only [Act.put, List.setIfInBounds_toArray, List.set_cons_zero, List.set_cons_succ]
    refine wpW_take 2 (v := ?_) rfl (by kernel_rfl) (by kernel_rfl) (by kernel_rfl) (by kernel_rfl) (fun _ _ _ h => h) (Or.inl ⟨by rfl, ?_⟩) hHeld ?_
    rotate_left
    · intro w hSw
      try dsimp only at hSw
      go_simp
      try with_reducible rfl
    try simp only [Act.put, List.setIfInBounds_toArray, List.set_cons_zero, List.set_cons_succ]
    refine wpW_take 3 (v := ?_) rfl (by kernel_rfl) (by kernel_rfl) (by kernel_rfl) (by kernel_rfl) (fun _ _ _ h => h) (Or.inl ⟨by rfl, ?_⟩) hHeld ?_
    rotate_left
    · intro w hSw
      try dsimp only at hSw
      go_simp
      try with_reducible rfl
    try simp only [Act.put, List.setIfInBounds_toArray, List.set_cons_zero, List.set_cons_succ]
    refine wpW_take 4 (v := ?_) rfl (by kernel_rfl) (by kernel_rfl) (by kernel_rfl) (by kernel_rfl) (fun _ _ _ h => h) (Or.inl ⟨by rfl, ?_⟩) hHeld ?_
    rotate_left
    · intro w hSw
      try dsimp only at hSw
      go_simp
      try with_reducible rfl
    try simp only [Act.put, List.setIfInBounds_toArray, List.set_cons_zero, List.set_cons_succ]
    refine wpW_take 5 (v := ?_) rfl (by kernel_rfl) (by kernel_rfl) (by kernel_rfl) (by kernel_rfl) (fun _ _ _ h => h) (Or.inl ⟨by rfl, ?_⟩) hHeld ?_
    rotate_left
    · intro w hSw
      try dsimp only at hSw
      go_simp
      try with_reducible rfl
    try simp only [Act.put, List.setIfInBounds_toArray, List.set_cons_zero, List.set_cons_succ]
    refine wpW_take 6 (v := ?_) rfl (by kernel_rfl) (by kernel_rfl) (by kernel_rfl) (by kernel_rfl) (fun _ _ _ h => h) (Or.inl ⟨by rfl, ?_⟩) hHeld ?_
    rotate_left
    · intro w hSw
      try dsimp only at hSw
      go_simp
      try with_reducible rfl
    try simp only [Act.put, List.setIfInBounds_toArray, List.set_cons_zero, List.set_cons_succ]
    refine wpW_take 7 (v := ?_) rfl (by kernel_rfl) (by kernel_rfl) (by kernel_rfl) (by kernel_rfl) (fun _ _ _ h => h) (Or.inl ⟨by rfl, ?_⟩) hHeld ?_
    rotate_left
    · intro w hSw
      try dsimp only at hSw
      go_simp
      try with_reducible rfl
    try simp only [Act.put, List.setIfInBounds_toArray, List.set_cons_zero, List.set_cons_succ]
    refine wpW_take 8 (v := ?_) rfl (by kernel_rfl) (by kernel_rfl) (by kernel_rfl) (by kernel_rfl) (fun _ _ _ h => h) (Or.inl ⟨by rfl, ?_⟩) hHeld ?_
    rotate_left
    · intro w hSw
      try dsimp only at hSw
      go_simp
      try with_reducible rfl
    try simp only [Act.put, List.setIfInBounds_toArray, List.set_cons_zero, List.set_cons_succ]
    refine wpW_take 9 (v := ?_) rfl (by kernel_rfl) (by kernel_rfl) (by kernel_rfl) (by kernel_rfl) (fun _ _ _ h => h) (Or.inl ⟨by rfl, ?_⟩) hHeld ?_
    rotate_left
    · intro w hSw
      try dsimp only at hSw
      go_simp
      try with_reducible rfl
    try simp only [Act.put, List.setIfInBounds_toArray, List.set_cons_zero, List.set_cons_succ]
    refine wpW_take 10 (v := ?_) rfl (by kernel_rfl) (by kernel_rfl) (by kernel_rfl) (by kernel_rfl) (fun _ _ _ h => h) (Or.inl ⟨by rfl, ?_⟩) hHeld ?_
    rotate_left
    · intro w hSw
      try dsimp only at hSw
      go_simp
      try with_reducible rfl
    try simp only [Act.put, List.setIfInBounds_toArray, List.set_cons_zero, List.set_cons_succ]
    refine wpW_take 11 (v := ?_) rfl (by kernel_rfl) (by kernel_rfl) (by kernel_rfl) (by kernel_rfl) (fun _ _ _ h => h) (Or.inl ⟨by rfl, ?_⟩) hHeld ?_
    rotate_left
    · intro w hSw
      try dsimp only at hSw
      go_simp
      try with_reducible rfl
    try simp only [Act.put, List.setIfInBounds_toArray, List.set_cons_zero, List.set_cons_succ]
    refine wpW_take 12 (v := ?_) rfl (by kernel_rfl) (by kernel_rfl) (by kernel_rfl) (by kernel_rfl) (fun _ _ _ h => h) (Or.inl ⟨by rfl, ?_⟩) hHeld ?_
    rotate_left
    · intro w hSw
      try dsimp only at hSw
      go_simp
      try with_reducible rfl
    try simp only [Act.put, List.setIfInBounds_toArray, List.set_cons_zero, List.set_cons_succ]
    refine wpW_take 13 (v := ?_) rfl (by kernel_rfl) (by kernel_rfl) (by kernel_rfl) (by kernel_rfl) (fun _ _ _ h => h) (Or.inl ⟨by rfl, ?_⟩) hHeld ?_
    rotate_left
    · intro w hSw
      try dsimp only at hSw
      go_simp
      try with_reducible rfl
    try simp only [Act.put, List.setIfInBounds_toArray, List.set_cons_zero, List.set_cons_succ]
    refine wpW_take 14 (v := ?_) rfl (by kernel_rfl) (by kernel_rfl) (by kernel_rfl) (by kernel_rfl) (fun _ _ _ h => h) (Or.inl ⟨by rfl, ?_⟩) hHeld ?_
    rotate_left
    · intro w hSw
      try dsimp only at hSw
      go_simp
      try with_reducible rfl
    try simp only [Act.put, List.setIfInBounds_toArray, List.set_cons_zero, List.set_cons_succ]
    refine wpW_take 15 (v := ?_) rfl (by kernel_rfl) (by kernel_rfl) (by kernel_rfl) (by kernel_rfl) (fun _ _ _ h => h) (Or.inl ⟨by rfl, ?_⟩) hHeld ?_
    rotate_left
    · intro w hSw
      try dsimp only at hSw
      go_simp
      try with_reducible rfl
    try simp only [Act.put, List.setIfInBounds_toArray, List.set_cons_zero, List.set_cons_succ]
    refine wpW_take 16 (v := ?_) rfl (by kernel_rfl) (by kernel_rfl) (by kernel_rfl) (by kernel_rfl) (fun _ _ _ h => h) (Or.inl ⟨by rfl, ?_⟩) hHeld ?_
    rotate_left
    · intro w hSw
      try dsimp only at hSw
      go_simp
      try with_reducible rfl
    try simp only [Act.put, List.setIfInBounds_toArray, List.set_cons_zero, List.set_cons_succ]
    refine wpW_take 17 (v := ?_) rfl (by kernel_rfl) (by kernel_rfl) (by kernel_rfl) (by kernel_rfl) (fun _ _ _ h => h) (Or.inl ⟨by rfl, ?_⟩) hHeld ?_
    rotate_left
    · intro w hSw
      try dsimp only at hSw
      go_simp
      try with_reducible rfl
    try simp only [Act.put, List.setIfInBounds_toArray, List.set_cons_zero, List.set_cons_succ]
    refine wpW_take 18 (v := ?_) rfl (by kernel_rfl) (by kernel_rfl) (by kernel_rfl) (by kernel_rfl) (fun _ _ _ h => h) (Or.inl ⟨by rfl, ?_⟩) hHeld ?_
    rotate_left
    · intro w hSw
      try dsimp only at hSw
      go_simp
      try with_reducible rfl
    try simp only [Act.put, List.setIfInBounds_toArray, List.set_cons_zero, List.set_cons_succ]
    refine wpW_take 20 (v := ?_) rfl (by kernel_rfl) (by kernel_rfl) (by kernel_rfl) (by kernel_rfl) (fun _ _ _ h => h) (Or.inl ⟨by rfl, ?_⟩) hHeld ?_
    rotate_left
    · intro w hSw
      try dsimp only at hSw
      go_simp
      try with_reducible rfl
    try simp only [Act.put, List.setIfInBounds_toArray, List.set_cons_zero, List.set_cons_succ]
    refine wpW_take 21 (v := ?_) rfl (by kernel_rfl) (by kernel_rfl) (by kernel_rfl) (by kernel_rfl) (fun _ _ _ h => h) (Or.inl ⟨by rfl, ?_⟩) hHeld ?_
    rotate_left
    · intro w hSw
      try dsimp only at hSw
      go_simp
      try with_reducible rfl
    try simp only [Act.put, List.setIfInBounds_toArray, List.set_cons_zero, List.set_cons_succ]
    refine wpW_take 22 (v := ?_) rfl (by kernel_rfl) (by kernel_rfl) (by kernel_rfl) (by kernel_rfl) (fun _ _ _ h => h) (Or.inl ⟨by rfl, ?_⟩) hHeld ?_
    rotate_left
    · intro w hSw
      try dsimp only at hSw
      go_simp
      try with_reducible rfl
    try simp only [Act.put, List.setIfInBounds_toArray, List.set_cons_zero, List.set_cons_succ]
    refine wpW_take 23 (v := ?_) rfl (by kernel_rfl) (by kernel_rfl) (by kernel_rfl) (by kernel_rfl) (fun _ _ _ h => h) (Or.inl ⟨by rfl, ?_⟩) hHeld ?_
    rotate_left
    · intro w hSw
      try dsimp only at hSw
      go_simp
      try with_reducible rfl
    try simp only [Act.put, List.setIfInBounds_toArray, List.set_cons_zero, List.set_cons_succ]
    refine wpW_one 19 rfl (by kernel_rfl) (fun K hK => ?_)
    go_simp
    refine (HED.out _ ((Below.refl _ _).drew)).mono ?_
    rintro e w12 ⟨rfl, hb12'⟩
    have hb12 : Below w10.heap.size w10 w12 := ((Below.refl w10.heap.size w10).drew).trans hb12'
    have x0 : w12.cell? ⟨g7, kk, none⟩ = some (.int .i64 er) := (hb12.cell (p := ⟨g7, kk, none⟩) rl0).trans r0
    have x1 : w12.cell? ⟨g5, kk, none⟩ = some (.slice (some ⟨bo, 0, none⟩) el el) := (hb12.cell (p := ⟨g5, kk, none⟩) rl1).trans r1
    refine hK.out _ _ (by (try dsimp only); exact ⟨x0, x1⟩) (fun hHeld => ?_)
    clear hK K
    try simp only [Act.put, List.setIfInBounds_toArray, List.set_cons_zero, List.set_cons_succ]
    refine wpW_take 24 (v := ?_) rfl (by kernel_rfl) (by kernel_rfl) (by kernel_rfl) (by kernel_rfl) (fun _ _ _ h => h) (Or.inl ⟨by rfl, ?_⟩) hHeld ?_
    rotate_left
    · intro w hSw
      try dsimp only at hSw
      go_simp
      try with_reducible rfl
    try simp only [Act.put, List.setIfInBounds_toArray, List.set_cons_zero, List.set_cons_succ]
    refine wpW_take 25 (v := ?_) rfl (by kernel_rfl) (by kernel_rfl) (by kernel_rfl) (by kernel_rfl) (fun _ _ _ h => h) (Or.inl ⟨by rfl, ?_⟩) hHeld ?_
    rotate_left
    · intro w hSw
      try dsimp only at hSw
      go_simp
      try with_reducible rfl
    try simp only [Act.put, List.setIfInBounds_toArray, List.set_cons_zero, List.set_cons_succ]
    refine wpW_take 26 (v := ?_) rfl (by kernel_rfl) (by kernel_rfl) (by kernel_rfl) (by kernel_rfl) (fun _ _ _ h => h) (Or.inl ⟨by rfl, ?_⟩) hHeld ?_
    rotate_left
    · intro w hSw
      try dsimp only at hSw
      go_simp
      try with_reducible rfl
    try simp only [Act.put, List.setIfInBounds_toArray, List.set_cons_zero, List.set_cons_succ]
    refine wpW_done (by kernel_rfl) ?_ _
    go_wp2_with fail
    go_ret
    exact ⟨by rfl, HB10.out.trans (hb12.mono HB10.out.size)⟩
set_option maxRecDepth 100000 in
theorem orderBad_contract (H : Type) (enc : TypeId × Value → H) (W : World) (base : Nat) (args : Array Value) (ds gs : List (DataW H)) (before : List MemPlace)
    (hval : ∀ (j : Nat) t v, Tryd.f9.params[j]? = some t → args[j]? = some v → Value.okWide Tryd.prog W .any base t v)
    (hW : DataW.Whole enc Tryd.prog Tryd.f9.params.toList Rows.orderBadSpec.vars false W args.toList ds gs before) (hL : laidMetH Tryd.prog Rows.orderBadRow.laid W)
    (hz : (DataW.weightsEach Tryd.prog (Tryd.f9.params.toList ++ (OpenSpec.ofChange Rows.orderBadSpec).bare.plain.varTypes Tryd.prog) (ds ++ gs)).all (· ≤ reachBytes) = true) :
    Calls Tryd.prog 9 args W fun e W' => ∃ v, e = .returned v ∧ Rows.orderBadSpec.post enc Tryd.prog Tryd.f9 false true false false W args v W' := by
  have hT : Tabs W := tabs_of_laid5 hL
  have hW0 := hW
  obtain ⟨p, q, hA0, hV, rfl, hfz, hnd⟩ := hW
  have hA : DataW.TrodAll enc Tryd.prog W 0 (fun _ => true) true Tryd.f9.params.toList args.toList ds p := hA0
  rw [Tryd.params9] at hA hval
  obtain ⟨v0, vs0, d0, ds0, p0, q0, hargs, rfl, rfl, h0, r0⟩ := trodAll_cons hA
  obtain ⟨v1, vs1, d1, ds1, p1, q1, rfl, rfl, rfl, h1, r1⟩ := trodAll_cons r0
  obtain ⟨rfl, rfl, rfl⟩ := trodAll_nil r1
  obtain rfl : args = #[v0, v1] := by cases args; simp_all
  obtain ⟨rfl, rfl⟩ := trodVars_none hV
  clear hA0
  obtain ⟨A, cap, L, rfl, hcap, hcm, hR, hd⟩ := open_raws (hval 0 22 v0 rfl rfl) h0
  obtain ⟨n, rfl, rfl, rfl, wn⟩ := open_int Tryd.underlying3 (hval 1 3 v1 rfl rfl) h1
  have hL : L.length ≤ 140737488355328 := by
    rcases hd with ⟨-, rfl, -⟩ | ⟨elems, spare, rfl, hl⟩
    · exact Nat.zero_le _
    · have h1 := sized_slice hz (j := 0) (t := 22) (by rw [Tryd.params9]; rfl) rfl Tryd.underlying22
      have h2 : Tryd.prog.bytesOf 57 = 32 := by kernel_rfl
      have h3 := reachBytes_lt
      rw [h2, hl] at h1
      omega
  refine (orderBad_walk L A cap n (i64_of_wf wn) W hT hR hL hcap).mono fun e W' ⟨he, hb⟩ => ?_
  subst he
  exact ⟨_, rfl, law_post hW0 rfl rfl (by kernel_rfl) (by kernel_rfl) hb⟩
set_option maxRecDepth 100000 in
theorem orderBad_met (os : Os) : laidMet Tryd.prog Rows.orderBadRow.laid ((laidWorld5 os).forCall (fun _ _ => 0) ⟨#[], #[.slice none 0 0, .int .i64 0], []⟩).memory :=
  laidMet_of_run' 8 (by kernel_rfl) (by kernel_rfl)
set_option maxRecDepth 100000 in
theorem orderBad_reads (os : Os) {H : Type} (enc : TypeId × Value → H) : ∃ places, DataW.whole enc Tryd.prog ((laidWorld5 os).forCall (fun _ _ => 0) ⟨#[], #[.slice none 0 0, .int .i64 0], []⟩).memory Tryd.f9.params.toList Rows.orderBadSpec.vars false (#[.slice none 0 0, .int .i64 0] : Array Value).toList 8 = some ([.nil, .lit (.int .i64 0)], [], places) :=
  ⟨[], by kernel_rfl⟩
set_option maxRecDepth 100000 in
theorem orderBad_lifted (os : Os) (started : os.Started) (H : Type) (enc : TypeId × Value → H) (F : Stop.Interp) :
    ReturnsInHanded {} Tryd.checked os 9 .any ((OpenSpec.ofChange Rows.orderBadSpec).preRow enc Tryd.prog Tryd.f9 Rows.orderBadRow.domain false Rows.orderBadRow.laid) (((OpenSpec.ofChange Rows.orderBadSpec).at F).post enc Tryd.prog Tryd.f9 false true false false) := by
  obtain ⟨places, hx⟩ := orderBad_reads os enc
  refine returnsInHanded_of_row (C := Tryd.checked) (s := OpenSpec.ofChange Rows.orderBadSpec) ownP started (by kernel_rfl) Tryd.func9
    (witness_row_at (enc := enc) (C := Tryd.checked) false (laidWorld5 os) #[.slice none 0 0, .int .i64 0] rfl (by kernel_rfl) (by kernel_rfl) (by kernel_rfl)
      (OpenSpec.preRow_of_cond 8 hx (by kernel_rfl) (fun k hk => by cases hk) (by kernel_rfl) (orderBad_met os))) ?_
  intro W base args ds gs before hval hW _ _ hreach hL _ _
  exact orderBad_contract H enc W base args ds gs before hval hW hL hreach
set_option maxRecDepth 100000 in
theorem orderBad_said : Rows.OrderBadSaid :=
  OpenClaim.holds_of_cond 9 Tryd.f9 rfl rfl rfl rfl rfl rfl rfl ⟨rfl, rfl, rfl, rfl, rfl⟩ rfl rfl rfl rfl rfl (by kernel_rfl) Tryd.func9 (by kernel_rfl)
    (of_decide_eq_true (by kernel_rfl)) (by unfold Func.isWrapper; first | (rw [if_pos (by decide +kernel)]; kernel_rfl) | (rw [if_neg (by decide +kernel)]; exact ⟨rfl, rfl⟩))
    (fun os started H enc _ F => by rw [OpenClaim.pre_eq_preRow]; exact orderBad_lifted os started H enc F)
set_option maxRecDepth 100000 in
theorem orderBad_plain (f : FuncId) (fn : Func) (hf : Tryd.pinned.checked.prog.funcNamed "bolthole/boltholekeep.OrderBad" = some f) (hfn : Tryd.pinned.checked.prog.funcs[f]? = some fn) :
    ∀ (j : Nat) t, fn.params[j]? = some t → Tryd.pinned.checked.prog.wantsStandIn t = false := by
  obtain rfl : f = 9 := Option.some.inj ((show Tryd.prog.funcNamed "bolthole/boltholekeep.OrderBad" = some 9 by kernel_rfl).symm.trans hf) |>.symm
  obtain rfl : fn = Tryd.f9 := (Option.some.inj (Tryd.func9.symm.trans hfn)).symm
  intro j t ht
  have hall : ∀ t ∈ Tryd.f9.params, Tryd.prog.wantsStandIn t = false := by
    rw [Tryd.params9]
    intro t ht
    simp only [List.mem_toArray, List.mem_cons, List.not_mem_nil, or_false] at ht
    rcases ht with rfl | rfl
    all_goals kernel_rfl
  exact hall t (Array.mem_of_getElem? ht)
set_option maxRecDepth 100000 in
theorem orderBad_card : Rows.OrderBadCardSaid :=
  Claim7.holds_tied_plain_at .later [] _ _ _ _ orderBad_said (fun _ h => by cases h) (by kernel_rfl) (fun _ h => by cases h) orderBad_row_tie rfl ⟨rfl, rfl⟩ (by kernel_rfl) rfl (fun f fn hf hfn => ⟨by kernel_rfl, orderBad_plain f fn hf hfn⟩) (by kernel_rfl)
end Go.Proofs.YtbdlmafhcgndeaaDoor
