/- The given statement on ImageApart, proved: an image that was copied is encoded to the same bytes whatever is done to the copy. No condition of its own. -/
import Derived.Test.YtdliienkbpdnbaaDoorLawS
import Derived.Test.YtdliienkbpdnbaaDoorPgmG
import Derived.Test.YtdliienkbpdnbaaDoorAsmG
import Derived.Test.YtdliienkbpdnbaaDoorImgX
import Derived.Test.YtdliienkbpdnbaaDoorEncX
import Derived.Test.YtdliienkbpdnbaaDoorCpy
import Derived.OwnWalk
import Derived.Deep.DeepCutAuto
import Derived.WalkLawsBesides
namespace Go.Proofs.YtdliienkbpdnbaaDoor
open Go.ChangeShapes Go.WideShapes Go.ChangeAt Go.RowKit Go.Joins
open Go.ChangeMaps (open_string)
theorem own_nilA {w : World} {b n c : Nat} {e : TypeId} {A : Option Addr} {nb : List Int} {xs : List Value} (h : w.ownsRow b e 1 (.slice A n c) n xs) (e1 : A = none) (hn : nb.length = n) : nb = [] := by
  subst e1
  rcases h.2 with ⟨_, e2⟩ | ⟨g, cap, cur, hv, -⟩
  · exact List.eq_nil_of_length_eq_zero (by rw [hn]; exact e2)
  · cases hv
theorem IsPgm.data {l : List RawI} {m : Img} (h : IsPgm l m) : m.data = [5, -3, 0, 7, 1, 2] := by
  obtain ⟨bs', h1, _, h3, rfl⟩ := h
  rfl
theorem own_head {w : World} {B : Nat} {e : TypeId} {sz n c : Nat} {A : Option Addr} {xs : List Value} {u : Value} (h : w.ownsRow B e sz (.slice A n c) n xs) (hn : n ≠ 0) (hu : xs[0]? = some u) :
    ∃ g, A = some ⟨g, 0, none⟩ ∧ B ≤ g ∧ g < w.heap.size ∧ w.cell? ⟨g, 0, none⟩ = some u ∧ w.frozen? ⟨g, 0, none⟩ = false ∧ TypB w g e ∧ n ≤ c := by
  rcases h.2 with ⟨_, e2⟩ | ⟨g, cap, cur, hv, hb, hg, hnc, hcm, hcs, htk⟩
  · exact absurd e2 hn
  · injection hv with e1 _ e3
    subst e1
    subst e3
    refine ⟨g, rfl, hb, (Array.getElem?_eq_some_iff.1 hg).1, ?_, frozen_of_row _ _ _ _ _ hg, ⟨_, _, hg⟩, hnc⟩
    rw [cell_of_row w g 0 _ _ _ hg]
    rw [← htk, List.getElem?_take] at hu
    split at hu
    · simpa using hu
    · cases hu
set_option maxHeartbeats 8000000 in
set_option maxRecDepth 100000 in
theorem imageApart_walk (l : List RawI) (A : Option Addr) (c : Nat) (w : World) (hT : Tabs w) (hR : RdR w w.heap.size A l) (hl : l.length ≤ 140737488355328) (hc : l.length ≤ c) :
    Calls Tryd.prog 3 #[.slice A l.length c] w fun e w' => e = .returned (.bool true) ∧ Below w.heap.size w w' := by
  have HPG := Lib.hid (program_any l A c w hT hR hc hl)
  obtain ⟨ll, hll⟩ : ∃ z, l.length = z := ⟨_, rfl⟩
  rw [hll] at HPG ⊢
  clear hT hR hl hc hll
  go_enter Tryd.func3, Tryd.ntmps3
  go_wp2_with fail
  refine HPG.out.mono ?_
  rintro e wp ⟨hb1, ⟨tA, tc, fA, fc, bA, bc, dA, dc, lA, lc⟩, m, rfl, hown, hok, hpg⟩
  have hrd := hown.rd
  have hck := hpg.check
  have hF := check_fits hck
  have ht1 := hpg.text
  have hf1 := hpg.fn
  have hd1 := hpg.data
  have HRD := Lib.hid hrd
  have HOK := Lib.hid hok
  have HCK := Lib.hid hck
  have HB1 := Lib.hid hb1
  have HF := Lib.hid hF
  clear hb1 hown hok hpg HPG hck hrd hF
  have HCP : Hid (∀ W, Below wp.heap.size wp W → Calls Tryd.prog 15 #[.agg (m.val ⟨tA, tc, fA, fc, bA, bc, dA, dc, lA, lc⟩)] W (CopyPost W m)) := Lib.hid fun W h => copy_any m _ W ((HRD.out.below h).more h.size) HOK.out
    ⟨by have := HF.out.tl; omega, by have := HF.out.fl; omega, by have := HF.out.bl; omega, by have := HF.out.dl; omega, by have := HF.out.ll; omega, fun t ht => by have := (HF.out.bb t ht).1; omega⟩
  have HEN : Hid (∀ W, Below wp.heap.size wp W → Calls Tryd.prog 16 #[.agg (m.val ⟨tA, tc, fA, fc, bA, bc, dA, dc, lA, lc⟩)] W (IEncPost W m)) := Lib.hid fun W h => imgEncode_any m _ W ((HRD.out.below h).more h.size) HOK.out
  obtain ⟨x0, hx0⟩ : ∃ u, m.text[0]? = some u := ⟨_, List.getElem?_eq_getElem (by omega)⟩
  obtain ⟨fz, hfz⟩ : ∃ u, m.funcs[0]? = some u := ⟨_, List.getElem?_eq_getElem (by omega)⟩
  have HX0 := Lib.hid hx0
  have HFZ := Lib.hid hfz
  have HD1 := Lib.hid hd1
  have hND : m.data.length = 6 := by rw [hd1]; rfl
  unfold Img.val at *
  simp only at *
  obtain ⟨T, hT⟩ : ∃ T, m.text.length = T := ⟨_, rfl⟩
  obtain ⟨NF, hNF⟩ : ∃ T, m.funcs.length = T := ⟨_, rfl⟩
  obtain ⟨NB, hNB⟩ : ∃ T, m.tables.length = T := ⟨_, rfl⟩
  obtain ⟨NL, hNL⟩ : ∃ T, m.lines.length = T := ⟨_, rfl⟩
  obtain ⟨EN, hEN⟩ : ∃ T, m.entry = T := ⟨_, rfl⟩
  obtain ⟨EL, hEL⟩ : ∃ T, (encF m).length = T := ⟨_, rfl⟩
  simp only [hT, hNF, hNB, hND, hNL, hEN] at HCP HEN ht1 hf1 ⊢
  have hNB20 : NB ≤ 20 := by have := HF.out.bl; omega
  have HN := Lib.hid (And.intro hT (And.intro hNF (And.intro hNB (And.intro hND (And.intro hNL (And.intro hEN hEL))))))
  clear hT hNF hNB hND hNL hEN hEL hx0 hfz hd1
  go_upto_region 2 with fail
  obtain ⟨W3, hW3⟩ : ∃ z, wp.alloc (.cells #[.slice tA T tc, .slice fA NF fc, .slice bA NB bc, .slice dA 6 dc, .slice lA NL lc, .int .i64 EN] 29) = z := ⟨_, rfl⟩
  rw [hW3]
  have hm3 : Blk W3 wp.heap.size 29 [.slice tA T tc, .slice fA NF fc, .slice bA NB bc, .slice dA 6 dc, .slice lA NL lc, .int .i64 EN] := by rw [← hW3]; exact Blk.new _ _ _
  have hb3 : Below wp.heap.size wp W3 := by rw [← hW3]; exact (Below.refl _ _).alloc (Nat.le_refl _) _
  have HM3 := Lib.hid hm3
  have HB3 := Lib.hid hb3
  have m0 := hm3.cell 0 rfl
  have m1 := hm3.cell 1 rfl
  have m2 := hm3.cell 2 rfl
  have m3 := hm3.cell 3 rfl
  have m4 := hm3.cell 4 rfl
  have m5 := hm3.cell 5 rfl
  have ml := hm3.lt
  clear hm3 hb3 hW3
  go_wp2_with fail
  refine (HCP.out W3 HB3.out).mono ?_
  rintro e wc ⟨hbc, ⟨ta, tk, fa, fk, ba, bk, da, dk, la, lk⟩, H, rfl, hoc⟩
  have HOC := Lib.hid hoc
  have HBC := Lib.hid hbc
  clear hoc hbc m0 m1 m2 m3 m4 m5 HCP
  unfold Img.val
  simp only [HN.out.1, HN.out.2.1, HN.out.2.2.1, HN.out.2.2.2.1, HN.out.2.2.2.2.1, HN.out.2.2.2.2.2.1]
  go_upto_region 3 with fail
  obtain ⟨Y, hY⟩ : ∃ z, wc.heap.size = z := ⟨_, rfl⟩
  obtain ⟨W4, hW4⟩ : ∃ z, wc.alloc (.cells #[.slice ta T tk, .slice fa NF fk, .slice ba NB bk, .slice da 6 dk, .slice la NL lk, .int .i64 EN] 29) = z := ⟨_, rfl⟩
  have hal4 : Below wc.heap.size wc W4 := by rw [← hW4]; exact (Below.refl _ _).alloc (Nat.le_refl _) _
  have hy4 : Blk W4 Y 29 [.slice ta T tk, .slice fa NF fk, .slice ba NB bk, .slice da 6 dk, .slice la NL lk, .int .i64 EN] := by rw [← hW4, ← hY]; exact Blk.new _ _ _
  rw [hW4, hY]
  have HO4 := Lib.hid (HOC.out.keep hal4)
  have HY4 := Lib.hid hy4
  have hm4 := HM3.out.keep (HBC.out.trans (hal4.mono HBC.out.size))
  have HM4 := Lib.hid hm4
  have HB34 : Hid (Below W3.heap.size W3 W4) := Lib.hid (HBC.out.trans (hal4.mono HBC.out.size))
  have hYW : W3.heap.size ≤ Y := by rw [← hY]; exact HBC.out.size
  have hYl : Y < W4.heap.size := hy4.lt
  have m0 := hm4.cell 0 rfl
  have m1 := hm4.cell 1 rfl
  have m2 := hm4.cell 2 rfl
  have m3 := hm4.cell 3 rfl
  have m4 := hm4.cell 4 rfl
  have m5 := hm4.cell 5 rfl
  have ml4 := hm4.lt
  clear hal4 hy4 hm4 hW4 hY HOC HBC
  go_wp2_with fail
  refine (HEN.out W4 (HB3.out.trans (HB34.out.mono HB3.out.size))).mono ?_
  rintro e w5 ⟨hb5, -, h5⟩
  obtain ⟨A5, c5, rfl, ho5⟩ := h5 HCK.out
  rw [HN.out.2.2.2.2.2.2] at ho5 ⊢
  have ho := HO4.out.keep hb5
  have hy5 := HY4.out.keep hb5
  have htx := ho.tx
  have hfn := ho.fn
  have hdt := ho.dt
  simp only [HN.out.1, HN.out.2.1, HN.out.2.2.2.1] at htx hfn hdt
  obtain ⟨g0, rfl, gb0, gl0, c0, f0, ty0, gc0⟩ := own_head htx (by omega) (intsV_at .u8 HX0.out)
  obtain ⟨g1, rfl, gb1, gl1, c1, f1, ty1, gc1⟩ := own_head hfn (by omega) (funcsV_at HFZ.out).1
  obtain ⟨g3, rfl, gb3, gl3, c3, f3, ty3, gc3⟩ := own_head hdt (by omega) (by rw [HD1.out]; rfl)
  have tyY := hy5.typ
  have n0Y := ty0.ne tyY (by decide)
  have n1Y := ty1.ne tyY (by decide)
  have n3Y := ty3.ne tyY (by decide)
  have n01 := ty0.ne ty1 (by decide)
  have n03 := ty0.ne ty3 (by decide)
  have n13 := ty1.ne ty3 (by decide)
  have n10 : ¬ g1 = g0 := fun e => n01 e.symm
  have n30 : ¬ g3 = g0 := fun e => n03 e.symm
  have n31 : ¬ g3 = g1 := fun e => n13 e.symm
  have nY0 : ¬ Y = g0 := fun e => n0Y e.symm
  have nY1 : ¬ Y = g1 := fun e => n1Y e.symm
  have nY3 : ¬ Y = g3 := fun e => n3Y e.symm
  have y0 := hy5.cell 0 rfl
  have y1 := hy5.cell 1 rfl
  have y2 := hy5.cell 2 rfl
  have y3 := hy5.cell 3 rfl
  have yf2 := hy5.free 2
  have yl := hy5.lt
  have h4z : W4.heap.size ≤ w5.heap.size := hb5.size
  have HB5 := Lib.hid hb5
  have HO5 := Lib.hid ho5
  have HO := Lib.hid ho
  have HY5 := Lib.hid hy5
  have g0W : g0 < W4.heap.size := (World.ownsRow.lt HO4.out.tx g0 rfl).2
  have g1W : g1 < W4.heap.size := (World.ownsRow.lt HO4.out.fn g1 rfl).2
  have g3W : g3 < W4.heap.size := (World.ownsRow.lt HO4.out.dt g3 rfl).2
  have hT1 : 0 < T := by omega
  have hT1I : (0 : Int) < (T : Int) := by omega
  have hNF1I : (0 : Int) < (NF : Int) := by omega
  clear hb5 ho5 ho hy5 htx hfn hdt h5 m0 m1 m2 m3 m4 m5 ml4
  go_upto_region 9 with fail
  obtain ⟨W8, hW8⟩ : ∃ z, ((w5.setCell ⟨g0, 0, none⟩ (.int .u8 ((x0 + 1) % 256))).setCell ⟨g1, 0, none⟩ (.string ⟨#[122]⟩)).setCell ⟨g3, 0, none⟩ (.int .i64 6) = z := ⟨_, rfl⟩
  rw [hW8]
  have hs0 : w5.grownBy (w5.setCell ⟨g0, 0, none⟩ (.int .u8 ((x0 + 1) % 256))) (some g0) := gb_setCell (gb_refl _ _) _ _
  have hs1 : (w5.setCell ⟨g0, 0, none⟩ (.int .u8 ((x0 + 1) % 256))).grownBy ((w5.setCell ⟨g0, 0, none⟩ (.int .u8 ((x0 + 1) % 256))).setCell ⟨g1, 0, none⟩ (.string ⟨#[122]⟩)) (some g1) := gb_setCell (gb_refl _ _) _ _
  have hs3 : ((w5.setCell ⟨g0, 0, none⟩ (.int .u8 ((x0 + 1) % 256))).setCell ⟨g1, 0, none⟩ (.string ⟨#[122]⟩)).grownBy W8 (some g3) := by rw [← hW8]; exact gb_setCell (gb_refl _ _) _ _
  have hz5 : W3.heap.size ≤ w5.heap.size := Nat.le_trans HB34.out.size h4z
  have hb8 : Below W3.heap.size W3 W8 := (HB34.out.trans (HB5.out.mono HB34.out.size)).trans ((gb_to_below hs0 gb0 hz5).trans ((gb_to_below hs1 gb1 (by simpa [World.setCell] using hz5)).trans (gb_to_below hs3 gb3 (by simpa [World.setCell] using hz5))))
  have hy8 := ((HY5.out.gb hs0 (fun e => n0Y (by injection e))).gb hs1 (fun e => n1Y (by injection e))).gb hs3 (fun e => n3Y (by injection e))
  have hne5 : ∀ q, q < W4.heap.size → (Value.slice A5 EL c5).ownBlock = none ∨ (Value.slice A5 EL c5).ownBlock ≠ some q := fun q hq => .inr fun e => by
    have := (World.ownsRow.lt HO5.out q e).1
    omega
  have ho8 := gb_own (gb_own (gb_own HO5.out hs0 (hne5 g0 g0W)) hs1 (hne5 g1 g1W)) hs3 (hne5 g3 g3W)
  obtain ⟨vs, k1, k2, -, -⟩ := HO.out.tb
  simp only [HN.out.2.2.1] at k1 k2
  have t1 : TypB (w5.setCell ⟨g0, 0, none⟩ (.int .u8 ((x0 + 1) % 256))) g1 36 := by obtain ⟨cs, f, h⟩ := ty1; exact ⟨cs, f, (hs0.block g1 gl1 (fun e => n10 (by injection e))).trans h⟩
  have t3 : TypB ((w5.setCell ⟨g0, 0, none⟩ (.int .u8 ((x0 + 1) % 256))).setCell ⟨g1, 0, none⟩ (.string ⟨#[122]⟩)) g3 3 := by
    obtain ⟨cs, f, h⟩ := ty3
    exact ⟨cs, f, (hs1.block g3 (by simpa [World.setCell] using gl3) (fun e => n31 (by injection e))).trans ((hs0.block g3 gl3 (fun e => n30 (by injection e))).trans h)⟩
  have k8 := own_keepT (own_keepT (own_keepT k2 hs0 (fun q e => by injection e with e; subst e; exact ty0) (by decide)) hs1 (fun q e => by injection e with e; subst e; exact t1) (by decide)) hs3 (fun q e => by injection e with e; subst e; exact t3) (by decide)
  have y0 := hy8.cell 0 rfl
  have y2 := hy8.cell 2 rfl
  have yl := hy8.lt
  have HB8 := Lib.hid hb8
  have HY8 := Lib.hid hy8
  have HO8 := Lib.hid ho8
  have HK8 := Lib.hid k8
  have hz8 := hb8.size
  clear hW8 hs0 hs1 hs3 hb8 hy8 hne5 ho8 k1 k2 t1 t3 k8 c0 c1 c3 f0 f1 f3 y1 y3 yf2 HO5 HO HY5 HO4 HY4 HM4 HB5 ty0 ty1 ty3 tyY
  go_wp2_with (first | (at_builtin; refine app_one rfl _ _ 25 26 1 24 _ Tryd.underlying25 infoC_sl rfl (by decide) rfl W3.heap.size _ NB vs rfl (World.ownsRow.alloc HK8.out _) W8.heap.size 1 rfl [.slice none 0 0] 26 (0, 0) (heap_alloc_new W8 _) rfl (by simp [Value.oneCell']) (by omega) (by omega) (by simp; omega) (W8.heap.size + 1) (by simp) ?a9))
  case a9 =>
    intro q2 k2 w2 ho2 hg2 hat2 hlt2
    have hal1 : Below W8.heap.size W8 (W8.alloc (.cells #[.slice none 0 0] 26)) := (Below.refl _ _).alloc (Nat.le_refl _) _
    have hoA := World.ownsRow.alloc HK8.out (.cells #[.slice none 0 0] 26)
    have hx2 := (HY8.out.keep hal1).keepT hg2 (fun q e => own_typ hoA e) (by decide)
    have x22 := hx2.cell 2 rfl
    have x2f := hx2.free 2
    have x2l := hx2.lt
    have ho9 := own_keepT (own_keep HO8.out hal1) hg2 (fun q e => own_typ hoA e) (by decide)
    have hb9 : Below W3.heap.size W3 w2 := HB8.out.trans ((hal1.mono hz8).trans (gb_belowU hg2 (fun q e => (World.ownsRow.lt hoA q e).1) (by simp; omega)))
    have HB9 := Lib.hid hb9
    have HO9 := Lib.hid ho9
    have HX2 := Lib.hid hx2
    clear ho2 hg2 hat2 hal1 hoA hx2 ho9 hb9 HB8 HY8 HO8 HK8 y0 y2
    go_upto_region 10 with fail
    obtain ⟨W10, hW10⟩ : ∃ z, w2.setCell ⟨Y, 2, none⟩ (.slice (some ⟨q2, 0, none⟩) (NB + 1) k2) = z := ⟨_, rfl⟩
    rw [hW10]
    have hsY : w2.grownBy W10 (some Y) := by rw [← hW10]; exact gb_setCell (gb_refl _ _) _ _
    have hb10 : Below W3.heap.size W3 W10 := HB9.out.trans (gb_to_below hsY hYW HB9.out.size)
    have hm10 := HM3.out.keep hb10
    have HO10 := Lib.hid (own_keepT HO9.out hsY (fun q e => by injection e with e; subst e; exact HX2.out.typ) (by decide))
    have HB10 := Lib.hid hb10
    have m0 := hm10.cell 0 rfl
    have m1 := hm10.cell 1 rfl
    have m2 := hm10.cell 2 rfl
    have m3 := hm10.cell 3 rfl
    have m4 := hm10.cell 4 rfl
    have m5 := hm10.cell 5 rfl
    have ml5 := hm10.lt
    clear hW10 hsY hb10 hm10 HX2 HO9 x22 x2f x2l
    go_wp2_with fail
    refine (HEN.out W10 (HB3.out.trans (HB10.out.mono HB3.out.size))).mono ?_
    rintro e w11 ⟨hb11, -, h11⟩
    obtain ⟨A7, c7, rfl, ho7⟩ := h11 HCK.out
    rw [HN.out.2.2.2.2.2.2] at ho7 ⊢
    have hbe : ByteL (encF m) := ByteL.app (by intro x hx; simp only [magicL, List.mem_cons, List.not_mem_nil, or_false] at hx; omega) (encBody_bytes HOK.out.tb)
    have ho5' := own_keep HO10.out hb11
    have hcv1 : (convert 23 9 (.slice A5 EL c5)).run Tryd.prog w11 = .ok (.string (strOf (encF m))) w11 := conv_str (own_rdgD ho5').1 hbe (fun e => own_nilA ho5' e HN.out.2.2.2.2.2.2) HN.out.2.2.2.2.2.2
    have hcv2 : (convert 23 9 (.slice A7 EL c7)).run Tryd.prog w11 = .ok (.string (strOf (encF m))) w11 := conv_str (own_rdgD ho7).1 hbe (fun e => own_nilA ho7 e HN.out.2.2.2.2.2.2) HN.out.2.2.2.2.2.2
    have hBF : Below w.heap.size w w11 := HB1.out.trans ((HB3.out.trans ((HB10.out.mono HB3.out.size).trans (hb11.mono (by have := HB3.out.size; have := HB10.out.size; omega)))).mono HB1.out.size)
    have HBF := Lib.hid hBF
    clear hb11 h11 ho7 hbe ho5' hBF m0 m1 m2 m3 m4 m5 ml5
    go_wp2
    go_ret
    exact ⟨by simp, HBF.out⟩
set_option maxRecDepth 100000 in
theorem imageApart_contract (H : Type) (enc : TypeId × Value → H) (W : World) (base : Nat) (args : Array Value) (ds gs : List (DataW H)) (before : List MemPlace)
    (hval : ∀ (j : Nat) t v, Tryd.f3.params[j]? = some t → args[j]? = some v → Value.okWide Tryd.prog W .any base t v)
    (hW : DataW.Whole enc Tryd.prog Tryd.f3.params.toList Rows.imageApartSpec.vars false W args.toList ds gs before) (hL : laidMetH Tryd.prog Rows.imageApartRow.laid W)
    (hz : (DataW.weightsEach Tryd.prog (Tryd.f3.params.toList ++ (OpenSpec.ofChange Rows.imageApartSpec).bare.plain.varTypes Tryd.prog) (ds ++ gs)).all (· ≤ reachBytes) = true) :
    Calls Tryd.prog 3 args W fun e W' => ∃ v, e = .returned v ∧ Rows.imageApartSpec.post enc Tryd.prog Tryd.f3 false true false false W args v W' := by
  have hT : Tabs W := tabs_of_laid5 hL
  have hW0 := hW
  obtain ⟨p, q, hA0, hV, rfl, hfz, hnd⟩ := hW
  have hA : DataW.TrodAll enc Tryd.prog W 0 (fun _ => true) true Tryd.f3.params.toList args.toList ds p := hA0
  rw [Tryd.params3] at hA hval
  obtain ⟨v0, vs0, d0, ds0, p0, q0, hargs, rfl, rfl, h0, r0⟩ := trodAll_cons hA
  obtain ⟨rfl, rfl, rfl⟩ := trodAll_nil r0
  obtain rfl : args = #[v0] := by cases args; simp_all
  obtain ⟨rfl, rfl⟩ := trodVars_none hV
  clear hA0
  obtain ⟨A, cap, L, rfl, hcap, hcm, hR, hd⟩ := open_raws (hval 0 22 v0 rfl rfl) h0
  have hL : L.length ≤ 140737488355328 := by
    rcases hd with ⟨-, rfl, -⟩ | ⟨elems, spare, rfl, hl⟩
    · exact Nat.zero_le _
    · have h1 := sized_slice hz (j := 0) (t := 22) (by rw [Tryd.params3]; rfl) rfl Tryd.underlying22
      have h2 : Tryd.prog.bytesOf 146 = 32 := by kernel_rfl
      have h3 := reachBytes_lt
      rw [h2, hl] at h1
      omega
  refine (imageApart_walk L A cap W hT hR hL hcap).mono fun e W' ⟨he, hb⟩ => ?_
  subst he
  exact ⟨_, rfl, law_post hW0 rfl rfl (by kernel_rfl) (by kernel_rfl) hb⟩
set_option maxRecDepth 100000 in
theorem imageApart_met (os : Os) : laidMet Tryd.prog Rows.imageApartRow.laid ((laidWorld5 os).forCall (fun _ _ => 0) ⟨#[], #[.slice none 0 0], []⟩).memory :=
  laidMet_of_run' 8 (by kernel_rfl) (by kernel_rfl)
set_option maxRecDepth 100000 in
theorem imageApart_reads (os : Os) {H : Type} (enc : TypeId × Value → H) : ∃ places, DataW.whole enc Tryd.prog ((laidWorld5 os).forCall (fun _ _ => 0) ⟨#[], #[.slice none 0 0], []⟩).memory Tryd.f3.params.toList Rows.imageApartSpec.vars false (#[.slice none 0 0] : Array Value).toList 8 = some ([.nil], [], places) :=
  ⟨[], by kernel_rfl⟩
set_option maxRecDepth 100000 in
theorem imageApart_lifted (os : Os) (started : os.Started) (H : Type) (enc : TypeId × Value → H) (F : Stop.Interp) :
    ReturnsInHanded {} Tryd.checked os 3 .any ((OpenSpec.ofChange Rows.imageApartSpec).preRow enc Tryd.prog Tryd.f3 Rows.imageApartRow.domain false Rows.imageApartRow.laid) (((OpenSpec.ofChange Rows.imageApartSpec).at F).post enc Tryd.prog Tryd.f3 false true false false) := by
  obtain ⟨places, hx⟩ := imageApart_reads os enc
  refine returnsInHanded_of_row (C := Tryd.checked) (s := OpenSpec.ofChange Rows.imageApartSpec) ownP started (by kernel_rfl) Tryd.func3
    (witness_row_at (enc := enc) (C := Tryd.checked) false (laidWorld5 os) #[.slice none 0 0] rfl (by kernel_rfl) (by kernel_rfl) (by kernel_rfl)
      (OpenSpec.preRow_of_cond 8 hx (by kernel_rfl) (fun k hk => by cases hk) (by kernel_rfl) (imageApart_met os))) ?_
  intro W base args ds gs before hval hW _ _ hreach hL _ _
  exact imageApart_contract H enc W base args ds gs before hval hW hL hreach
set_option maxRecDepth 100000 in
theorem imageApart_said : Rows.ImageApartSaid :=
  OpenClaim.holds_of_cond 3 Tryd.f3 rfl rfl rfl rfl rfl rfl rfl ⟨rfl, rfl, rfl, rfl, rfl⟩ rfl rfl rfl rfl rfl (by kernel_rfl) Tryd.func3 (by kernel_rfl)
    (of_decide_eq_true (by kernel_rfl)) (by unfold Func.isWrapper; first | (rw [if_pos (by decide +kernel)]; kernel_rfl) | (rw [if_neg (by decide +kernel)]; exact ⟨rfl, rfl⟩))
    (fun os started H enc _ F => by rw [OpenClaim.pre_eq_preRow]; exact imageApart_lifted os started H enc F)
set_option maxRecDepth 100000 in
theorem imageApart_plain (f : FuncId) (fn : Func) (hf : Tryd.pinned.checked.prog.funcNamed "bolthole/boltholekeep.ImageApart" = some f) (hfn : Tryd.pinned.checked.prog.funcs[f]? = some fn) :
    ∀ (j : Nat) t, fn.params[j]? = some t → Tryd.pinned.checked.prog.wantsStandIn t = false := by
  obtain rfl : f = 3 := Option.some.inj ((show Tryd.prog.funcNamed "bolthole/boltholekeep.ImageApart" = some 3 by kernel_rfl).symm.trans hf) |>.symm
  obtain rfl : fn = Tryd.f3 := (Option.some.inj (Tryd.func3.symm.trans hfn)).symm
  intro j t ht
  have hall : ∀ t ∈ Tryd.f3.params, Tryd.prog.wantsStandIn t = false := by
    rw [Tryd.params3]
    intro t ht
    simp only [List.mem_toArray, List.mem_cons, List.not_mem_nil, or_false] at ht
    rcases ht with rfl
    all_goals kernel_rfl
  exact hall t (Array.mem_of_getElem? ht)
set_option maxRecDepth 100000 in
theorem imageApart_card : Rows.ImageApartCardSaid :=
  Claim7.holds_tied_plain_at .later [] _ _ _ _ imageApart_said (fun _ h => by cases h) (by kernel_rfl) (fun _ h => by cases h) imageApart_row_tie rfl ⟨rfl, rfl⟩ (by kernel_rfl) rfl (fun f fn hf hfn => ⟨by kernel_rfl, imageApart_plain f fn hf hfn⟩) (by kernel_rfl)
end Go.Proofs.YtdliienkbpdnbaaDoor
