/- Emit's maker: block, walked. -/
import Derived.Test.YtcafhoobeggmeaaDoorFlowN
import Derived.Test.YtcafhoobeggmeaaDoorEmtH
import Derived.Test.YtcafhoobeggmeaaDoorRcvZ
import Derived.Test.YtcafhoobeggmeaaDoorRegX
import Derived.Deep.DeepCutAuto
import Derived.Deep.CutBlock
import Derived.Deep.LoopGhost
import Derived.Deep.QuietTactic
import Derived.BigQuiet
import Derived.IntWalk
namespace Go.Proofs.YtcafhoobeggmeaaDoor
open Go.RowKit Go.Deep
theorem insR_atB {L : List Ins} {j : Nat} {i : Ins} (h : L[j]? = some i) (q : Nat) (u : Value) (hu : (insC i)[q]? = some u) : (insR L)[j * 6 + q]? = some u :=
 flat_at insC 6 (fun _ => rfl) L j i h q u (by have h1 := (List.getElem?_eq_some_iff.1 hu).1; simpa [insC] using h1) hu
theorem codeIts_take (b : BlkD) (k : Nat) (c : Ins) (h : b.code[k]? = some c) : (codeIts b).take (k + 1) = (codeIts b).take k ++ [codeIt b k c] := by
 rw [List.take_add_one]; unfold codeIts; rw [List.getElem?_mapIdx, h]
 rfl
theorem codeIts_len (b : BlkD) : (codeIts b).length = b.code.length := by simp [codeIts]
set_option maxHeartbeats 16000000 in
set_option maxRecDepth 100000 in
theorem block_mk {W0 w : World} {X : Nat} {m : Img} {v : ImgV} {d : FlowD} {xA yA zA : Option Addr} {xc yc zc : Nat} {its : List ItD} {iA : Option Addr} {ic fg bg : Nat} {fs bs : List Int} (h : MkM W0 w X m v d xA yA zA xc yc zc its iA ic fg bg fs bs) (n : Nat) (b : BlkD) (hb : d.blocks[n]? = some b) (hfit : BlkFit d b) (next : Int) (hfl : fs.length = d.blocks.length) (hil : its.length ≤ 900000) (hcl : b.code.length ≤ 9000) :
 Calls Tryd.prog 30 #[.pointer (some ⟨X, 0, none⟩), .int .i64 n, .int .i64 next] w (AddPost [135, 88, 3] w W0 X m v d xA yA zA xc yc zc (its ++ blkIts b next) fg bg (fs.set n its.length) bs) := by
 have HPO : Hid (∀ e w' iA ic, e = .returned (.tuple #[]) → KeepT [135, 88, 3] w w' → MkM W0 w' X m v d xA yA zA xc yc zc (its ++ blkIts b next) iA ic fg bg (fs.set n its.length) bs → AddPost [135, 88, 3] w W0 X m v d xA yA zA xc yc zc (its ++ blkIts b next) fg bg (fs.set n its.length) bs e w') := hd' fun e w' iA ic h1 hk h2 => ⟨h1, hk, iA, ic, h2⟩
 obtain ⟨ni, hni⟩ := ex' its.length
 obtain ⟨NB, hNB⟩ := ex' d.blocks.length
 have hnl := (List.getElem?_eq_some_iff.1 hb).1; obtain ⟨vb, g, o, hxA, hgl, hbr, hcs⟩ := h.flw.at hb
 have hxcap : NB ≤ xc := by
  obtain ⟨l0, e1, e2, -⟩ := h.flw; rw [← hNB]; exact e2.2.1
 have hW := h.bel; have HFIT := hd' hfit; obtain ⟨bf, bst, bco, bat, ⟨lk, lld, la, lb, lnn, llb⟩, ben, bds, bel, bli⟩ := b; obtain ⟨cA, cc, aA, ac, liA, lic⟩ := vb; have HBR := hd' hbr; have hgt : ∀ (q : Nat) (u : Value), (blkC ⟨bf, bst, bco, bat, ⟨lk, lld, la, lb, lnn, llb⟩, ben, bds, bel, bli⟩ ⟨cA, cc, aA, ac, liA, lic⟩)[q]? = some u → w.cell? ⟨g, o + n * 14 + q, none⟩ = some u := fun q u hu => (hW.cell (p := ⟨g, o + n * 14 + q, none⟩) hgl).trans (hcs q u hu)
 have c0 := hgt 0 _ rfl; have c1 := hgt 1 _ rfl; have c2 := hgt 2 _ rfl; have c3 := hgt 3 _ rfl; have c4 := hgt 4 _ rfl; have c5 := hgt 5 _ rfl; have c6 := hgt 6 _ rfl; have c7 := hgt 7 _ rfl; have c8 := hgt 8 _ rfl; have c9 := hgt 9 _ rfl; have c10 := hgt 10 _ rfl; have c11 := hgt 11 _ rfl; have c12 := hgt 12 _ rfl; have c13 := hgt 13 _ rfl; simp only [Nat.add_zero] at c0 c1 c2 c3 c4 c5 c6 c7 c8 c9 c10 c11 c12 c13; obtain ⟨NC, hNC⟩ := ex' bco.length
 obtain ⟨NA, hNA⟩ := ex' bat.length
 obtain ⟨NL, hNL⟩ := ex' bli.length
 have hft1 := hfit.ats; have hft2 := hfit.lines; simp only [hNC, hNA, hNL] at hft1 hft2 hcl c2 c3 c13; have x6 := h.blk.cell 6 rfl; rw [hNB] at x6 hfl hnl; have xl := h.blk.lt; rw [hni] at hil; have HM := hd' h; have HNI := hd' hni; have HNB := hd' hNB; have HNC := hd' hNC; have HNA := hd' hNA; have HNL := hd' hNL; have HB := hd' hb; subst hxA; have hnI : (n : Int) < (NB : Int) := by omega
 have hn0 : (0 : Int) ≤ (n : Int) := by omega
 have HFT := hd' (And.intro hft1 hft2); have HFL := hd' hfl; have HIL := hd' (And.intro hil hcl); clear h hb hni hNB hNC hNA hNL hgt hcs hbr hgl hW hfit hft1 hft2 hfl
 go_enter Tryd.func30, Tryd.ntmps30
 go_upto_region 1 with fail
 obtain ⟨Z, hZ⟩ := ex' (w.alloc (.cells #[.int .i64 bf, .int .i64 bst, .slice cA NC cc, .slice aA NA ac, .int .i64 lk, .int .i64 lld, .int .i64 la, .int .i64 lb, .int .i64 lnn, .bool llb, .int .i64 ben, .int .i64 bds, .int .i64 bel, .slice liA NL lic] 57))
 rw [hZ]; have hbZ : Below w.heap.size w Z := by rw [← hZ]; exact (Below.refl _ _).alloc lr' _
 have htZ : Blk Z w.heap.size 57 [.int .i64 bf, .int .i64 bst, .slice cA NC cc, .slice aA NA ac, .int .i64 lk, .int .i64 lld, .int .i64 la, .int .i64 lb, .int .i64 lnn, .bool llb, .int .i64 ben, .int .i64 bds, .int .i64 bel, .slice liA NL lic] := by rw [← hZ]; exact Blk.new w _ _
 have HKZ : Hid (KeepT [135, 88, 3] w Z) := hd' (KeepT.below hbZ); obtain ⟨BZ, hBZ⟩ := ex' w.heap.size
 rw [hBZ] at htZ ⊢; have HMZ := hd' (HM.out.below hbZ); have hfo := HMZ.out.fst; have x9 := HMZ.out.blk.cell 9 rfl; have x10 := HMZ.out.blk.cell 10 rfl; rw [HNI.out] at x9; have hfl := HFL.out; rw [hfl] at x10; have xl := HMZ.out.blk.lt; obtain ⟨u0, hu0⟩ : ∃ u, fs[n]? = some u := ⟨_, gE' (by omega)⟩
 obtain ⟨f0, ff0, fl0⟩ := own_cellf hfo (intsV_at .i64 hu0); have hty1 : ∀ q, some fg = some q → TypB Z q 3 := fun q e => by injection e with e; subst e; exact own_typ hfo rfl
 have hgF := gb_setCell (gb_refl Z (some fg)) n (.int .i64 ni); have HM1 : Hid (MkM W0 (Z.setCell ⟨fg, n, none⟩ (.int .i64 ni)) X m v d (some ⟨g, o, none⟩) yA zA xc yc zc its iA ic fg bg (fs.set n ni) bs) := hd' (HMZ.out.setF n ni); have HT1 : Hid (Blk (Z.setCell ⟨fg, n, none⟩ (.int .i64 ni)) BZ 57 [.int .i64 bf, .int .i64 bst, .slice cA NC cc, .slice aA NA ac, .int .i64 lk, .int .i64 lld, .int .i64 la, .int .i64 lb, .int .i64 lnn, .bool llb, .int .i64 ben, .int .i64 bds, .int .i64 bel, .slice liA NL lic]) := hd' (htZ.keepT hgF hty1 (by decide))
 have HK1 : Hid (KeepT [135, 88, 3] w (Z.setCell ⟨fg, n, none⟩ (.int .i64 ni))) := hd' (HKZ.out.trans (KeepT.gb hgF (T := 3) (by simp) hty1)); clear hZ hbZ htZ hBZ hfo hu0 hty1 hgF c0 c1 c2 c3 c4 c5 c6 c7 c8 c9 c10 c11 c12 c13 x6; refine wp_region_W (fun w' => w'.cell? ⟨X, 10, none⟩ = some (.slice (some ⟨fg, 0, none⟩) NB NB) ∧ w'.cell? ⟨X, 9, none⟩ = some (.slice iA ni ic)) 11 (by kernel_rfl) (by (try dsimp only); go_keep) (fun zH => ?_); refine wq 0 zH ?_; refine wq 1 zH ?_
 refine wq 2 zH ?_; refine wq 3 zH ?_; refine wq 4 zH ?_; refine wq 5 zH ?_; refine wq 6 zH ?_; refine wq 7 zH ?_; refine wq 8 zH ?_; refine wq 9 zH ?_; refine wq 10 zH ?_; refine wpW_last 11 rfl (by kernel_rfl) (by decide) (fun K hK => ?_)
 go_simp
 refine hK.out _ _ ?_; clear hK K; (try simp only [putE]); refine wpW_done (by kernel_rfl) ?_ _; obtain ⟨W1, hW1⟩ := ex' (Z.setCell ⟨fg, n, none⟩ (.int .i64 ni))
 rw [hW1] at HM1 HT1 HK1
 try rw [hW1]
 have t2 := HT1.out.cell 2 rfl; have tl := HT1.out.lt; obtain ⟨fs', hfs'⟩ := ex' (fs.set n (ni : Int))
 rw [hfs'] at HM1
 have HPO2 : Hid (∀ e w' iA ic, e = .returned (.tuple #[]) → KeepT [135, 88, 3] w w' → MkM W0 w' X m v d (some ⟨g, o, none⟩) yA zA xc yc zc (its ++ blkIts ⟨bf, bst, bco, bat, ⟨lk, lld, la, lb, lnn, llb⟩, ben, bds, bel, bli⟩ next) iA ic fg bg fs' bs → AddPost [135, 88, 3] w W0 X m v d (some ⟨g, o, none⟩) yA zA xc yc zc (its ++ blkIts ⟨bf, bst, bco, bat, ⟨lk, lld, la, lb, lnn, llb⟩, ben, bds, bel, bli⟩ next) fg bg (fs.set n its.length) bs e w') := hd' fun e w' iA ic h1 hk h2 => HPO.out e w' iA ic h1 hk (by rw [HNI.out, hfs']; exact h2)
 clear hW1 hfs' x9 x10 xl f0 ff0 fl0 HM HMZ HFL HPO HKZ
 go_wp2_with fail
 go_loopg [37] NC (fun gk s37 wr => ∃ (k : Nat) (iA' : Option Addr) (ic' : Nat), k ≤ NC ∧ s37 = .int .i64 k ∧ Hid (MkM W0 wr X m v d (some ⟨g, o, none⟩) yA zA xc yc zc (its ++ (codeIts ⟨bf, bst, bco, bat, ⟨lk, lld, la, lb, lnn, llb⟩, ben, bds, bel, bli⟩).take k) iA' ic' fg bg fs' bs) ∧ Hid (Blk wr BZ 57 [.int .i64 bf, .int .i64 bst, .slice cA NC cc, .slice aA NA ac, .int .i64 lk, .int .i64 lld, .int .i64 la, .int .i64 lb, .int .i64 lnn, .bool llb, .int .i64 ben, .int .i64 bds, .int .i64 bel, .slice liA NL lic]) ∧ Hid (KeepT [135, 88, 3] w wr) ∧ NC - k ≤ gk)
 case atStart => exact ⟨0, iA, ic, Nat.zero_le _, rfl, hd' (by rw [List.take_zero, List.append_nil]; exact HM1.out.below (Below.refl W1.heap.size W1).drew), hd' HT1.out.drew, hd' (HK1.out.trans (KeepT.below (Below.refl W1.heap.size W1).drew)), Nat.le_refl _⟩
 case round =>
  obtain ⟨k, iA', ic', hk, rfl, HMr, HTr, HKr, hgk⟩ := hrel; have hWr := HMr.out.bel
  by_cases hlt : k < NC
  · skip
    have hltK : (k : Int) < (NC : Int) := by omega
    have hcj : bco[k]? = some (bco[k]'(by have := HNC.out; omega)) := gE' _; obtain ⟨ci, hce⟩ := ex' (bco[k]'(by have := HNC.out; omega))
    rw [hce] at hcj; have HNX := hd' (codeIts_take ⟨bf, bst, bco, bat, ⟨lk, lld, la, lb, lnn, llb⟩, ben, bds, bel, bli⟩ k ci hcj); have hapj : bat[k]? = some (bat[k]'(by have := HNA.out; have := HFT.out; omega)) := gE' _; obtain ⟨p, hpe⟩ := ex' (bat[k]'(by have := HNA.out; have := HFT.out; omega))
    rw [hpe] at hapj; have halj : bli[k]? = some (bli[k]'(by have := HNL.out; have := HFT.out; omega)) := gE' _; obtain ⟨ln, hle⟩ := ex' (bli[k]'(by have := HNL.out; have := HFT.out; omega))
    rw [hle] at halj; obtain ⟨cg, co, hcA, hcgl, hcc⟩ := (HBR.out.1.1.below hWr) (by intro e; have h1 := insR_atB hcj 0 _ rfl; simp only at e; rw [e] at h1; simp at h1)
    obtain ⟨ag, ao, haA, hagl, hac⟩ := HBR.out.2.1.1.at (intsV_at .i64 hapj); obtain ⟨lg, lo, hlA, hlgl, hlc⟩ := HBR.out.2.2.1.at (intsV_at .i64 halj); have hccap : NC ≤ cc := by have := HBR.out.1.2.1; have h2 := HNC.out; simp only at this; omega
    have hacap : NA ≤ ac := by have := HBR.out.2.1.2.1; have h2 := HNA.out; simp only at this; omega
    have hlcap : NL ≤ lic := by have := HBR.out.2.2.2.1; have h2 := HNL.out; simp only at this; omega
    simp only at hcA hcc haA hac hlA hlc; subst hcA haA hlA; obtain ⟨ik, id, ia, ib, inn, il⟩ := ci; have k0 := hcc _ _ (insR_atB hcj 0 _ rfl); have k1 := hcc _ _ (insR_atB hcj 1 _ rfl); have k2 := hcc _ _ (insR_atB hcj 2 _ rfl); have k3 := hcc _ _ (insR_atB hcj 3 _ rfl); have k4 := hcc _ _ (insR_atB hcj 4 _ rfl); have k5 := hcc _ _ (insR_atB hcj 5 _ rfl); simp only [Nat.add_zero, ← Nat.add_assoc] at k0 k1 k2 k3 k4 k5
    have HCI : Hid (codeIt ⟨bf, bst, bco, bat, ⟨lk, lld, la, lb, lnn, llb⟩, ben, bds, bel, bli⟩ k ⟨ik, id, ia, ib, inn, il⟩ = if ik = 23 then ⟨⟨ik, id, ia, ib, 0, il⟩, -1, inn, p, ln, 0⟩ else ⟨⟨ik, id, ia, ib, inn, il⟩, -1, -1, p, ln, 0⟩) := hd' (by
     unfold codeIt
     simp only [List.getD_eq_getElem?_getD, hapj, halj, Option.getD_some])
    have hkA : (k : Int) < (NA : Int) := by have := HFT.out; omega
    have hkL : (k : Int) < (NL : Int) := by have := HFT.out; omega
    have hk0 : (0 : Int) ≤ (k : Int) := by omega
    have HAC := hd' (And.intro hagl hac); have HLC := hd' (And.intro hlgl hlc)
    have HML : Hid ((its ++ (codeIts ⟨bf, bst, bco, bat, ⟨lk, lld, la, lb, lnn, llb⟩, ben, bds, bel, bli⟩).take k).length ≤ 1000000) := hd' (by
     have := HIL.out; rw [List.length_append, HNI.out, List.length_take]
     omega)
    clear hce hcj hapj halj hpe hle hcc hcgl hac hlc hagl hlgl
    go_upto_region 6 with fail
    obtain ⟨V, hV⟩ := ex' (wr.alloc (.cells #[.int .i64 ik, .int .i64 id, .int .i64 ia, .int .i64 ib, .int .i64 inn, .bool il] 55))
    rw [hV]; have hbV : Below wr.heap.size wr V := by rw [← hV]; exact (Below.refl _ _).alloc lr' _
    have hiV : Blk V wr.heap.size 55 [.int .i64 ik, .int .i64 id, .int .i64 ia, .int .i64 ib, .int .i64 inn, .bool il] := by rw [← hV]; exact Blk.new wr _ _
    obtain ⟨BV, hBV⟩ := ex' wr.heap.size
    have HSV : Hid (W0.heap.size ≤ BV) := hd' (by have h2 := hWr.size; omega); have HSV2 : Hid (wr.heap.size = BV) := hd' hBV; rw [hBV] at hiV ⊢; have HMV := hd' (HMr.out.below hbV); have HTV := hd' (HTr.out.keep hbV); have HKV : Hid (KeepT [135, 88, 3] w V) := hd' (HKr.out.trans (KeepT.below hbV)); have hvl := hiV.lt; have HIV := hd' hiV; clear hV k0 k1 k2 k3 k4 k5 t2 tl hbV hWr hBV hiV
    by_cases h23 : ik = 23
    · have i0 := HIV.out.cell 0 rfl; have i4 := HIV.out.cell 4 rfl; have if4 := HIV.out.free 4; have q23 : (ik == 23) = true := by simp [h23]
      have HCI2 : Hid (codeIt ⟨bf, bst, bco, bat, ⟨lk, lld, la, lb, lnn, llb⟩, ben, bds, bel, bli⟩ k ⟨ik, id, ia, ib, inn, il⟩ = ⟨⟨ik, id, ia, ib, 0, il⟩, -1, inn, p, ln, 0⟩) := hd' (by rw [HCI.out, if_pos h23]); clear h23
      go_upto_region 8 with fail
      obtain ⟨U, hU⟩ := ex' (V.setCell ⟨BV, 4, none⟩ (.int .i64 0))
      have hgU := gb_setCell (gb_refl V (some BV)) 4 (.int .i64 0); rw [hU] at hgU; have hty : ∀ q, some BV = some q → TypB V q 55 := fun q e => by injection e with e; subst e; exact HIV.out.typ
      have HMU : Hid (MkM W0 U X m v d (some ⟨g, o, none⟩) yA zA xc yc zc (its ++ (codeIts ⟨bf, bst, bco, bat, ⟨lk, lld, la, lb, lnn, llb⟩, ben, bds, bel, bli⟩).take k) iA' ic' fg bg fs' bs) := hd' (HMV.out.gbT hgU HIV.out.typ HSV.out (by decide)); have HTU := hd' (HTV.out.keepT hgU hty (by decide))
      have HKU : Hid (KeepT [135, 88, 3] w U) := hd' (by
       refine ⟨Nat.le_trans HKV.out.1 hgU.size, fun q hq ht => ?_⟩; have hwb : w.heap.size ≤ BV := by have h1 := HKr.out.1; have h2 := HSV2.out; omega
       exact (hgU.block q (Nat.lt_of_lt_of_le hq HKV.out.1) (fun e => by injection e with e; omega)).trans (HKV.out.2 q hq ht))
      have hiU : Blk U BV 55 [.int .i64 ik, .int .i64 id, .int .i64 ia, .int .i64 ib, .int .i64 0, .bool il] := by rw [← hU]; exact HIV.out.set 4 _
      have HIU := hd' hiU; have ha := (HMU.out.bel.cell (p := ⟨ag, ao + k, none⟩) HAC.out.1).trans HAC.out.2; have hl2 := (HMU.out.bel.cell (p := ⟨lg, lo + k, none⟩) HLC.out.1).trans HLC.out.2; have hagl := Nat.lt_of_lt_of_le HAC.out.1 HMU.out.bel.size; have hlgl := Nat.lt_of_lt_of_le HLC.out.1 HMU.out.bel.size; rw [hU]; have a3 := HTU.out.cell 3 rfl; have a13 := HTU.out.cell 13 rfl; have al := HTU.out.lt; have u0 := hiU.cell 0 rfl; have u1 := hiU.cell 1 rfl; have u2 := hiU.cell 2 rfl; have u3 := hiU.cell 3 rfl; have u4 := hiU.cell 4 rfl; have u5 := hiU.cell 5 rfl
      clear hU hgU hty i0 i4 if4 q23 hiU
      refine wp_region_W (fun w' => w'.cell? ⟨BV, 0, none⟩ = some (.int .i64 ik) ∧ w'.cell? ⟨BV, 1, none⟩ = some (.int .i64 id) ∧ w'.cell? ⟨BV, 2, none⟩ = some (.int .i64 ia) ∧ w'.cell? ⟨BV, 3, none⟩ = some (.int .i64 ib) ∧ w'.cell? ⟨BV, 4, none⟩ = some (.int .i64 0) ∧ w'.cell? ⟨BV, 5, none⟩ = some (.bool il) ∧ w'.cell? ⟨BZ, 3, none⟩ = some (.slice (some ⟨ag, ao, none⟩) NA ac) ∧ w'.cell? ⟨BZ, 13, none⟩ = some (.slice (some ⟨lg, lo, none⟩) NL lic) ∧ w'.cell? ⟨ag, ao + k, none⟩ = some (.int .i64 p) ∧ w'.cell? ⟨lg, lo + k, none⟩ = some (.int .i64 ln)) 14 (by kernel_rfl) (by (try dsimp only); go_keep) (fun zH => ?_)
      refine wq 0 zH ?_; refine wq 1 zH ?_; refine wq 2 zH ?_; refine wq 3 zH ?_; refine wq 4 zH ?_; refine wq 5 zH ?_; refine wq 6 zH ?_; refine wq 7 zH ?_; refine wq 8 zH ?_; refine wq 9 zH ?_; refine wq 10 zH ?_; refine wq 11 zH ?_
      refine wq 12 zH ?_; refine wpW_one 13 rfl (by kernel_rfl) (fun K hK => ?_)
      go_simp
      refine (add_any (HMU.out.below (Below.refl U.heap.size U).drew) HML.out ik id ia ib 0 il (-1) inn p ln).mono ?_; rintro e w8 ⟨rfl, hk8, iA8, ic8, hm8⟩; have hI8 := hk8.blk (Blk.drew HIU.out) (by decide); have hT8 := hk8.blk (Blk.drew HTU.out) (by decide); have z8_0 : w8.cell? ⟨BV, 0, none⟩ = some (.int .i64 ik) := hI8.cell 0 rfl; have z8_1 : w8.cell? ⟨BV, 1, none⟩ = some (.int .i64 id) := hI8.cell 1 rfl; have z8_2 : w8.cell? ⟨BV, 2, none⟩ = some (.int .i64 ia) := hI8.cell 2 rfl; have z8_3 : w8.cell? ⟨BV, 3, none⟩ = some (.int .i64 ib) := hI8.cell 3 rfl
      have z8_4 : w8.cell? ⟨BV, 4, none⟩ = some (.int .i64 0) := hI8.cell 4 rfl; have z8_5 : w8.cell? ⟨BV, 5, none⟩ = some (.bool il) := hI8.cell 5 rfl; have z8_6 : w8.cell? ⟨BZ, 3, none⟩ = some (.slice (some ⟨ag, ao, none⟩) NA ac) := hT8.cell 3 rfl; have z8_7 : w8.cell? ⟨BZ, 13, none⟩ = some (.slice (some ⟨lg, lo, none⟩) NL lic) := hT8.cell 13 rfl; have z8_8 : w8.cell? ⟨ag, ao + k, none⟩ = some (.int .i64 p) := (hm8.bel.cell (p := ⟨ag, ao + k, none⟩) HAC.out.1).trans HAC.out.2
      have z8_9 : w8.cell? ⟨lg, lo + k, none⟩ = some (.int .i64 ln) := (hm8.bel.cell (p := ⟨lg, lo + k, none⟩) HLC.out.1).trans HLC.out.2; refine hK.out _ _ (by (try dsimp only); exact ⟨z8_0, z8_1, z8_2, z8_3, z8_4, z8_5, z8_6, z8_7, z8_8, z8_9⟩) (fun zH => ?_); clear hK K; (try simp only [putE]); refine wpW_done (by kernel_rfl) ?_ _; clear hI8 hT8 z8_0 z8_1 z8_2 z8_3 z8_4 z8_5 z8_6 z8_7 z8_8 z8_9; have HT8 := hd' (hk8.blk HTU.out.drew (by decide))
      have HK8 : Hid (KeepT [135, 88, 3] w w8) := hd' ((HKU.out.trans (KeepT.below (Below.refl U.heap.size U).drew)).trans (hk8.mono (by simp))); have HM8 : Hid (MkM W0 w8 X m v d (some ⟨g, o, none⟩) yA zA xc yc zc (its ++ (codeIts ⟨bf, bst, bco, bat, ⟨lk, lld, la, lb, lnn, llb⟩, ben, bds, bel, bli⟩).take (k + 1)) iA8 ic8 fg bg fs' bs) := hd' (by rw [HNX.out, HCI2.out, ← List.append_assoc]; exact hm8); clear hk8 hm8 a3 a13 al ha hl2 hagl hlgl u0 u1 u2 u3 u4 u5
      go_wp2
      go_roundg (NC - (k + 1))
      case measure => omega
      case rel => exact ⟨k + 1, iA8, ic8, by omega, (by go_num), HM8, HT8, HK8, Nat.le_refl _⟩
    · have q23 : (ik == 23) = false := by simp [h23]
      have HCI2 : Hid (codeIt ⟨bf, bst, bco, bat, ⟨lk, lld, la, lb, lnn, llb⟩, ben, bds, bel, bli⟩ k ⟨ik, id, ia, ib, inn, il⟩ = ⟨⟨ik, id, ia, ib, inn, il⟩, -1, -1, p, ln, 0⟩) := hd' (by rw [HCI.out, if_neg h23]); have u0 := HIV.out.cell 0 rfl; have u1 := HIV.out.cell 1 rfl; have u2 := HIV.out.cell 2 rfl; have u3 := HIV.out.cell 3 rfl; have u4 := HIV.out.cell 4 rfl; have u5 := HIV.out.cell 5 rfl; have ha := (HMV.out.bel.cell (p := ⟨ag, ao + k, none⟩) HAC.out.1).trans HAC.out.2; have hl2 := (HMV.out.bel.cell (p := ⟨lg, lo + k, none⟩) HLC.out.1).trans HLC.out.2
      have hagl := Nat.lt_of_lt_of_le HAC.out.1 HMV.out.bel.size; have hlgl := Nat.lt_of_lt_of_le HLC.out.1 HMV.out.bel.size; have a3 := HTV.out.cell 3 rfl; have a13 := HTV.out.cell 13 rfl; have al := HTV.out.lt; clear h23
      go_upto_region 8 with fail
      clear q23
      refine wp_region_W (fun w' => w'.cell? ⟨BV, 0, none⟩ = some (.int .i64 ik) ∧ w'.cell? ⟨BV, 1, none⟩ = some (.int .i64 id) ∧ w'.cell? ⟨BV, 2, none⟩ = some (.int .i64 ia) ∧ w'.cell? ⟨BV, 3, none⟩ = some (.int .i64 ib) ∧ w'.cell? ⟨BV, 4, none⟩ = some (.int .i64 inn) ∧ w'.cell? ⟨BV, 5, none⟩ = some (.bool il) ∧ w'.cell? ⟨BZ, 3, none⟩ = some (.slice (some ⟨ag, ao, none⟩) NA ac) ∧ w'.cell? ⟨BZ, 13, none⟩ = some (.slice (some ⟨lg, lo, none⟩) NL lic) ∧ w'.cell? ⟨ag, ao + k, none⟩ = some (.int .i64 p) ∧ w'.cell? ⟨lg, lo + k, none⟩ = some (.int .i64 ln)) 14 (by kernel_rfl) (by (try dsimp only); go_keep) (fun zH => ?_)
      refine wq 0 zH ?_; refine wq 1 zH ?_; refine wq 2 zH ?_; refine wq 3 zH ?_; refine wq 4 zH ?_; refine wq 5 zH ?_; refine wq 6 zH ?_; refine wq 7 zH ?_; refine wq 8 zH ?_; refine wq 9 zH ?_; refine wq 10 zH ?_; refine wq 11 zH ?_
      refine wq 12 zH ?_; refine wpW_one 13 rfl (by kernel_rfl) (fun K hK => ?_)
      go_simp
      refine (add_any (HMV.out.below (Below.refl V.heap.size V).drew) HML.out ik id ia ib inn il (-1) (-1) p ln).mono ?_; rintro e w8 ⟨rfl, hk8, iA8, ic8, hm8⟩; have hI8 := hk8.blk (Blk.drew HIV.out) (by decide); have hT8 := hk8.blk (Blk.drew HTV.out) (by decide); have z8_0 : w8.cell? ⟨BV, 0, none⟩ = some (.int .i64 ik) := hI8.cell 0 rfl; have z8_1 : w8.cell? ⟨BV, 1, none⟩ = some (.int .i64 id) := hI8.cell 1 rfl; have z8_2 : w8.cell? ⟨BV, 2, none⟩ = some (.int .i64 ia) := hI8.cell 2 rfl; have z8_3 : w8.cell? ⟨BV, 3, none⟩ = some (.int .i64 ib) := hI8.cell 3 rfl
      have z8_4 : w8.cell? ⟨BV, 4, none⟩ = some (.int .i64 inn) := hI8.cell 4 rfl; have z8_5 : w8.cell? ⟨BV, 5, none⟩ = some (.bool il) := hI8.cell 5 rfl; have z8_6 : w8.cell? ⟨BZ, 3, none⟩ = some (.slice (some ⟨ag, ao, none⟩) NA ac) := hT8.cell 3 rfl; have z8_7 : w8.cell? ⟨BZ, 13, none⟩ = some (.slice (some ⟨lg, lo, none⟩) NL lic) := hT8.cell 13 rfl; have z8_8 : w8.cell? ⟨ag, ao + k, none⟩ = some (.int .i64 p) := (hm8.bel.cell (p := ⟨ag, ao + k, none⟩) HAC.out.1).trans HAC.out.2
      have z8_9 : w8.cell? ⟨lg, lo + k, none⟩ = some (.int .i64 ln) := (hm8.bel.cell (p := ⟨lg, lo + k, none⟩) HLC.out.1).trans HLC.out.2; refine hK.out _ _ (by (try dsimp only); exact ⟨z8_0, z8_1, z8_2, z8_3, z8_4, z8_5, z8_6, z8_7, z8_8, z8_9⟩) (fun zH => ?_); clear hK K; (try simp only [putE]); refine wpW_done (by kernel_rfl) ?_ _; clear hI8 hT8 z8_0 z8_1 z8_2 z8_3 z8_4 z8_5 z8_6 z8_7 z8_8 z8_9; have HT8 := hd' (hk8.blk HTV.out.drew (by decide))
      have HK8 : Hid (KeepT [135, 88, 3] w w8) := hd' ((HKV.out.trans (KeepT.below (Below.refl V.heap.size V).drew)).trans (hk8.mono (by simp))); have HM8 : Hid (MkM W0 w8 X m v d (some ⟨g, o, none⟩) yA zA xc yc zc (its ++ (codeIts ⟨bf, bst, bco, bat, ⟨lk, lld, la, lb, lnn, llb⟩, ben, bds, bel, bli⟩).take (k + 1)) iA8 ic8 fg bg fs' bs) := hd' (by rw [HNX.out, HCI2.out, ← List.append_assoc]; exact hm8); clear hk8 hm8 a3 a13 al ha hl2 hagl hlgl u0 u1 u2 u3 u4 u5
      go_wp2
      go_roundg (NC - (k + 1))
      case measure => omega
      case rel => exact ⟨k + 1, iA8, ic8, by omega, (by go_num), HM8, HT8, HK8, Nat.le_refl _⟩
  · obtain rfl : k = NC := by omega
    have hltK : ¬ (k : Int) < (k : Int) := by omega
    have HMr2 : Hid (MkM W0 wr X m v d (some ⟨g, o, none⟩) yA zA xc yc zc (its ++ (codeIts ⟨bf, bst, bco, bat, ⟨lk, lld, la, lb, lnn, llb⟩, ben, bds, bel, bli⟩)) iA' ic' fg bg fs' bs) := hd' (by
     have := HMr.out; rw [List.take_of_length_le (by rw [codeIts_len]; simp only [HNC.out]; exact Nat.le_refl _)] at this
     exact this)
    have hlj : bli[k]? = some (bli[k]'(by have := HNL.out; have := HFT.out; omega)) := gE' _; obtain ⟨ln, hle⟩ := ex' (bli[k]'(by have := HNL.out; have := HFT.out; omega))
    rw [hle] at hlj; obtain ⟨lg, lo, hlA, hlgl, hlc⟩ := HBR.out.2.2.1.at (intsV_at .i64 hlj); have hlcap : NL ≤ lic := by have := HBR.out.2.2.2.1; have h2 := HNL.out; simp only at this; omega
    simp only at hlA hlc; subst hlA; have HGL : Hid (bli[bco.length]?.getD 0 = ln) := hd' (by rw [HNC.out, hlj]; rfl); have HLC := hd' (And.intro hlgl hlc)
    have HML : Hid ((its ++ (codeIts ⟨bf, bst, bco, bat, ⟨lk, lld, la, lb, lnn, llb⟩, ben, bds, bel, bli⟩)).length ≤ 900000 + 9000) := hd' (by
     have := HIL.out; rw [List.length_append, HNI.out, codeIts_len]; simp only [HNC.out]
     omega)
    have hkL : (k : Int) < (NL : Int) := by have := HFT.out; omega
    have hk0 : (0 : Int) ≤ (k : Int) := by omega
    have t2 := HTr.out.cell 2 rfl; have t10 := HTr.out.cell 10 rfl; have tl := HTr.out.lt; clear hlj hle hlc hlgl HMr
    go_upto_region 12 with fail
    obtain ⟨V, hV⟩ := ex' (wr.alloc (.cells #[.int .i64 22, .int .i64 0, .int .i64 0, .int .i64 0, .int .i64 0, .bool false] 55))
    rw [hV]; have hbV : Below wr.heap.size wr V := by rw [← hV]; exact (Below.refl _ _).alloc lr' _
    have hiV : Blk V wr.heap.size 55 [.int .i64 22, .int .i64 0, .int .i64 0, .int .i64 0, .int .i64 0, .bool false] := by rw [← hV]; exact Blk.new wr _ _
    obtain ⟨BJ, hBJ⟩ := ex' wr.heap.size
    rw [hBJ] at hiV ⊢; have HMV := hd' (HMr2.out.below hbV); have HTV := hd' (HTr.out.keep hbV); have HKV : Hid (KeepT [135, 88, 3] w V) := hd' (HKr.out.trans (KeepT.below hbV)); have HIV := hd' hiV; have a10 := HTV.out.cell 10 rfl; have a11 := HTV.out.cell 11 rfl; have a13 := HTV.out.cell 13 rfl; have al := HTV.out.lt; have jl := HIV.out.lt; have j0 := HIV.out.cell 0 rfl; have j1 := HIV.out.cell 1 rfl; have j2 := HIV.out.cell 2 rfl; have j3 := HIV.out.cell 3 rfl; have j4 := HIV.out.cell 4 rfl; have j5 := HIV.out.cell 5 rfl
    have hl2 := (HMV.out.bel.cell (p := ⟨lg, lo + k, none⟩) HLC.out.1).trans HLC.out.2; have hlgl := Nat.lt_of_lt_of_le HLC.out.1 HMV.out.bel.size; have hends := HFIT.out.ends; simp only at hends; clear hV t2 t10 tl hbV hWr hBJ hiV HMr2 HTr HKr hltK; rcases hends with h1 | h1 | h1 | h1
    · subst h1; have HBI : Hid (blkIts ⟨bf, bst, bco, bat, ⟨lk, lld, la, lb, lnn, llb⟩, 1, bds, bel, bli⟩ next = (codeIts ⟨bf, bst, bco, bat, ⟨lk, lld, la, lb, lnn, llb⟩, 1, bds, bel, bli⟩)) := hd' (by unfold blkIts tailIts; simp); clear j0 j1 j2 j3 j4 j5 a11 a13 hl2
      go_wp2_with fail
      go_end0
      exact HPO2.out _ _ _ _ rfl HKV.out (by rw [HBI.out]; exact HMV.out)
    · subst h1
      by_cases hd : bds = next
      · have qd : (bds != next) = false := by simp [hd]
        have HBI : Hid (blkIts ⟨bf, bst, bco, bat, ⟨lk, lld, la, lb, lnn, llb⟩, 2, bds, bel, bli⟩ next = (codeIts ⟨bf, bst, bco, bat, ⟨lk, lld, la, lb, lnn, llb⟩, 2, bds, bel, bli⟩)) := hd' (by unfold blkIts tailIts; simp [hd]); clear hd j0 j1 j2 j3 j4 j5 a13 hl2
        go_wp2_with fail
        go_end0
        exact HPO2.out _ _ _ _ rfl HKV.out (by rw [HBI.out]; exact HMV.out)
      · have qd : (bds != next) = true := by simp [hd]
        have HBI : Hid (blkIts ⟨bf, bst, bco, bat, ⟨lk, lld, la, lb, lnn, llb⟩, 2, bds, bel, bli⟩ next = (codeIts ⟨bf, bst, bco, bat, ⟨lk, lld, la, lb, lnn, llb⟩, 2, bds, bel, bli⟩) ++ [⟨⟨22, 0, 0, 0, 0, false⟩, bds, -1, -1, ln, 0⟩]) := hd' (by unfold blkIts tailIts jmpI; simp [hd, HGL.out]); clear hd
        go_upto_region 15 with fail
        refine wp_region_W (fun w' => w'.cell? ⟨BJ, 0, none⟩ = some (.int .i64 22) ∧ w'.cell? ⟨BJ, 1, none⟩ = some (.int .i64 0) ∧ w'.cell? ⟨BJ, 2, none⟩ = some (.int .i64 0) ∧ w'.cell? ⟨BJ, 3, none⟩ = some (.int .i64 0) ∧ w'.cell? ⟨BJ, 4, none⟩ = some (.int .i64 0) ∧ w'.cell? ⟨BJ, 5, none⟩ = some (.bool false) ∧ w'.cell? ⟨BZ, 11, none⟩ = some (.int .i64 bds) ∧ w'.cell? ⟨BZ, 13, none⟩ = some (.slice (some ⟨lg, lo, none⟩) NL lic) ∧ w'.cell? ⟨lg, lo + k, none⟩ = some (.int .i64 ln)) 10 (by kernel_rfl) (by (try dsimp only); go_keep) (fun zH => ?_); refine wq 0 zH ?_
        refine wq 1 zH ?_; refine wq 2 zH ?_; refine wq 3 zH ?_; refine wq 4 zH ?_; refine wq 5 zH ?_; refine wq 6 zH ?_; refine wq 7 zH ?_; refine wq 8 zH ?_; refine wpW_one 9 rfl (by kernel_rfl) (fun K hK => ?_)
        go_simp
        refine (add_any (HMV.out.below (Below.refl V.heap.size V).drew) (Nat.le_trans HML.out (by decide)) 22 0 0 0 0 false bds (-1) (-1) ln).mono ?_; rintro e w8 ⟨rfl, hk8, iA8, ic8, hm8⟩; have hI8 := hk8.blk (Blk.drew HIV.out) (by decide); have hT8 := hk8.blk (Blk.drew HTV.out) (by decide); have z8_0 : w8.cell? ⟨BJ, 0, none⟩ = some (.int .i64 22) := hI8.cell 0 rfl; have z8_1 : w8.cell? ⟨BJ, 1, none⟩ = some (.int .i64 0) := hI8.cell 1 rfl; have z8_2 : w8.cell? ⟨BJ, 2, none⟩ = some (.int .i64 0) := hI8.cell 2 rfl; have z8_3 : w8.cell? ⟨BJ, 3, none⟩ = some (.int .i64 0) := hI8.cell 3 rfl
        have z8_4 : w8.cell? ⟨BJ, 4, none⟩ = some (.int .i64 0) := hI8.cell 4 rfl; have z8_5 : w8.cell? ⟨BJ, 5, none⟩ = some (.bool false) := hI8.cell 5 rfl; have z8_6 : w8.cell? ⟨BZ, 11, none⟩ = some (.int .i64 bds) := hT8.cell 11 rfl; have z8_7 : w8.cell? ⟨BZ, 13, none⟩ = some (.slice (some ⟨lg, lo, none⟩) NL lic) := hT8.cell 13 rfl; have z8_8 : w8.cell? ⟨lg, lo + k, none⟩ = some (.int .i64 ln) := (hm8.bel.cell (p := ⟨lg, lo + k, none⟩) HLC.out.1).trans HLC.out.2; refine hK.out _ _ (by (try dsimp only); exact ⟨z8_0, z8_1, z8_2, z8_3, z8_4, z8_5, z8_6, z8_7, z8_8⟩) (fun zH => ?_); clear hK K
        (try simp only [putE]); refine wpW_done (by kernel_rfl) ?_ _; clear hI8 hT8 z8_0 z8_1 z8_2 z8_3 z8_4 z8_5 z8_6 z8_7 z8_8; have HKF : Hid (KeepT [135, 88, 3] w w8) := hd' ((HKV.out.trans (KeepT.below (Below.refl V.heap.size V).drew)).trans (hk8.mono (by simp))); have HMF := hd' hm8; clear hk8 hm8
        go_wp2_with fail
        go_end0
        exact HPO2.out _ _ _ _ rfl HKF.out (by rw [HBI.out, ← List.append_assoc]; exact HMF.out)
    · subst h1; have hat := HFT.out.1.2 (by decide); have hpj : bat[k]? = some (bat[k]'(by have := HNA.out; omega)) := gE' _; obtain ⟨p, hpe⟩ := ex' (bat[k]'(by have := HNA.out; omega))
      rw [hpe] at hpj; obtain ⟨ag, ao, haA, hagl0, hac0⟩ := HBR.out.2.1.1.at (intsV_at .i64 hpj); have hacap : NA ≤ ac := by have := HBR.out.2.1.2.1; have h2 := HNA.out; simp only at this; omega
      simp only at haA hac0; subst haA; have HGA : Hid (bat[bco.length]?.getD 0 = p) := hd' (by rw [HNC.out, hpj]; rfl); have ha := (HMV.out.bel.cell (p := ⟨ag, ao + k, none⟩) hagl0).trans hac0; have HAC := hd' (And.intro hagl0 hac0); have hagl := Nat.lt_of_lt_of_le hagl0 HMV.out.bel.size; have a3 := HTV.out.cell 3 rfl; have hkA : (k : Int) < (NA : Int) := by omega
      clear hpj hpe hac0 hagl0 hat
      by_cases hd : bds = next
      · have qd : (bds != next) = false := by simp [hd]
        have HBI : Hid (blkIts ⟨bf, bst, bco, bat, ⟨lk, lld, la, lb, lnn, llb⟩, 3, bds, bel, bli⟩ next = (codeIts ⟨bf, bst, bco, bat, ⟨lk, lld, la, lb, lnn, llb⟩, 3, bds, bel, bli⟩)) := hd' (by unfold blkIts tailIts; simp [hd]); clear hd j0 j1 j2 j3 j4 j5 a13 hl2 a3 ha
        go_wp2_with fail
        go_end0
        exact HPO2.out _ _ _ _ rfl HKV.out (by rw [HBI.out]; exact HMV.out)
      · have qd : (bds != next) = true := by simp [hd]
        have HBI : Hid (blkIts ⟨bf, bst, bco, bat, ⟨lk, lld, la, lb, lnn, llb⟩, 3, bds, bel, bli⟩ next = (codeIts ⟨bf, bst, bco, bat, ⟨lk, lld, la, lb, lnn, llb⟩, 3, bds, bel, bli⟩) ++ [⟨⟨22, 0, 0, 0, 0, false⟩, bds, -1, p, ln, 0⟩]) := hd' (by unfold blkIts tailIts jmpI; simp [hd, HGL.out, HGA.out]); clear hd
        go_upto_region 18 with fail
        refine wp_region_W (fun w' => w'.cell? ⟨BJ, 0, none⟩ = some (.int .i64 22) ∧ w'.cell? ⟨BJ, 1, none⟩ = some (.int .i64 0) ∧ w'.cell? ⟨BJ, 2, none⟩ = some (.int .i64 0) ∧ w'.cell? ⟨BJ, 3, none⟩ = some (.int .i64 0) ∧ w'.cell? ⟨BJ, 4, none⟩ = some (.int .i64 0) ∧ w'.cell? ⟨BJ, 5, none⟩ = some (.bool false) ∧ w'.cell? ⟨BZ, 11, none⟩ = some (.int .i64 bds) ∧ w'.cell? ⟨BZ, 3, none⟩ = some (.slice (some ⟨ag, ao, none⟩) NA ac) ∧ w'.cell? ⟨ag, ao + k, none⟩ = some (.int .i64 p) ∧ w'.cell? ⟨BZ, 13, none⟩ = some (.slice (some ⟨lg, lo, none⟩) NL lic) ∧ w'.cell? ⟨lg, lo + k, none⟩ = some (.int .i64 ln)) 15 (by kernel_rfl) (by (try dsimp only); go_keep) (fun zH => ?_)
        refine wq 0 zH ?_; refine wq 1 zH ?_; refine wq 2 zH ?_; refine wq 3 zH ?_; refine wq 4 zH ?_; refine wq 5 zH ?_; refine wq 6 zH ?_; refine wq 7 zH ?_; refine wq 8 zH ?_; refine wq 9 zH ?_; refine wq 10 zH ?_; refine wq 11 zH ?_
        refine wq 12 zH ?_; refine wq 13 zH ?_; refine wpW_one 14 rfl (by kernel_rfl) (fun K hK => ?_)
        go_simp
        refine (add_any (HMV.out.below (Below.refl V.heap.size V).drew) (Nat.le_trans HML.out (by decide)) 22 0 0 0 0 false bds (-1) p ln).mono ?_; rintro e w8 ⟨rfl, hk8, iA8, ic8, hm8⟩; have hI8 := hk8.blk (Blk.drew HIV.out) (by decide); have hT8 := hk8.blk (Blk.drew HTV.out) (by decide); have z8_0 : w8.cell? ⟨BJ, 0, none⟩ = some (.int .i64 22) := hI8.cell 0 rfl; have z8_1 : w8.cell? ⟨BJ, 1, none⟩ = some (.int .i64 0) := hI8.cell 1 rfl; have z8_2 : w8.cell? ⟨BJ, 2, none⟩ = some (.int .i64 0) := hI8.cell 2 rfl; have z8_3 : w8.cell? ⟨BJ, 3, none⟩ = some (.int .i64 0) := hI8.cell 3 rfl
        have z8_4 : w8.cell? ⟨BJ, 4, none⟩ = some (.int .i64 0) := hI8.cell 4 rfl; have z8_5 : w8.cell? ⟨BJ, 5, none⟩ = some (.bool false) := hI8.cell 5 rfl; have z8_6 : w8.cell? ⟨BZ, 11, none⟩ = some (.int .i64 bds) := hT8.cell 11 rfl; have z8_7 : w8.cell? ⟨BZ, 3, none⟩ = some (.slice (some ⟨ag, ao, none⟩) NA ac) := hT8.cell 3 rfl; have z8_8 : w8.cell? ⟨ag, ao + k, none⟩ = some (.int .i64 p) := (hm8.bel.cell (p := ⟨ag, ao + k, none⟩) HAC.out.1).trans HAC.out.2; have z8_9 : w8.cell? ⟨BZ, 13, none⟩ = some (.slice (some ⟨lg, lo, none⟩) NL lic) := hT8.cell 13 rfl
        have z8_10 : w8.cell? ⟨lg, lo + k, none⟩ = some (.int .i64 ln) := (hm8.bel.cell (p := ⟨lg, lo + k, none⟩) HLC.out.1).trans HLC.out.2; refine hK.out _ _ (by (try dsimp only); exact ⟨z8_0, z8_1, z8_2, z8_3, z8_4, z8_5, z8_6, z8_7, z8_8, z8_9, z8_10⟩) (fun zH => ?_); clear hK K; (try simp only [putE]); refine wpW_done (by kernel_rfl) ?_ _; clear hI8 hT8 z8_0 z8_1 z8_2 z8_3 z8_4 z8_5 z8_6 z8_7 z8_8 z8_9 z8_10; have HKF : Hid (KeepT [135, 88, 3] w w8) := hd' ((HKV.out.trans (KeepT.below (Below.refl V.heap.size V).drew)).trans (hk8.mono (by simp)))
        have HMF := hd' hm8; clear hk8 hm8
        go_wp2_with fail
        go_end0
        exact HPO2.out _ _ _ _ rfl HKF.out (by rw [HBI.out, ← List.append_assoc]; exact HMF.out)
    · subst h1; have hat := HFT.out.1.2 (by decide); have hpj : bat[k]? = some (bat[k]'(by have := HNA.out; omega)) := gE' _; obtain ⟨p, hpe⟩ := ex' (bat[k]'(by have := HNA.out; omega))
      rw [hpe] at hpj; obtain ⟨ag, ao, haA, hagl0, hac0⟩ := HBR.out.2.1.1.at (intsV_at .i64 hpj); have hacap : NA ≤ ac := by have := HBR.out.2.1.2.1; have h2 := HNA.out; simp only at this; omega
      simp only at haA hac0; subst haA; have HGA : Hid (bat[bco.length]?.getD 0 = p) := hd' (by rw [HNC.out, hpj]; rfl); have HAC := hd' (And.intro hagl0 hac0); have hkA : (k : Int) < (NA : Int) := by omega
      have a4 := HTV.out.cell 4 rfl; have a5 := HTV.out.cell 5 rfl; have a6 := HTV.out.cell 6 rfl; have a7 := HTV.out.cell 7 rfl; have a8 := HTV.out.cell 8 rfl; have a9 := HTV.out.cell 9 rfl; have a12 := HTV.out.cell 12 rfl; clear hpj hpe hac0 hagl0 hat j0 j1 j2 j3 j4 j5 a13 hl2
      go_upto_region 20 with fail
      refine wp_region_W (fun w' => w'.cell? ⟨BZ, 4, none⟩ = some (.int .i64 lk) ∧ w'.cell? ⟨BZ, 5, none⟩ = some (.int .i64 lld) ∧ w'.cell? ⟨BZ, 6, none⟩ = some (.int .i64 la) ∧ w'.cell? ⟨BZ, 7, none⟩ = some (.int .i64 lb) ∧ w'.cell? ⟨BZ, 8, none⟩ = some (.int .i64 lnn) ∧ w'.cell? ⟨BZ, 9, none⟩ = some (.bool llb) ∧ w'.cell? ⟨BZ, 11, none⟩ = some (.int .i64 bds) ∧ w'.cell? ⟨BZ, 12, none⟩ = some (.int .i64 bel)) 9 (by kernel_rfl) (by (try dsimp only); go_keep) (fun zH => ?_); refine wq 0 zH ?_; refine wq 1 zH ?_
      refine wq 2 zH ?_; refine wq 3 zH ?_; refine wq 4 zH ?_; refine wq 5 zH ?_; refine wpW_one 6 rfl (by kernel_rfl) (fun K hK => ?_)
      go_simp
      refine hK.out _ _ (by (try dsimp only); go_keep) (fun zH => ?_); clear hK K; (try simp only [putE]); refine wpW_one 7 rfl (by kernel_rfl) (fun K hK => ?_)
      go_simp
      refine hK.out _ _ (by (try dsimp only); go_keep) (fun zH => ?_); clear hK K; (try simp only [putE]); refine wq 8 zH ?_; refine wq 9 zH ?_; refine wpW_done (by kernel_rfl) ?_ _; obtain ⟨U, hU⟩ := ex' ((V.alloc (.cells #[.int .i64 lk, .int .i64 lld, .int .i64 la, .int .i64 lb, .int .i64 lnn, .bool llb] 55)).drew)
      have hbU : Below V.heap.size V U := by rw [← hU]; exact ((Below.refl _ _).alloc lr' _).drew
      have hiU : Blk U V.heap.size 55 [.int .i64 lk, .int .i64 lld, .int .i64 la, .int .i64 lb, .int .i64 lnn, .bool llb] := by rw [← hU]; exact (Blk.new V _ _).drew
      rw [hU]
      go_upto_region 21 with fail
      obtain ⟨BU, hBU⟩ := ex' V.heap.size
      have HSU : Hid (w.heap.size ≤ BU ∧ W0.heap.size ≤ BU) := hd' (by have h1 := HKV.out.1; have h2 := HMV.out.bel.size; omega); rw [hBU] at hiU
      try rw [hBU]
      have HMU := hd' (HMV.out.below hbU); have HTU := hd' (HTV.out.keep hbU); have HJU := hd' (HIV.out.keep hbU); have HKU : Hid (KeepT [135, 88, 3] w U) := hd' (HKV.out.trans (KeepT.below hbU)); have HIU := hd' hiU; clear hU hbU hiU hBU a4 a5 a6 a7 a8 a9 a10 a11 a12 al jl; have hjl := HJU.out.lt; have hul := HIU.out.lt
      by_cases hA : bds = next ∧ bel ≠ next
      · obtain ⟨hA1, hA2⟩ := hA; have q1 : (bds == next) = true := by simp [hA1]
        have q2 : (bel != next) = true := by simp [hA2]
        have q3 : (bds != next) = false := by simp [hA1]
        have HBI : Hid (blkIts ⟨bf, bst, bco, bat, ⟨lk, lld, la, lb, lnn, llb⟩, 4, bds, bel, bli⟩ next = (codeIts ⟨bf, bst, bco, bat, ⟨lk, lld, la, lb, lnn, llb⟩, 4, bds, bel, bli⟩) ++ [⟨⟨oppK lk, lld, la, lb, lnn, llb⟩, bel, -1, p, ln, 0⟩]) := hd' (by unfold blkIts tailIts; simp [hA1, hA2, HGL.out, HGA.out]); have i0 := HIU.out.cell 0 rfl; have if0 := HIU.out.free 0; clear hA1 hA2; have hlk := HFIT.out.last rfl; simp only at hlk; have HOP := hd' (fun W => opposite_any lk W hlk); clear hlk
        go_wp2_with fail
        refine (HOP.out _).mono ?_; rintro e wo ⟨rfl, hwo⟩; rw [hwo]; clear hwo wo; obtain ⟨OP, hOP⟩ := ex' (oppK lk)
        rw [hOP] at HBI ⊢
        go_upto_region 23 with fail
        obtain ⟨U2, hU2⟩ := ex' (U.setCell ⟨BU, 0, none⟩ (.int .i64 OP))
        have hgU := gb_setCell (gb_refl U (some BU)) 0 (.int .i64 OP); rw [hU2] at hgU; have hty : ∀ q, some BU = some q → TypB U q 55 := fun q e => by injection e with e; subst e; exact HIU.out.typ
        have HM2 : Hid (MkM W0 U2 X m v d (some ⟨g, o, none⟩) yA zA xc yc zc (its ++ (codeIts ⟨bf, bst, bco, bat, ⟨lk, lld, la, lb, lnn, llb⟩, 4, bds, bel, bli⟩)) iA' ic' fg bg fs' bs) := hd' (HMU.out.gbT hgU HIU.out.typ HSU.out.2 (by decide)); have HT2 := hd' (HTU.out.keepT hgU hty (by decide))
        have HK2 : Hid (KeepT [135, 88, 3] w U2) := hd' (by
         refine ⟨Nat.le_trans HKU.out.1 hgU.size, fun q hq ht => ?_⟩
         exact (hgU.block q (Nat.lt_of_lt_of_le hq HKU.out.1) (fun e => by injection e with e; have := HSU.out.1; omega)).trans (HKU.out.2 q hq ht))
        have hi2 : Blk U2 BU 55 [.int .i64 OP, .int .i64 lld, .int .i64 la, .int .i64 lb, .int .i64 lnn, .bool llb] := by rw [← hU2]; exact HIU.out.set 0 _
        try rw [hU2]
        have hul2 := hi2.lt; have HI2 := hd' hi2; have u0 := hi2.cell 0 rfl; have u1 := hi2.cell 1 rfl; have u2 := hi2.cell 2 rfl; have u3 := hi2.cell 3 rfl; have u4 := hi2.cell 4 rfl; have u5 := hi2.cell 5 rfl; have hl2 := (HM2.out.bel.cell (p := ⟨lg, lo + k, none⟩) HLC.out.1).trans HLC.out.2; have hlgl := Nat.lt_of_lt_of_le HLC.out.1 HM2.out.bel.size; have a13 := HT2.out.cell 13 rfl; have al := HT2.out.lt; have ha := (HM2.out.bel.cell (p := ⟨ag, ao + k, none⟩) HAC.out.1).trans HAC.out.2; have hagl := Nat.lt_of_lt_of_le HAC.out.1 HM2.out.bel.size; have a3 := HT2.out.cell 3 rfl
        clear hU2 hgU hty i0 if0 hi2 hOP hul hjl
        refine wp_region_W (fun w' => w'.cell? ⟨BU, 0, none⟩ = some (.int .i64 OP) ∧ w'.cell? ⟨BU, 1, none⟩ = some (.int .i64 lld) ∧ w'.cell? ⟨BU, 2, none⟩ = some (.int .i64 la) ∧ w'.cell? ⟨BU, 3, none⟩ = some (.int .i64 lb) ∧ w'.cell? ⟨BU, 4, none⟩ = some (.int .i64 lnn) ∧ w'.cell? ⟨BU, 5, none⟩ = some (.bool llb) ∧ w'.cell? ⟨BZ, 3, none⟩ = some (.slice (some ⟨ag, ao, none⟩) NA ac) ∧ w'.cell? ⟨ag, ao + k, none⟩ = some (.int .i64 p) ∧ w'.cell? ⟨BZ, 13, none⟩ = some (.slice (some ⟨lg, lo, none⟩) NL lic) ∧ w'.cell? ⟨lg, lo + k, none⟩ = some (.int .i64 ln)) 14 (by kernel_rfl) (by (try dsimp only); go_keep) (fun zH => ?_)
        refine wq 0 zH ?_; refine wq 1 zH ?_; refine wq 2 zH ?_; refine wq 3 zH ?_; refine wq 4 zH ?_; refine wq 5 zH ?_; refine wq 6 zH ?_; refine wq 7 zH ?_; refine wq 8 zH ?_; refine wq 9 zH ?_; refine wq 10 zH ?_; refine wq 11 zH ?_
        refine wq 12 zH ?_; refine wpW_one 13 rfl (by kernel_rfl) (fun K hK => ?_)
        go_simp
        refine (add_any (HM2.out.below (Below.refl U2.heap.size U2).drew) (Nat.le_trans HML.out (by decide)) OP lld la lb lnn llb bel (-1) p ln).mono ?_; rintro e w8 ⟨rfl, hk8, iA8, ic8, hm8⟩; have hI8 := hk8.blk (Blk.drew HI2.out) (by decide); have hT8 := hk8.blk (Blk.drew HT2.out) (by decide); have z8_0 : w8.cell? ⟨BU, 0, none⟩ = some (.int .i64 OP) := hI8.cell 0 rfl; have z8_1 : w8.cell? ⟨BU, 1, none⟩ = some (.int .i64 lld) := hI8.cell 1 rfl; have z8_2 : w8.cell? ⟨BU, 2, none⟩ = some (.int .i64 la) := hI8.cell 2 rfl; have z8_3 : w8.cell? ⟨BU, 3, none⟩ = some (.int .i64 lb) := hI8.cell 3 rfl
        have z8_4 : w8.cell? ⟨BU, 4, none⟩ = some (.int .i64 lnn) := hI8.cell 4 rfl; have z8_5 : w8.cell? ⟨BU, 5, none⟩ = some (.bool llb) := hI8.cell 5 rfl; have z8_6 : w8.cell? ⟨BZ, 3, none⟩ = some (.slice (some ⟨ag, ao, none⟩) NA ac) := hT8.cell 3 rfl; have z8_7 : w8.cell? ⟨ag, ao + k, none⟩ = some (.int .i64 p) := (hm8.bel.cell (p := ⟨ag, ao + k, none⟩) HAC.out.1).trans HAC.out.2; have z8_8 : w8.cell? ⟨BZ, 13, none⟩ = some (.slice (some ⟨lg, lo, none⟩) NL lic) := hT8.cell 13 rfl
        have z8_9 : w8.cell? ⟨lg, lo + k, none⟩ = some (.int .i64 ln) := (hm8.bel.cell (p := ⟨lg, lo + k, none⟩) HLC.out.1).trans HLC.out.2; refine hK.out _ _ (by (try dsimp only); exact ⟨z8_0, z8_1, z8_2, z8_3, z8_4, z8_5, z8_6, z8_7, z8_8, z8_9⟩) (fun zH => ?_); clear hK K; (try simp only [putE]); refine wpW_done (by kernel_rfl) ?_ _; clear hI8 hT8 z8_0 z8_1 z8_2 z8_3 z8_4 z8_5 z8_6 z8_7 z8_8 z8_9; have HKF : Hid (KeepT [135, 88, 3] w w8) := hd' ((HK2.out.trans (KeepT.below (Below.refl U2.heap.size U2).drew)).trans (hk8.mono (by simp)))
        have HMF := hd' hm8; clear hk8 hm8
        go_wp2_with fail
        go_end0
        exact HPO2.out _ _ _ _ rfl HKF.out (by rw [HBI.out, ← List.append_assoc]; exact HMF.out)
      · have hA3 : ¬ (bds = next ∧ bel ≠ next) := hA
        have q1 : ((bds == next) = true ∧ (bel != next) = false) ∨ (bds == next) = false := by
         by_cases e : bds = next
         · left
           refine ⟨by simp [e], ?_⟩; rcases Classical.em (bel = next) with e2 | e2
           · simp [e2]
           · exact absurd ⟨e, e2⟩ hA3
         · right
           simp [e]
        have hl2 := (HMU.out.bel.cell (p := ⟨lg, lo + k, none⟩) HLC.out.1).trans HLC.out.2; have hlgl := Nat.lt_of_lt_of_le HLC.out.1 HMU.out.bel.size; have a13 := HTU.out.cell 13 rfl; have al := HTU.out.lt; have ha := (HMU.out.bel.cell (p := ⟨ag, ao + k, none⟩) HAC.out.1).trans HAC.out.2; have hagl := Nat.lt_of_lt_of_le HAC.out.1 HMU.out.bel.size; have a3 := HTU.out.cell 3 rfl; have u0 := HIU.out.cell 0 rfl; have u1 := HIU.out.cell 1 rfl; have u2 := HIU.out.cell 2 rfl; have u3 := HIU.out.cell 3 rfl; have u4 := HIU.out.cell 4 rfl; have u5 := HIU.out.cell 5 rfl; clear hA
        have HBI : Hid (blkIts ⟨bf, bst, bco, bat, ⟨lk, lld, la, lb, lnn, llb⟩, 4, bds, bel, bli⟩ next = (codeIts ⟨bf, bst, bco, bat, ⟨lk, lld, la, lb, lnn, llb⟩, 4, bds, bel, bli⟩) ++ (⟨⟨lk, lld, la, lb, lnn, llb⟩, bds, -1, p, ln, 0⟩ :: if bel = next then [] else [⟨⟨22, 0, 0, 0, 0, false⟩, bel, -1, -1, ln, 0⟩])) := hd' (by unfold blkIts tailIts jmpI; rw [if_neg (by simp), if_neg (by simp), if_pos rfl, if_neg hA3]; simp [HGL.out, HGA.out]); have HQ1 := hd' q1; clear hA3 q1
        go_cut [121] (fun s121 wx => s121 = .bool false ∧ wx = U)
        case first =>
         rcases HQ1.out with ⟨q1, q2⟩ | q1
         all_goals
          go_wp2_with fail
          go_meet
          exact ⟨rfl, rfl⟩
        case rest =>
         obtain ⟨rfl, hcw⟩ := hcut; rw [hcw]; clear hcw
         go_upto_region 23 with fail
         refine wp_region_W (fun w' => w'.cell? ⟨BU, 0, none⟩ = some (.int .i64 lk) ∧ w'.cell? ⟨BU, 1, none⟩ = some (.int .i64 lld) ∧ w'.cell? ⟨BU, 2, none⟩ = some (.int .i64 la) ∧ w'.cell? ⟨BU, 3, none⟩ = some (.int .i64 lb) ∧ w'.cell? ⟨BU, 4, none⟩ = some (.int .i64 lnn) ∧ w'.cell? ⟨BU, 5, none⟩ = some (.bool llb) ∧ w'.cell? ⟨BZ, 3, none⟩ = some (.slice (some ⟨ag, ao, none⟩) NA ac) ∧ w'.cell? ⟨ag, ao + k, none⟩ = some (.int .i64 p) ∧ w'.cell? ⟨BZ, 13, none⟩ = some (.slice (some ⟨lg, lo, none⟩) NL lic) ∧ w'.cell? ⟨lg, lo + k, none⟩ = some (.int .i64 ln)) 14 (by kernel_rfl) (by (try dsimp only); go_keep) (fun zH => ?_)
         refine wq 0 zH ?_; refine wq 1 zH ?_; refine wq 2 zH ?_; refine wq 3 zH ?_; refine wq 4 zH ?_; refine wq 5 zH ?_; refine wq 6 zH ?_; refine wq 7 zH ?_; refine wq 8 zH ?_; refine wq 9 zH ?_; refine wq 10 zH ?_; refine wq 11 zH ?_
         refine wq 12 zH ?_; refine wpW_one 13 rfl (by kernel_rfl) (fun K hK => ?_)
         go_simp
         refine (add_any (HMU.out.below (Below.refl U.heap.size U).drew) (Nat.le_trans HML.out (by decide)) lk lld la lb lnn llb bds (-1) p ln).mono ?_; rintro e w8 ⟨rfl, hk8, iA8, ic8, hm8⟩; have hI8 := hk8.blk (Blk.drew HIU.out) (by decide); have hT8 := hk8.blk (Blk.drew HTU.out) (by decide); have z8_0 : w8.cell? ⟨BU, 0, none⟩ = some (.int .i64 lk) := hI8.cell 0 rfl; have z8_1 : w8.cell? ⟨BU, 1, none⟩ = some (.int .i64 lld) := hI8.cell 1 rfl; have z8_2 : w8.cell? ⟨BU, 2, none⟩ = some (.int .i64 la) := hI8.cell 2 rfl; have z8_3 : w8.cell? ⟨BU, 3, none⟩ = some (.int .i64 lb) := hI8.cell 3 rfl
         have z8_4 : w8.cell? ⟨BU, 4, none⟩ = some (.int .i64 lnn) := hI8.cell 4 rfl; have z8_5 : w8.cell? ⟨BU, 5, none⟩ = some (.bool llb) := hI8.cell 5 rfl; have z8_6 : w8.cell? ⟨BZ, 3, none⟩ = some (.slice (some ⟨ag, ao, none⟩) NA ac) := hT8.cell 3 rfl; have z8_7 : w8.cell? ⟨ag, ao + k, none⟩ = some (.int .i64 p) := (hm8.bel.cell (p := ⟨ag, ao + k, none⟩) HAC.out.1).trans HAC.out.2; have z8_8 : w8.cell? ⟨BZ, 13, none⟩ = some (.slice (some ⟨lg, lo, none⟩) NL lic) := hT8.cell 13 rfl
         have z8_9 : w8.cell? ⟨lg, lo + k, none⟩ = some (.int .i64 ln) := (hm8.bel.cell (p := ⟨lg, lo + k, none⟩) HLC.out.1).trans HLC.out.2; refine hK.out _ _ (by (try dsimp only); exact ⟨z8_0, z8_1, z8_2, z8_3, z8_4, z8_5, z8_6, z8_7, z8_8, z8_9⟩) (fun zH => ?_); clear hK K; (try simp only [putE]); refine wpW_done (by kernel_rfl) ?_ _; clear hI8 hT8 z8_0 z8_1 z8_2 z8_3 z8_4 z8_5 z8_6 z8_7 z8_8 z8_9; have HK8 : Hid (KeepT [135, 88, 3] w w8) := hd' ((HKU.out.trans (KeepT.below (Below.refl U.heap.size U).drew)).trans (hk8.mono (by simp)))
         have HM8 := hd' hm8; have HT8 := hd' (hk8.blk HTU.out.drew (by decide)); have HJ8 := hd' (hk8.blk HJU.out.drew (by decide)); clear hk8 hm8 u0 u1 u2 u3 u4 u5 a3 ha hagl a13 al hl2 hlgl hjl hul
         by_cases hd : bel = next
         · have qd : (bel != next) = false := by simp [hd]
           have HB2 : Hid (blkIts ⟨bf, bst, bco, bat, ⟨lk, lld, la, lb, lnn, llb⟩, 4, bds, bel, bli⟩ next = (codeIts ⟨bf, bst, bco, bat, ⟨lk, lld, la, lb, lnn, llb⟩, 4, bds, bel, bli⟩) ++ [⟨⟨lk, lld, la, lb, lnn, llb⟩, bds, -1, p, ln, 0⟩]) := hd' (by rw [HBI.out, if_pos hd]); clear hd
           go_wp2_with fail
           go_end0
           exact HPO2.out _ _ _ _ rfl HK8.out (by rw [HB2.out, ← List.append_assoc]; exact HM8.out)
         · have qd : (bel != next) = true := by simp [hd]
           have HB2 : Hid (blkIts ⟨bf, bst, bco, bat, ⟨lk, lld, la, lb, lnn, llb⟩, 4, bds, bel, bli⟩ next = ((codeIts ⟨bf, bst, bco, bat, ⟨lk, lld, la, lb, lnn, llb⟩, 4, bds, bel, bli⟩) ++ [⟨⟨lk, lld, la, lb, lnn, llb⟩, bds, -1, p, ln, 0⟩]) ++ [⟨⟨22, 0, 0, 0, 0, false⟩, bel, -1, -1, ln, 0⟩]) := hd' (by rw [HBI.out, if_neg hd]; simp)
           have HML2 : Hid ((its ++ (codeIts ⟨bf, bst, bco, bat, ⟨lk, lld, la, lb, lnn, llb⟩, 4, bds, bel, bli⟩) ++ [(⟨⟨lk, lld, la, lb, lnn, llb⟩, bds, -1, p, ln, 0⟩ : ItD)]).length ≤ 1000000) := hd' (by
            have := HML.out; rw [List.length_append, List.length_singleton]
            omega)
           clear hd; have hl2 := (HM8.out.bel.cell (p := ⟨lg, lo + k, none⟩) HLC.out.1).trans HLC.out.2; have hlgl := Nat.lt_of_lt_of_le HLC.out.1 HM8.out.bel.size; have a13 := HT8.out.cell 13 rfl; have al := HT8.out.lt; have j0 := HJ8.out.cell 0 rfl; have j1 := HJ8.out.cell 1 rfl; have j2 := HJ8.out.cell 2 rfl; have j3 := HJ8.out.cell 3 rfl; have j4 := HJ8.out.cell 4 rfl; have j5 := HJ8.out.cell 5 rfl; have jl := HJ8.out.lt
           go_upto_region 25 with fail
           refine wp_region_W (fun w' => w'.cell? ⟨BJ, 0, none⟩ = some (.int .i64 22) ∧ w'.cell? ⟨BJ, 1, none⟩ = some (.int .i64 0) ∧ w'.cell? ⟨BJ, 2, none⟩ = some (.int .i64 0) ∧ w'.cell? ⟨BJ, 3, none⟩ = some (.int .i64 0) ∧ w'.cell? ⟨BJ, 4, none⟩ = some (.int .i64 0) ∧ w'.cell? ⟨BJ, 5, none⟩ = some (.bool false) ∧ w'.cell? ⟨BZ, 13, none⟩ = some (.slice (some ⟨lg, lo, none⟩) NL lic) ∧ w'.cell? ⟨lg, lo + k, none⟩ = some (.int .i64 ln)) 9 (by kernel_rfl) (by (try dsimp only); go_keep) (fun zH => ?_); refine wq 0 zH ?_; refine wq 1 zH ?_; refine wq 2 zH ?_; refine wq 3 zH ?_; refine wq 4 zH ?_; refine wq 5 zH ?_; refine wq 6 zH ?_; refine wq 7 zH ?_; refine wpW_one 8 rfl (by kernel_rfl) (fun K hK => ?_)
           go_simp
           refine (add_any (HM8.out.below (Below.refl w8.heap.size w8).drew) HML2.out 22 0 0 0 0 false bel (-1) (-1) ln).mono ?_; rintro e w9 ⟨rfl, hk9, iA9, ic9, hm9⟩; have hI9 := hk9.blk (Blk.drew HJ8.out) (by decide); have hT9 := hk9.blk (Blk.drew HT8.out) (by decide); have z9_0 : w9.cell? ⟨BJ, 0, none⟩ = some (.int .i64 22) := hI9.cell 0 rfl; have z9_1 : w9.cell? ⟨BJ, 1, none⟩ = some (.int .i64 0) := hI9.cell 1 rfl; have z9_2 : w9.cell? ⟨BJ, 2, none⟩ = some (.int .i64 0) := hI9.cell 2 rfl; have z9_3 : w9.cell? ⟨BJ, 3, none⟩ = some (.int .i64 0) := hI9.cell 3 rfl
           have z9_4 : w9.cell? ⟨BJ, 4, none⟩ = some (.int .i64 0) := hI9.cell 4 rfl; have z9_5 : w9.cell? ⟨BJ, 5, none⟩ = some (.bool false) := hI9.cell 5 rfl; have z9_6 : w9.cell? ⟨BZ, 13, none⟩ = some (.slice (some ⟨lg, lo, none⟩) NL lic) := hT9.cell 13 rfl; have z9_7 : w9.cell? ⟨lg, lo + k, none⟩ = some (.int .i64 ln) := (hm9.bel.cell (p := ⟨lg, lo + k, none⟩) HLC.out.1).trans HLC.out.2; refine hK.out _ _ (by (try dsimp only); exact ⟨z9_0, z9_1, z9_2, z9_3, z9_4, z9_5, z9_6, z9_7⟩) (fun zH => ?_); clear hK K; (try simp only [putE]); refine wpW_done (by kernel_rfl) ?_ _
           clear hI9 hT9 z9_0 z9_1 z9_2 z9_3 z9_4 z9_5 z9_6 z9_7; have HKF : Hid (KeepT [135, 88, 3] w w9) := hd' ((HK8.out.trans (KeepT.below (Below.refl w8.heap.size w8).drew)).trans (hk9.mono (by simp))); have HMF := hd' hm9; clear hk9 hm9
           go_wp2_with fail
           go_end0
           exact HPO2.out _ _ _ _ rfl HKF.out (by rw [HB2.out, ← List.append_assoc, ← List.append_assoc]; exact HMF.out)
end Go.Proofs.YtcafhoobeggmeaaDoor
