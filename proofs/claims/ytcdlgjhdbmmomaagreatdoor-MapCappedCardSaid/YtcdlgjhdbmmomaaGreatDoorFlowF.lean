/- mark, walked. -/
import Derived.Test.YtcdlgjhdbmmomaaGreatDoorFlowE
import Derived.Test.YtcdlgjhdbmmomaaGreatDoorRegX
import Derived.Deep.DeepCutAuto
import Derived.Deep.CutBlock
import Derived.Deep.QuietTactic
import Derived.BigQuiet
import Derived.IntWalk
namespace Go.Proofs.YtcdlgjhdbmmomaaGreatDoor
open Go.RowKit Go.Deep
def SpOk (s : Sp) : Prop := (0 ≤ s.p ∧ s.p ≤ 8000) ∧ (0 ≤ s.z ∧ s.z ≤ 4) ∧ (-1000000 ≤ s.i.n ∧ s.i.n ≤ 1000000) ∧ (s.i.k = 24 → 0 ≤ s.i.n)
def MarkPost (w : World) (L n : Nat) (R : Option (Int → Bool)) (e : Ending) (w' : World) : Prop :=
 w.grownBy w' (some L) ∧ (R = none → e = .returned (.int .i64 9)) ∧ ∀ ld, R = some ld → e = .returned (.int .i64 0) ∧ MapB w' L n ld
structure MarkSt (w wr : World) (B H X : Nat) (m : Img) (v : ImgV) (aA : Option Addr) (ac : Nat) (all : List (List Sp)) (o no : Nat) (own : Int → Option Int) (L k : Nat) (R3 : List Value) (f : Nat) (n : Nat) (ld : Int → Bool) (ab ao : Nat) (sA : Option Addr) (sc : Nat) (sp : List Sp) : Prop where
 fin : FinRd wr B H X m v aA ac all o no own L k R3
 ldr : MapB wr L n ld
 gx : Blk wr w.heap.size 108 [.pointer (some ⟨X, 0, none⟩)]
 gf : Blk wr (w.heap.size + 1) 3 [.int .i64 f]
 grw : w.grownBy wr (some L)
 row : RdG wr H sA (spsV sp)
 rowa : RdG wr H (some ⟨ab, ao + f, none⟩) [.slice sA sp.length sc]
theorem MarkSt.below {w wr w' : World} {B H X : Nat} {m : Img} {v : ImgV} {aA : Option Addr} {ac : Nat} {all : List (List Sp)} {o no : Nat} {own : Int → Option Int} {L k : Nat} {R3 : List Value} {f n : Nat} {ld : Int → Bool} {ab ao : Nat} {sA : Option Addr} {sc : Nat} {sp : List Sp} (h : MarkSt w wr B H X m v aA ac all o no own L k R3 f n ld ab ao sA sc sp) (hb : Below wr.heap.size wr w') : MarkSt w w' B H X m v aA ac all o no own L k R3 f n ld ab ao sA sc sp :=
 ⟨h.fin.below hb, h.ldr.keep hb, h.gx.keep hb, h.gf.keep hb, gb_trans h.grw (gb_below hb), h.row.below (hb.mono h.fin.hH), h.rowa.below (hb.mono h.fin.hH)⟩
theorem MarkSt.drew {w wr : World} {B H X : Nat} {m : Img} {v : ImgV} {aA : Option Addr} {ac : Nat} {all : List (List Sp)} {o no : Nat} {own : Int → Option Int} {L k : Nat} {R3 : List Value} {f n : Nat} {ld : Int → Bool} {ab ao : Nat} {sA : Option Addr} {sc : Nat} {sp : List Sp} (h : MarkSt w wr B H X m v aA ac all o no own L k R3 f n ld ab ao sA sc sp) (q : Nat) : MarkSt w (wr.drewN q) B H X m v aA ac all o no own L k R3 f n ld ab ao sA sc sp :=
 h.below (below_dN (Below.refl _ _) q)
theorem MarkSt.up {w wr w' : World} {B H X : Nat} {m : Img} {v : ImgV} {aA : Option Addr} {ac : Nat} {all : List (List Sp)} {o no : Nat} {own : Int → Option Int} {L k : Nat} {R3 : List Value} {f n n' : Nat} {ld ld' : Int → Bool} {ab ao : Nat} {sA : Option Addr} {sc : Nat} {sp : List Sp} (h : MarkSt w wr B H X m v aA ac all o no own L k R3 f n ld ab ao sA sc sp) (hg : wr.grownBy w' (some L)) (hm : MapB w' L n' ld') : MarkSt w w' B H X m v aA ac all o no own L k R3 f n' ld' ab ao sA sc sp :=
 ⟨h.fin.keepL hg h.ldr, hm, h.gx.keepM hg h.ldr, h.gf.keepM hg h.ldr, gb_trans h.grw hg, h.row.keepM hg h.ldr, h.rowa.keepM hg h.ldr⟩
set_option maxHeartbeats 8000000 in
set_option maxRecDepth 100000 in
theorem fin_mark {B H X : Nat} {m : Img} {v : ImgV} {aA : Option Addr} {ac : Nat} {all : List (List Sp)} {o no : Nat} {own : Int → Option Int} {L k : Nat} {R3 : List Value} (f n : Nat) (fd : FnD) (sp : List Sp) (ld : Int → Bool) (w : World)
 (hF : FinRd w B H X m v aA ac all o no own L k R3) (hM : MapB w L n ld) (hn : n + 2 * sp.length + 2 < 1000000000000) (hf : m.funcs[f]? = some fd) (hs : all[f]? = some sp) (hO : ImgOk m v) (hst : N64 fd.start)
 (hsp : ∀ s ∈ sp, SpOk s) :
 Calls Tryz.prog 57 #[.pointer (some ⟨X, 0, none⟩), .int .i64 f] w (MarkPost w L (n + 1 + 2 * sp.length) (markGo m own f sp (upF ld fd.start true))) := by
 obtain ⟨vs, hvl, hvr, hvj⟩ := hF.rows; obtain ⟨sA, sc, hv1, hsc, hsr⟩ := hvj f sp hs; obtain ⟨ab, ao, haa, hab, hvc⟩ := hvr (by intro e; rw [e] at hv1; cases hv1); subst haa
 have hra : RdG w H (some ⟨ab, ao + f, none⟩) [.slice sA sp.length sc] := fun _ => ⟨ab, ao + f, rfl, hab, fun x u hu => by
  rcases x with _ | x
  · simp only [List.getElem?_cons_zero, Option.some.injEq] at hu; subst hu; exact hvc f _ hv1
  · simp at hu⟩
 clear hvl hvr hvj hv1 hvc hab vs; have hfl := (List.getElem?_eq_some_iff.1 hf).1; have hal3 := (List.getElem?_eq_some_iff.1 hs).1; have hO1 := hO.fl; have hO2 := hO.fc; obtain ⟨tA, tc, fA, fc, bA, bc, dA, dc, lA, lc⟩ := v; simp only at hO2; obtain ⟨fname, st, fsz⟩ := fd; simp only at hst ⊢; obtain ⟨ld0, hld0⟩ := ex' (upF ld st true)
 obtain ⟨R, hR⟩ := ex' (markGo m own f sp (upF ld st true))
 rw [hR]; rw [hld0] at hR; have HR := hd' hR; have HL0 := hd' hld0; have HF := hd' hF; have HM := hd' hM; have HO := hd' hO; have HSP := hd' hsp; have HFN := hd' hf; have HS := hd' hs; obtain ⟨nf, hnf⟩ := ex' m.funcs.length
 obtain ⟨nb, hnb⟩ := ex' m.tables.length
 obtain ⟨an, han⟩ := ex' all.length
 obtain ⟨sl, hsl'⟩ := ex' sp.length
 rw [hnf] at hfl hO1 hO2; rw [han] at hal3; rw [hsl'] at hn hsc ⊢; have HNF := hd' hnf; have HNB := hd' hnb; have HAN := hd' han; have HSL := hd' hsl'; have hflI : (f : Int) < (nf : Int) := by omega
 have halI : (f : Int) < (an : Int) := by omega
 clear hR hF hM hO hsp hf hs hnf hnb han hsl' hld0
 go_enter Tryz.func57, Tryz.ntmps57
 go_upto_region 1 with fail
 obtain ⟨W, hW⟩ := ex' (((w.alloc (.cells #[.pointer (some ⟨X, 0, none⟩)] 108)).alloc (.cells #[.int .i64 f] 3)))
 rw [hW]
 have hS0 : MarkSt w W B H X m ⟨tA, tc, fA, fc, bA, bc, dA, dc, lA, lc⟩ (some ⟨ab, ao, none⟩) ac all o no own L k R3 f n ld ab ao sA sc sp := by
  have hb : Below w.heap.size w W := by rw [← hW]; exact ((Below.refl _ _).alloc lr' _).alloc (by simp) _
  exact ⟨HF.out.below hb, HM.out.keep hb, by rw [← hW]; exact (Blk.new w _ _).alloc _, by rw [← hW]; exact Blk.new2 w _ _ _, gb_below hb, hsr.below (hb.mono HF.out.hH), hra.below (hb.mono HF.out.hH)⟩
 clear hW; have HS0 := hd' hS0; have b_ := hS0.fin.blk; unfold finC at b_; rw [HNF.out, HNB.out, HAN.out] at b_; simp only at b_; have y_gx := hS0.gx.cell 0 rfl; have y_gf := hS0.gf.cell 0 rfl; have y_L := b_.cell 8 rfl; have y_fn := b_.cell 1 rfl; obtain ⟨fb, fo, hfa, hfb, -, y_st, -⟩ := (hS0.fin.img.funcs).at3 HFN.out; simp only at hfa y_st; subst hfa; obtain ⟨W1, hup, hm1, hg1⟩ := (show MapB W.drew L n ld from hS0.ldr).update (by omega) hst true; have lX := b_.lt; have lgx := hS0.gx.lt; have lgf := hS0.gf.lt; clear hS0 b_ hsr hra
 refine wp_region_W (fun w' => w'.cell? ⟨w.heap.size, 0, none⟩ = some (.pointer (some ⟨X, 0, none⟩)) ∧ w'.cell? ⟨X, 8, none⟩ = some (.map (some L)) ∧ w'.cell? ⟨X, 1, none⟩ = some (.slice (some ⟨fb, fo, none⟩) nf fc) ∧ w'.cell? ⟨w.heap.size + 1, 0, none⟩ = some (.int .i64 f) ∧ w'.cell? ⟨fb, fo + f * 3 + 1, none⟩ = some (.int .i64 st)) 13 (by kernel_rfl) (by (try dsimp only); go_keep) (fun zH => ?_); refine wq 0 zH ?_; refine wq 1 zH ?_; refine wq 2 zH ?_; refine wq 3 zH ?_
 refine wq 4 zH ?_; refine wq 5 zH ?_; refine wq 6 zH ?_; refine wq 7 zH ?_; refine wq 8 zH ?_; refine wq 9 zH ?_; refine wq 10 zH ?_; refine wq 11 zH ?_; refine wq 12 zH ?_; refine wpW_last 13 rfl (by kernel_rfl) (by decide) (fun K hK => ?_)
 go_simp
 refine hK.out _ _ ?_; clear hK K; (try simp only [putE]); refine wpW_done (by kernel_rfl) ?_ _
 have hS1 : MarkSt w W1 B H X m ⟨tA, tc, some ⟨fb, fo, none⟩, fc, bA, bc, dA, dc, lA, lc⟩ (some ⟨ab, ao, none⟩) ac all o no own L k R3 f (n + 1) ld0 ab ao sA sc sp := by
  rw [← HL0.out]; exact (HS0.out.drew 1).up hg1 hm1
 clear hup hm1 hg1 HS0 y_gx y_gf y_L y_fn y_st lX lgx lgf; have b_ := hS1.fin.blk; unfold finC at b_; rw [HNF.out, HNB.out, HAN.out] at b_; simp only at b_; have y_gx := hS1.gx.cell 0 rfl; have y_gf := hS1.gf.cell 0 rfl; have y_all := b_.cell 6 rfl; have y_row := (hS1.rowa.at (j := 0) rfl)
 obtain ⟨ab', ao', hab, -, y_row⟩ := y_row; injection hab with hab; injection hab with h1 h2 _; subst h1 h2; rw [HSL.out] at y_row; simp only [Nat.add_zero] at y_row; have HS1 := hd' hS1; clear hS1 b_
 go_upto_region 2 with fail
 go_quiet (fail)
 go_wp2_with fail
 go_loopg [29] sl (fun gk s29 wr => ∃ (j nj : Nat) (lj : Int → Bool), j ≤ sl ∧ s29 = .int .i64 j ∧ Hid (markGo m own f (sp.take j) ld0 = some lj) ∧ nj ≤ n + 1 + 2 * j ∧ Hid (MarkSt w wr B H X m ⟨tA, tc, some ⟨fb, fo, none⟩, fc, bA, bc, dA, dc, lA, lc⟩ (some ⟨ab, ao, none⟩) ac all o no own L k R3 f nj lj ab ao sA sc sp) ∧ sl - j ≤ gk)
 case atStart => exact ⟨0, n + 1, ld0, Nat.zero_le _, rfl, hd' rfl, by omega, hd' (HS1.out.drew _), Nat.le_refl _⟩
 case round =>
  obtain ⟨j, nj, lj, hj, rfl, HG, hnj, HST, hgk⟩ := hrel
  by_cases hjl : j < sl
  · have hx : sp[j]? = some (sp[j]'(by rw [HSL.out]; exact hjl)) := gE' _; obtain ⟨s, hse⟩ := ex' (sp[j]'(by rw [HSL.out]; exact hjl))
    rw [hse] at hx; have hok := HSP.out s (mG' hx); obtain ⟨⟨p1, p2⟩, ⟨z1, z2⟩, ⟨n1, n2⟩, n3⟩ := hok
    have HNX : Hid (markGo m own f (sp.take (j + 1)) ld0 = markS m own f s lj) := hd' (by
     rw [List.take_add_one, hx]; show markGo m own f (sp.take j ++ [s]) ld0 = _; rw [markGo_snoc, HG.out]
     rfl)
    have HNO : Hid (markS m own f s lj = none → R = none) := hd' (fun h => by
     rw [← HR.out, ← List.take_append_drop (j + 1) sp]
     exact markGo_none m own f _ _ _ (by rw [HNX.out, h]))
    obtain ⟨sb, so, hsa, hsb, hcs⟩ := HST.out.row (by intro e; have := spsV_at hx 0 _ rfl; rw [e] at this; simp at this); have HX := hd' hx; obtain ⟨p, z, ⟨ik, id, ia, ib, inn, il⟩⟩ := s; simp only at p1 p2 z1 z2 n1 n2 n3; have c0 := hcs _ _ (spsV_at hx 0 _ rfl); have c1 := hcs _ _ (spsV_at hx 1 _ rfl); have c2 := hcs _ _ (spsV_at hx 2 _ rfl); have c3 := hcs _ _ (spsV_at hx 3 _ rfl); have c4 := hcs _ _ (spsV_at hx 4 _ rfl); have c5 := hcs _ _ (spsV_at hx 5 _ rfl); have c6 := hcs _ _ (spsV_at hx 6 _ rfl); have c7 := hcs _ _ (spsV_at hx 7 _ rfl)
    simp only [Nat.add_zero, ← Nat.add_assoc] at c0 c1 c2 c3 c4 c5 c6 c7; have hjI : (j : Int) < (sl : Int) := by omega
    have hwt : IntKind.i64.wrap (p + inn) = p + inn := IntWalk.i64_in _ (by omega); have hwz : IntKind.i64.wrap (p + z) = p + z := IntWalk.i64_in _ (by omega); have HHX := hd' hx; have y_gx := HST.out.gx.cell 0 rfl; have y_gf := HST.out.gf.cell 0 rfl; subst hsa; clear hx hse hcs hsb
    go_wp2_with fail
    obtain ⟨W5, hW5⟩ := ex' (((wr.alloc (.cells #[.int .i64 p, .int .i64 z, .int .i64 ik, .int .i64 id, .int .i64 ia, .int .i64 ib, .int .i64 inn, .bool il] 119)).alloc (.cells #[.int .i64 (p + inn)] 3)))
    rw [hW5]; have hb5 : Below wr.heap.size wr W5 := by rw [← hW5]; exact ((Below.refl _ _).alloc lr' _).alloc (by simp) _
    have hsp5 : Blk W5 wr.heap.size 119 [.int .i64 p, .int .i64 z, .int .i64 ik, .int .i64 id, .int .i64 ia, .int .i64 ib, .int .i64 inn, .bool il] := by rw [← hW5]; exact (Blk.new wr _ _).alloc _
    have hto5 : Blk W5 (wr.heap.size + 1) 3 [.int .i64 (p + inn)] := by rw [← hW5]; exact Blk.new2 wr _ _ _
    have hst5 := HST.out.below hb5; refine (branch_any ik id ia ib inn il W5).mono ?_; rintro e w6 ⟨rfl, hb6⟩; have hst6 := hst5.below hb6; have hsp6 := hsp5.keep hb6; have hto6 := hto5.keep hb6; clear hW5 hb5 hsp5 hto5 hst5 hb6 y_gx y_gf c0 c1 c2 c3 c4 c5 c6 c7; have p0 := hsp6.cell 0 rfl; have p1' := hsp6.cell 1 rfl; have p2' := hsp6.cell 2 rfl; have p3' := hsp6.cell 3 rfl; have p4' := hsp6.cell 4 rfl; have p5' := hsp6.cell 5 rfl; have p6' := hsp6.cell 6 rfl; have p7' := hsp6.cell 7 rfl; have t0 := hto6.cell 0 rfl; have y_gx := hst6.gx.cell 0 rfl; have y_gf := hst6.gf.cell 0 rfl
    have b_ := hst6.fin.blk; unfold finC at b_; rw [HNF.out, HNB.out, HAN.out] at b_; simp only at b_; have y_fn := b_.cell 1 rfl; have y_bt := b_.cell 2 rfl; have y_ow := b_.cell 7 rfl; have y_L := b_.cell 8 rfl; have HST6 := hd' hst6; have HSP6 := hd' hsp6; have HTO6 := hd' hto6; have lgx := hst6.gx.lt; have lgf := hst6.gf.lt; have lX := b_.lt; have lsp := hsp6.lt; have lto := hto6.lt; clear hst6 hsp6 hto6 b_; obtain ⟨br, hbr⟩ := ex' (branchI ⟨ik, id, ia, ib, inn, il⟩)
    rw [hbr]; have HBR := hd' hbr; clear hbr
    go_upto_if 39 with fail
    go_cut [39] (fun s39 wx => w6 = wx ∧ s39 = .bool (br || ik == 22))
    case first =>
     cases br
     · go_wp2
       go_meet
       exact ⟨rfl, rfl⟩
     · go_wp2
       go_meet
       exact ⟨rfl, rfl⟩
    case rest =>
     obtain ⟨rfl, rfl⟩ := hcut
     by_cases hbj : (br || ik == 22) = true
     · rw [hbj]
       go_wp2_with fail
       refine (fin_inside X o no own (f : Int) (p + inn) w6 y_ow HST6.out.fin.own ⟨by omega, by omega⟩).mono ?_; rintro e w7' ⟨rfl, rfl⟩
       by_cases hin : (own (p + inn) == some (f : Int)) = true
       · rw [hin]
         have HMS : Hid (markS m own f ⟨p, z, ⟨ik, id, ia, ib, inn, il⟩⟩ lj = some (upF (upF lj (p + inn) true) (p + z) true)) := hd' (by
          unfold markS; rw [if_pos (by rw [HBR.out]; exact hbj)]
          exact if_pos hin)
         have MI : MapB w6.drew L nj lj := HST6.out.ldr; obtain ⟨x1, st1, w7, w8, r7, r8, hm8, hg8, hg7⟩ := MI.entry (by omega) (k := p + inn) ⟨by omega, by omega⟩ true; obtain ⟨x2, st2, w9, w10, r9, r10, hm10, hg10, hg9⟩ := hm8.entry (by omega) (k := p + z) ⟨by omega, by omega⟩ true; have q7_gx := (Blk.keepM (w := w6.drew) HST6.out.gx hg7 MI).cell 0 rfl; have q7_L := (Blk.keepM (w := w6.drew) HST6.out.fin.blk hg7 MI).cell 8 rfl; have q7_t := (Blk.keepM (w := w6.drew) HTO6.out hg7 MI).cell 0 rfl; have q7_p := (Blk.keepM (w := w6.drew) HSP6.out hg7 MI).cell 0 rfl
         have q7_z := (Blk.keepM (w := w6.drew) HSP6.out hg7 MI).cell 1 rfl; have q8_gx := (Blk.keepM (w := w6.drew) HST6.out.gx hg8 MI).cell 0 rfl; have q8_L := (Blk.keepM (w := w6.drew) HST6.out.fin.blk hg8 MI).cell 8 rfl; have q8_t := (Blk.keepM (w := w6.drew) HTO6.out hg8 MI).cell 0 rfl; have q8_p := (Blk.keepM (w := w6.drew) HSP6.out hg8 MI).cell 0 rfl; have q8_z := (Blk.keepM (w := w6.drew) HSP6.out hg8 MI).cell 1 rfl; have q9_gx := (Blk.keepM (w := w6.drew) HST6.out.gx (gb_trans hg8 hg9) MI).cell 0 rfl
         have q9_L := (Blk.keepM (w := w6.drew) HST6.out.fin.blk (gb_trans hg8 hg9) MI).cell 8 rfl; have q9_t := (Blk.keepM (w := w6.drew) HTO6.out (gb_trans hg8 hg9) MI).cell 0 rfl; have q9_p := (Blk.keepM (w := w6.drew) HSP6.out (gb_trans hg8 hg9) MI).cell 0 rfl; have q9_z := (Blk.keepM (w := w6.drew) HSP6.out (gb_trans hg8 hg9) MI).cell 1 rfl; have q10_gx := (Blk.keepM (w := w6.drew) HST6.out.gx (gb_trans hg8 hg10) MI).cell 0 rfl; have q10_L := (Blk.keepM (w := w6.drew) HST6.out.fin.blk (gb_trans hg8 hg10) MI).cell 8 rfl
         have q10_t := (Blk.keepM (w := w6.drew) HTO6.out (gb_trans hg8 hg10) MI).cell 0 rfl; have q10_p := (Blk.keepM (w := w6.drew) HSP6.out (gb_trans hg8 hg10) MI).cell 0 rfl; have q10_z := (Blk.keepM (w := w6.drew) HSP6.out (gb_trans hg8 hg10) MI).cell 1 rfl; have HST10 := hd' (((HST6.out.drew 1).up hg8 hm8).up hg10 hm10); clear MI hm8 hg8 hg7 hm10 hg10 hg9
         go_upto_region 10 with fail
         refine wp_region_W (fun w' => w'.cell? ⟨w.heap.size, 0, none⟩ = some (.pointer (some ⟨X, 0, none⟩)) ∧ w'.cell? ⟨X, 8, none⟩ = some (.map (some L)) ∧ w'.cell? ⟨wr.heap.size + 1, 0, none⟩ = some (.int .i64 (p + inn)) ∧ w'.cell? ⟨wr.heap.size, 0, none⟩ = some (.int .i64 p) ∧ w'.cell? ⟨wr.heap.size, 1, none⟩ = some (.int .i64 z)) 20 (by kernel_rfl) (by (try dsimp only); go_keep) (fun zH => ?_); refine wq 0 zH ?_; refine wq 1 zH ?_; refine wq 2 zH ?_; refine wq 3 zH ?_
         refine wq 4 zH ?_; refine wq 5 zH ?_; refine wq 6 zH ?_; refine wq 7 zH ?_; refine wq 8 zH ?_; refine wq 9 zH ?_; refine wq 10 zH ?_; refine wq 11 zH ?_; refine wq 12 zH ?_; refine wq 13 zH ?_; refine wpW_one 14 rfl (by kernel_rfl) (fun K hK => ?_)
         go_simp
         refine hK.out _ _ (by (try dsimp only); exact ⟨q7_gx, q7_L, q7_t, q7_p, q7_z⟩) (fun zH => ?_); clear hK K; (try simp only [putE]); refine wq 15 zH ?_; refine wpW_one 16 rfl (by kernel_rfl) (fun K hK => ?_)
         go_simp
         refine hK.out _ _ (by (try dsimp only); exact ⟨q8_gx, q8_L, q8_t, q8_p, q8_z⟩) (fun zH => ?_); clear hK K; (try simp only [putE]); refine wpW_one 17 rfl (by kernel_rfl) (fun K hK => ?_)
         go_simp
         refine hK.out _ _ (by (try dsimp only); exact ⟨q9_gx, q9_L, q9_t, q9_p, q9_z⟩) (fun zH => ?_); clear hK K; (try simp only [putE]); refine wq 18 zH ?_; refine wpW_one 19 rfl (by kernel_rfl) (fun K hK => ?_)
         go_simp
         refine hK.out _ _ (by (try dsimp only); exact ⟨q10_gx, q10_L, q10_t, q10_p, q10_z⟩) (fun zH => ?_); clear hK K; (try simp only [putE]); refine wpW_done (by kernel_rfl) ?_ _; clear r7 r8 r9 r10
         go_wp2
         go_roundg (sl - (j + 1))
         case measure => omega
         case rel => exact ⟨j + 1, nj + 1 + 1, _, by omega, by go_num, hd' (HNX.out.trans HMS.out), by omega, HST10, Nat.le_refl _⟩
       · rw [Bool.not_eq_true] at hin; rw [hin]
         have HMS : Hid (markS m own f ⟨p, z, ⟨ik, id, ia, ib, inn, il⟩⟩ lj = none) := hd' (by
          unfold markS; rw [if_pos (by rw [HBR.out]; exact hbj)]
          exact if_neg (by rw [hin]; simp))
         go_wp2
         go_ret
         exact ⟨HST6.out.grw, fun _ => rfl, fun ld h => by rw [HNO.out HMS.out] at h; cases h⟩
     · rw [Bool.not_eq_true] at hbj; rw [hbj]
       go_wp2_with fail
       refine (stops_any ik id ia ib inn il w6).mono ?_; rintro e w7 ⟨rfl, hb7⟩; have hst7 := HST6.out.below hb7; have hsp7 := HSP6.out.keep hb7; have hto7 := HTO6.out.keep hb7; clear hb7; clear y_gx y_gf y_fn y_bt y_ow y_L p0 p1' p2' p3' p4' p5' p6' p7' t0 lgx lgf lX lsp lto; have p0 := hsp7.cell 0 rfl; have p1' := hsp7.cell 1 rfl; have p2' := hsp7.cell 2 rfl; have p3' := hsp7.cell 3 rfl; have p4' := hsp7.cell 4 rfl; have p5' := hsp7.cell 5 rfl; have p6' := hsp7.cell 6 rfl; have p7' := hsp7.cell 7 rfl; have t0 := hto7.cell 0 rfl; have y_gx := hst7.gx.cell 0 rfl; have y_gf := hst7.gf.cell 0 rfl
       have b_ := hst7.fin.blk; unfold finC at b_; rw [HNF.out, HNB.out, HAN.out] at b_; simp only at b_; have y_fn := b_.cell 1 rfl; have y_bt := b_.cell 2 rfl; have y_ow := b_.cell 7 rfl; have y_L := b_.cell 8 rfl; have HST7 := hd' hst7; have HSP7 := hd' hsp7; have HTO7 := hd' hto7; have lgx := hst7.gx.lt; have lgf := hst7.gf.lt; have lX := b_.lt; have lsp := hsp7.lt; have lto := hto7.lt; clear hst7 hsp7 hto7 b_; have HBN : Hid (¬ (branchI ⟨ik, id, ia, ib, inn, il⟩ || ik == 22) = true) := hd' (by rw [HBR.out, hbj]; simp); clear hbj
       by_cases hss : stopsI ⟨ik, id, ia, ib, inn, il⟩ = true
       · rw [hss]; have MI : MapB w7.drew L nj lj := HST7.out.ldr; obtain ⟨w8, hup, hm8, hg8⟩ := MI.update (by omega) (k := p + z) ⟨by omega, by omega⟩ true; have hst8 := (HST7.out.drew 1).up hg8 hm8; have hsp8 := Blk.keepM (w := w7.drew) HSP7.out hg8 MI; have hto8 := Blk.keepM (w := w7.drew) HTO7.out hg8 MI; clear MI hm8 hg8
         go_upto_region 12 with fail
         refine wp_region_W (fun w' => w'.cell? ⟨w.heap.size, 0, none⟩ = some (.pointer (some ⟨X, 0, none⟩)) ∧ w'.cell? ⟨X, 8, none⟩ = some (.map (some L)) ∧ w'.cell? ⟨wr.heap.size, 0, none⟩ = some (.int .i64 p) ∧ w'.cell? ⟨wr.heap.size, 1, none⟩ = some (.int .i64 z)) 9 (by kernel_rfl) (by (try dsimp only); go_keep) (fun zH => ?_); refine wq 0 zH ?_; refine wq 1 zH ?_; refine wq 2 zH ?_; refine wq 3 zH ?_; refine wq 4 zH ?_
         refine wq 5 zH ?_; refine wq 6 zH ?_; refine wq 7 zH ?_; refine wq 8 zH ?_; refine wpW_last 9 rfl (by kernel_rfl) (by decide) (fun K hK => ?_)
         go_simp
         refine hK.out _ _ ?_; clear hK K; (try simp only [putE]); refine wpW_done (by kernel_rfl) ?_ _; clear hup; clear y_gx y_gf y_fn y_bt y_ow y_L p0 p1' p2' p3' p4' p5' p6' p7' t0 lgx lgf lX lsp lto; have p0 := hsp8.cell 0 rfl; have p1' := hsp8.cell 1 rfl; have p2' := hsp8.cell 2 rfl; have p3' := hsp8.cell 3 rfl; have p4' := hsp8.cell 4 rfl; have p5' := hsp8.cell 5 rfl; have p6' := hsp8.cell 6 rfl; have p7' := hsp8.cell 7 rfl; have t0 := hto8.cell 0 rfl; have y_gx := hst8.gx.cell 0 rfl; have y_gf := hst8.gf.cell 0 rfl; have b_ := hst8.fin.blk; unfold finC at b_
         rw [HNF.out, HNB.out, HAN.out] at b_; simp only at b_; have y_fn := b_.cell 1 rfl; have y_bt := b_.cell 2 rfl; have y_ow := b_.cell 7 rfl; have y_L := b_.cell 8 rfl; have HST8 := hd' hst8; have HSP8 := hd' hsp8; have HTO8 := hd' hto8; have lgx := hst8.gx.lt; have lgf := hst8.gf.lt; have lX := b_.lt; have lsp := hsp8.lt; have lto := hto8.lt; clear hst8 hsp8 hto8 b_
         by_cases h24 : ik = 24
         · subst h24; obtain ⟨tn, rfl⟩ := Int.eq_ofNat_of_zero_le (n3 rfl)
           by_cases hnb : (tn : Int) < (nb : Int)
           · have hx2 : m.tables[tn]? = some (m.tables[tn]'(by rw [HNB.out]; omega)) := gE' _; obtain ⟨t, hte⟩ := ex' (m.tables[tn]'(by rw [HNB.out]; omega))
             rw [hte] at hx2; obtain ⟨ts, htl, htr, htj⟩ := HST8.out.fin.img.tables; obtain ⟨ta, tcc, hv, hlc, hcm, hll, hra⟩ := htj tn t hx2; obtain ⟨tb, to', hba, htb, hvc⟩ := htr (by intro e; rw [e] at hv; cases hv); have y_tr := hvc tn _ hv; simp only at hba; subst hba; have HRA := hd' hra; have hk64 : ∀ x ∈ t, N64 x := fun x hx => HO.out.bb t (mG' hx2) x hx
             have HHO := HST8.out.fin.own
             have HCF : Hid (∀ x, Calls Tryz.prog 79 #[.slice ta t.length tcc, .func (.func 87) #[] #[.pointer (some ⟨w.heap.size, 0, none⟩), .pointer (some ⟨w.heap.size + 1, 0, none⟩)]] (w8.drewN x) fun e w' => e = .returned (.bool (t.any (fun a => !(own a == some (f : Int))))) ∧ w' = w8.drewN x) := hd' fun x =>
              (cf_mk1 t (fun a => !(own a == some (f : Int))) ta t.length tcc w.heap.size (w.heap.size + 1) (w8.drewN x) ((HRA.out.below (below_dN (Below.refl _ _) x)).more (by have h1 := HST8.out.fin.hB.2; have h2 := HST8.out.fin.hH; exact Nat.le_trans h1 h2)) rfl hll (fun a ha => fin_mark1 X o no w.heap.size (w.heap.size + 1) own (f : Int) a (w8.drewN x) y_ow HHO (hk64 a ha) y_gx y_gf)).mono fun _ _ ⟨h1, h2⟩ => ⟨h1, h2.symm⟩
             obtain ⟨cv, hcv⟩ := ex' (t.any (fun a => !(own a == some (f : Int))))
             rw [hcv] at HCF; have HCV : Hid ((m.tables.getD ((tn : Int)).toNat []).any (fun a => !(own a == some (f : Int))) = cv) := hd' (by rw [Int.toNat_natCast, List.getD_eq_getElem?_getD, hx2]; exact hcv); have hnbN : tn < nb := by omega
             clear hcv hte hx2 htl htr htj hv hvc hra hk64 HHO ts
             go_upto_region 13 with fail
             go_quiet ((go_at_call 79; exact Calls.quiet_of_same (HCF.out _)))
             cases cv
             · have HMS : Hid (markS m own f ⟨p, z, ⟨24, id, ia, ib, (tn : Int), il⟩⟩ lj = some (upF lj (p + z) true)) := hd' (by
                unfold markS; rw [if_neg HBN.out, if_pos hss]
                exact if_neg (by rw [HCV.out, HNB.out]; simp))
               go_wp2
               go_roundg (sl - (j + 1))
               case measure => omega
               case rel => exact ⟨j + 1, nj + 1, _, by omega, by go_num, hd' (HNX.out.trans HMS.out), by omega, hd' (HST8.out.drew _), Nat.le_refl _⟩
             · have HMS : Hid (markS m own f ⟨p, z, ⟨24, id, ia, ib, (tn : Int), il⟩⟩ lj = none) := hd' (by
                unfold markS; rw [if_neg HBN.out, if_pos hss]
                exact if_pos (by rw [HCV.out, HNB.out]; simpa using hnb))
               go_wp2
               go_ret
               exact ⟨(HST8.out.drew _).grw, fun _ => rfl, fun ld h => by rw [HNO.out HMS.out] at h; cases h⟩
           · have HMS : Hid (markS m own f ⟨p, z, ⟨24, id, ia, ib, (tn : Int), il⟩⟩ lj = some (upF lj (p + z) true)) := hd' (by
              unfold markS; rw [if_neg HBN.out, if_pos hss]
              exact if_neg (by rw [HNB.out]; simp only [decide_eq_false hnb]; simp))
             go_upto_region 13 with fail
             go_quiet (fail)
             go_wp2
             go_roundg (sl - (j + 1))
             case measure => omega
             case rel => exact ⟨j + 1, nj + 1, _, by omega, by go_num, hd' (HNX.out.trans HMS.out), by omega, hd' (HST8.out.drew _), Nat.le_refl _⟩
         · have hkb : (ik == 24) = false := by simpa using h24
           have HMS : Hid (markS m own f ⟨p, z, ⟨ik, id, ia, ib, inn, il⟩⟩ lj = some (upF lj (p + z) true)) := hd' (by
            unfold markS; rw [if_neg HBN.out, if_pos hss]
            exact if_neg (by rw [hkb]; simp))
           go_upto_region 13 with fail
           go_quiet (fail)
           go_wp2
           go_roundg (sl - (j + 1))
           case measure => omega
           case rel => exact ⟨j + 1, nj + 1, _, by omega, by go_num, hd' (HNX.out.trans HMS.out), by omega, hd' (HST8.out.drew _), Nat.le_refl _⟩
       · rw [Bool.not_eq_true] at hss; rw [hss]
         by_cases h23 : ik = 23
         · subst h23
           have HCF : Hid (Calls Tryz.prog 88 #[.slice (some ⟨fb, fo, none⟩) nf fc, .func (.func 89) #[] #[.pointer (some ⟨wr.heap.size + 1, 0, none⟩)]] w7 fun e w' => e = .returned (.bool (m.funcs.any (fun g => g.start == p + inn))) ∧ Below w7.heap.size w7 w') := hd'
            (cf_mk2 m.funcs (fun g => g.start == p + inn) (some ⟨fb, fo, none⟩) nf fc (wr.heap.size + 1) w7 (HST7.out.fin.img.funcs.more (Nat.le_trans HST7.out.fin.hB.2 HST7.out.fin.hH)) HNF.out.symm hO1 (fun V hV g _ => fin_mark2 (wr.heap.size + 1) g.name g.start g.size (p + inn) V ((HTO7.out.keep hV).cell 0 rfl) (HTO7.out.keep hV).lt))
           obtain ⟨cv, hcv⟩ := ex' (m.funcs.any (fun g => g.start == p + inn))
           rw [hcv] at HCF; have HCV := hd' hcv; clear hcv
           go_wp2_with fail
           refine HCF.out.mono ?_; rintro e w8 ⟨rfl, hb8⟩; have HST8 := hd' (HST7.out.below hb8); clear hb8
           cases cv
           · have HMS : Hid (markS m own f ⟨p, z, ⟨23, id, ia, ib, inn, il⟩⟩ lj = none) := hd' (by
              unfold markS; rw [if_neg HBN.out, if_neg (by rw [hss]; simp), if_pos rfl]
              exact if_neg (by rw [HCV.out]; simp))
             go_wp2
             go_ret
             exact ⟨HST8.out.grw, fun _ => rfl, fun ld h => by rw [HNO.out HMS.out] at h; cases h⟩
           · have HMS : Hid (markS m own f ⟨p, z, ⟨23, id, ia, ib, inn, il⟩⟩ lj = some lj) := hd' (by
              unfold markS; rw [if_neg HBN.out, if_neg (by rw [hss]; simp), if_pos rfl]
              exact if_pos HCV.out)
             go_wp2
             go_roundg (sl - (j + 1))
             case measure => omega
             case rel => exact ⟨j + 1, nj, _, by omega, by go_num, hd' (HNX.out.trans HMS.out), by omega, HST8, Nat.le_refl _⟩
         · have hkb : (ik == 23) = false := by simpa using h23
           have HMS : Hid (markS m own f ⟨p, z, ⟨ik, id, ia, ib, inn, il⟩⟩ lj = some lj) := hd' (by
            unfold markS; rw [if_neg HBN.out, if_neg (by rw [hss]; simp)]
            exact if_neg h23)
           go_wp2
           go_roundg (sl - (j + 1))
           case measure => omega
           case rel => exact ⟨j + 1, nj, _, by omega, by go_num, hd' (HNX.out.trans HMS.out), by omega, HST7, Nat.le_refl _⟩
  · obtain rfl : j = sl := by omega
    have hjI : ¬ (j : Int) < (j : Int) := by omega
    have HE : Hid (R = some lj) := hd' (by rw [← HR.out, ← HG.out, List.take_of_length_le (by rw [HSL.out]; exact Nat.le_refl _)]); clear hj hgk hjl
    go_wp2
    go_ret
    refine ⟨HST.out.grw, fun h => ?_, fun ld h => ⟨rfl, ?_⟩⟩
    · rw [HE.out] at h
      cases h
    · rw [HE.out] at h
      cases h
      exact HST.out.ldr.mono (by omega)
end Go.Proofs.YtcdlgjhdbmmomaaGreatDoor
