/- emit.Emit, walked. -/
import Derived.Test.YtcafhoobeggmeaaDoorEmtX
import Derived.Test.YtcafhoobeggmeaaDoorEmtY
import Derived.Test.YtcafhoobeggmeaaDoorEmtB
import Derived.Test.YtcafhoobeggmeaaDoorEmtF
import Derived.Test.YtcafhoobeggmeaaDoorEmtI
import Derived.Test.YtcafhoobeggmeaaDoorFlowU
namespace Go.Proofs.YtcafhoobeggmeaaDoor
open Go.RowKit Go.Deep
theorem made_ints (n : Nat) : madeCells (Value.int .i64 0).cells n = (intsV .i64 (List.replicate n 0)).toArray := by
 apply Array.ext
 · simp [madeCells, intsV]
 · intro j h1 h2; simp [madeCells, intsV, Value.cells, Nat.mod_one]
theorem run_make_ints (n : Nat) (hn : n ≤ 100000) (W : World) : (Instr.makeSlice 35 (.int .i64 n) (.int .i64 n)).run Tryd.prog W = .ok (.slice (some ⟨W.heap.size, 0, none⟩) n n) (W.alloc (.cells (intsV .i64 (List.replicate n 0)).toArray 3)) := by
 obtain ⟨i0, hi, hz0, hz1, hz2⟩ := info_parts infoIntNOE; have h := run_makeSlice (P := Tryd.prog) (w := W) 35 3 i0 (.int .i64 0) Tryd.underlying35 hi hz0 .i64 .i64 (n : Int) (n : Int) (by omega) (Int.le_refl _) (by rw [hz1]; simp; omega) (by rw [hz2]; omega) (by omega); rw [hz1, Int.toNat_natCast, Nat.mul_one, made_ints] at h; exact h
theorem own_blk {w : World} {B g : Nat} {L : List Int} (h : Blk w g 3 (intsV .i64 L)) (hB : B ≤ g) (hn : L.length ≤ maxLen) : w.ownsRow B 3 1 (.slice (some ⟨g, 0, none⟩) L.length L.length) L.length (intsV .i64 L) :=
 ⟨by simp [intsV], .inr ⟨g, L.length, (intsV .i64 L).toArray, rfl, hB, h, Nat.le_refl _, hn, by simp [intsV], List.take_of_length_le (by simp [intsV])⟩⟩
theorem mk_start {W0 W : World} {X fg bg : Nat} {m : Img} {v : ImgV} {d : FlowD} {xA yA zA : Option Addr} {xc yc zc : Nat} (hb : Below W0.heap.size W0 W) (hX : W0.heap.size ≤ X) (hm : ImgRd W0 W0.heap.size m v) (hF : FlowRd W0 xA xc yA yc zA zc d)
 (hx : Blk W X 88 (mkC m v d xA yA zA xc yc zc 0 none 0 fg d.blocks.length bg d.firsts.length)) (h1 : Blk W fg 3 (intsV .i64 (List.replicate d.blocks.length 0))) (h2 : Blk W bg 3 (intsV .i64 (List.replicate d.firsts.length 0))) (hf : W0.heap.size ≤ fg) (hg : W0.heap.size ≤ bg) (hne : fg ≠ bg) (hn1 : d.blocks.length ≤ 100000) (hn2 : d.firsts.length ≤ 100000) :
 MkM W0 W X m v d xA yA zA xc yc zc [] none 0 fg bg (List.replicate d.blocks.length 0) (List.replicate d.firsts.length 0) := by
 refine ⟨hb, hX, ?_, hm, hF, ⟨rfl, .inl ⟨rfl, rfl⟩⟩, ?_, ?_, hne⟩
 · rw [List.length_replicate, List.length_replicate]; exact hx
 · have := own_blk h1 hf (by rw [List.length_replicate]; unfold maxLen; omega); exact this
 · have := own_blk h2 hg (by rw [List.length_replicate]; unfold maxLen; omega); exact this
theorem blk_new3 (w : World) (o1 o2 : Obj) (cs : List Value) (t : TypeId) : Blk (((w.alloc o1).alloc o2).alloc (.cells cs.toArray t)) (w.heap.size + 1 + 1) t cs := by
 have := Blk.new ((w.alloc o1).alloc o2) cs t; simpa using this
theorem recE_text {m : Img} (h : recE m = 0) : checkE m = 0 ∧ m.text.length ≤ 2000 := by
 unfold recE at h
 split at h
 · rename_i h1
   exact absurd h h1
 · rename_i h1
   split at h
   · cases h
   · rename_i h2
     exact ⟨by omega, by omega⟩
theorem itsOf_pre (d : FlowD) {l : List PartD} {i : Nat} {p : PartD} (hp : l[i]? = some p) (k : Nat) : (itsOf d (seqL (l.take i))).length + (itsOf d ((withNext p.bs).take k)).length ≤ (itsOf d (seqL l)).length := by
 obtain ⟨hi, he⟩ := List.getElem?_eq_some_iff.1 hp
 have e1 : seqL l = seqL (l.take i) ++ (withNext p.bs ++ seqL (l.drop (i + 1))) := by
  conv => lhs; rw [← List.take_append_drop i l, List.drop_eq_getElem_cons hi, he]
  rw [seqL_app]
  rfl
 rw [e1, itsOf_app, itsOf_app, List.length_append, List.length_append]; have e2 : withNext p.bs = (withNext p.bs).take k ++ (withNext p.bs).drop k := (List.take_append_drop _ _).symm; have e3 := congrArg (fun z => (itsOf d z).length) e2; simp only [itsOf_app, List.length_append] at e3; omega
theorem mkS_len (d : FlowD) (l : List PartD) : (l.foldl (mkP d) ⟨[], List.replicate d.blocks.length 0, List.replicate d.firsts.length 0⟩).items = itsOf d (seqL l) ∧ (l.foldl (mkP d) ⟨[], List.replicate d.blocks.length 0, List.replicate d.firsts.length 0⟩).first.length = d.blocks.length ∧ (l.foldl (mkP d) ⟨[], List.replicate d.blocks.length 0, List.replicate d.firsts.length 0⟩).begin_.length = d.firsts.length := by
 obtain ⟨h1, h2, h3⟩ := mkL_items d l ⟨[], List.replicate d.blocks.length 0, List.replicate d.firsts.length 0⟩; refine ⟨by rw [h1]; rfl, ?_, by rw [h3]; simp⟩; rw [h2, (mkB_items d (seqL l) _).2.2]; simp
def EmPost (w : World) (m : Img) (d : FlowD) (l : List PartD) (e : Ending) (w' : World) : Prop :=
 Below w.heap.size w w' ∧ ∃ (v : ImgV) (pA : Option Addr) (pn pc : Nat) (ps : List (Int × Int)), e = .returned (.tuple #[.agg ((emL m d l).val v), .slice pA pn pc, .int .i64 0]) ∧ ImgOwn w' w.heap.size (emL m d l) v ∧ ps.length = pn ∧ w'.ownsRow w.heap.size 59 2 (.slice pA pn pc) pn (linesV ps) ∧ PairOk (emIts d l) ps
def EmBad (w : World) (e : Ending) (w' : World) : Prop := Below w.heap.size w w' ∧ e = .returned (.tuple #[.agg #[.slice none 0 0, .slice none 0 0, .slice none 0 0, .slice none 0 0, .slice none 0 0, .int .i64 0], .slice none 0 0, .int .i64 8])
set_option maxHeartbeats 16000000 in
set_option maxRecDepth 100000 in
theorem emit_good (m : Img) (v : ImgV) (d : FlowD) (l : List PartD) (A : Option Addr) (c : Nat) (w : World) (hT : Tabs w) (hR : ImgRd w w.heap.size m v) (hok : ImgOk m v) (hre : recE m = 0) (hrc : recL m = some d) (hP : PartsRd w A c l) (hll : l.length ≤ 10000) (hlb : ∀ p ∈ l, p.bs.length ≤ 10000) (ho : OrdG d l) :
 Calls Tryd.prog 15 #[.agg (m.val v), .slice A l.length c] w (EmPost w m d l) := by
 have hce := recE_text hre; obtain ⟨ld, bm, S, gs, hF, hFN, hTF⟩ := gen_flow3 hce.1 hrc; have hct := check_tile hce.1; have HEF := hd' (hF.emF hFN ho); have HPG := hd' (hF.pgOk hFN hTF hce.1 ho); have HIO := hd' (hF.itsOk hFN ho); have HOK2 := hd' (ho.ok (hF.blkFn hFN))
 have HPO : Hid (∀ e w' v' pA pn pc ps, e = .returned (.tuple #[.agg ((emL m d l).val v'), .slice pA pn pc, .int .i64 0]) → Below w.heap.size w w' → ImgOwn w' w.heap.size (emL m d l) v' → ps.length = pn → w'.ownsRow w.heap.size 59 2 (.slice pA pn pc) pn (linesV ps) → PairOk (emIts d l) ps → EmPost w m d l e w') := hd' fun e w' v' pA pn pc ps h1 h2 h3 h4 h5 h6 => ⟨h2, v', pA, pn, pc, ps, h1, h3, h4, h5, h6⟩

 have HF := hd' hF; have HFN := hd' hFN; have HO := hd' ho; have hfew := hF.few; have hf1 := hF.firsts.1; have HCT := hd' hct; have HTX := hd' hce.2; have HOK := hd' hok; have HT := hd' hT; have HR := hd' hR; have HP := hd' hP; have HLB := hd' hlb; obtain ⟨tA, tc, fA, fc, bA, bc, dA, dc, lA, lc⟩ := v
 have HREC : Hid (∀ W, Below w.heap.size w W → Calls Tryd.prog 28 #[.agg (m.val ⟨tA, tc, fA, fc, bA, bc, dA, dc, lA, lc⟩)] W (GoodPost W d)) := hd' fun W hW => by
  have h := rec_any m ⟨tA, tc, fA, fc, bA, bc, dA, dc, lA, lc⟩ W (HT.out.below hW) ((HR.out.below hW).more hW.size) HOK.out; rw [hre] at h; exact h.mono fun e w' hp => hp.2 d rfl hrc
 have hlc := hP.1; have hNBb : d.blocks.length ≤ 2000 := by omega
 have hNZb : d.firsts.length ≤ 40 := by omega
 clear hT hR hok hre hrc hP hlb hF hFN hTF hce hct hfew hf1 ho; unfold Img.val at HREC ⊢; simp only at HREC ⊢; obtain ⟨T, hTe⟩ := ex' m.text.length
 obtain ⟨NF, hNF⟩ := ex' m.funcs.length
 obtain ⟨nb, hnb⟩ := ex' m.tables.length
 obtain ⟨nd, hnd⟩ := ex' m.data.length
 obtain ⟨nln, hnln⟩ := ex' m.lines.length
 obtain ⟨nl, hnl⟩ := ex' l.length
 rw [hTe, hNF, hnb, hnd, hnln] at HREC ⊢; rw [hnl] at hll hlc ⊢; have HN5 := hd' (And.intro hTe (And.intro hNF (And.intro hnb (And.intro hnd hnln)))); have HNL := hd' hnl; clear hTe hNF hnb hnd hnln hnl
 go_enter Tryd.func15, Tryd.ntmps15
 go_upto_region 1 with fail
 obtain ⟨W1, hW1⟩ := ex' ((w.alloc (.cells #[.slice tA T tc, .slice fA NF fc, .slice bA nb bc, .slice dA nd dc, .slice lA nln lc, .int .i64 m.entry] 42)).alloc (.cells #[.slice none 0 0, .slice none 0 0, .slice none 0 0, .slice none 0 0, .slice none 0 0, .int .i64 0] 42))
 rw [hW1]; have hm1 : Blk W1 w.heap.size 42 [.slice tA T tc, .slice fA NF fc, .slice bA nb bc, .slice dA nd dc, .slice lA nln lc, .int .i64 m.entry] := by rw [← hW1]; exact Blk.alloc (Blk.new w _ _) _
 have hr1 : Blk W1 (w.heap.size + 1) 42 [.slice none 0 0, .slice none 0 0, .slice none 0 0, .slice none 0 0, .slice none 0 0, .int .i64 0] := by rw [← hW1]; exact Blk.new2 w _ _ _
 have hb1 : Below w.heap.size w W1 := by rw [← hW1]; exact ((Below.refl _ _).alloc lr' _).alloc (by simp) _
 obtain ⟨B0, hB0⟩ := ex' w.heap.size
 have HB0 := hd' hB0; have HW1 := hd' hb1; rw [hB0] at hm1 hr1 ⊢; have HM1 := hd' hm1; have HR1 := hd' hr1; have m0 := hm1.cell 0 rfl; have m1 := hm1.cell 1 rfl; have m2 := hm1.cell 2 rfl; have m3 := hm1.cell 3 rfl; have m4 := hm1.cell 4 rfl; have m5 := hm1.cell 5 rfl; have ml := hm1.lt; clear hW1 hm1 hr1 hb1 hB0
 go_wp2_with fail
 refine (HREC.out _ HW1.out).mono ?_; rintro e w2 ⟨xA, xc, yA, yc, zA, zc, rfl, hb2, hfl⟩; have hF2 := HF.out.few; obtain ⟨NB, hNB⟩ := ex' d.blocks.length
 obtain ⟨nt, hnt⟩ := ex' d.tables.length
 obtain ⟨nz, hnz⟩ := ex' d.firsts.length
 have HCK : Hid (∀ W, Below w2.heap.size w2 W → Calls Tryd.prog 29 #[.agg #[.slice xA NB xc, .slice yA nt yc, .slice zA nz zc], .slice A nl c] W fun e w' => e = .returned (.int .i64 (ordE (ordOk d l))) ∧ Below W.heap.size W w') := hd' fun W hW => by
  have h := check_ord d xA yA zA xc yc zc l A c W (hfl.below hW) ((HP.out.below (HW1.out.trans (hb2.mono HW1.out.size))).below hW) (by omega) (by omega) (by rw [HNL.out]; omega) HLB.out; unfold flowV at h; rw [hNB, hnt, hnz, HNL.out] at h; exact h
 rw [HOK2.out] at HCK; rw [hNB, hnt, hnz]; have HW2 := hd' (HW1.out.trans (hb2.mono HW1.out.size)); have HFL := hd' hfl; have HM2 := hd' (HM1.out.keep hb2); have HR2 := hd' (HR1.out.keep hb2); have HN3 := hd' (And.intro hNB (And.intro hnt hnz)); rw [hNB] at hNBb; rw [hnz] at hNZb; clear hb2 hfl hF2 hNB hnt hnz m0 m1 m2 m3 m4 m5 ml HREC HW1 HM1 HR1
 go_upto_region 4 with fail
 obtain ⟨W3, hW3⟩ := ex' (w2.alloc (.cells #[.slice xA NB xc, .slice yA nt yc, .slice zA nz zc] 45))
 rw [hW3]; have hf3 : Blk W3 w2.heap.size 45 [.slice xA NB xc, .slice yA nt yc, .slice zA nz zc] := by rw [← hW3]; exact Blk.new w2 _ _
 have hb3 : Below w2.heap.size w2 W3 := by rw [← hW3]; exact (Below.refl _ _).alloc lr' _
 obtain ⟨B2, hB2⟩ := ex' w2.heap.size
 have HBB : Hid (B0 + 1 < B2) := hd' (by have := HR2.out.lt; omega); have HCK3 := hd' (HCK.out _ hb3); rw [hB2] at hf3 ⊢; have HFL3 := hd' (HFL.out.below hb3); have HM3 := hd' (HM2.out.keep hb3); have HR3 := hd' (HR2.out.keep hb3); have HF3 := hd' hf3; have HW3 := hd' (HW2.out.trans (hb3.mono HW2.out.size)); have f0 := hf3.cell 0 rfl; have f1 := hf3.cell 1 rfl; have f2 := hf3.cell 2 rfl; have fl := hf3.lt; clear hW3 hf3 hb3 hB2 HCK HFL HM2 HR2
 go_wp2_with fail
 refine HCK3.out.mono ?_; rintro e w4 ⟨rfl, hb4⟩; have HW4 := hd' (HW3.out.trans (hb4.mono HW3.out.size)); have HFL4 := hd' (HFL3.out.below hb4); have HM4 := hd' (HM3.out.keep hb4); have HR4 := hd' (HR3.out.keep hb4); have HF4 := hd' (HF3.out.keep hb4); clear hb4 f0 f1 f2 fl HFL3 HM3 HR3 HF3 HCK3 HW3 HW2; have ro : ordE true = 0 := rfl; rw [ro]; have m0 := HM4.out.cell 0 rfl; have m1 := HM4.out.cell 1 rfl; have m2 := HM4.out.cell 2 rfl; have m3 := HM4.out.cell 3 rfl; have m4 := HM4.out.cell 4 rfl; have m5 := HM4.out.cell 5 rfl; have f0 := HF4.out.cell 0 rfl
 have f1 := HF4.out.cell 1 rfl; have f2 := HF4.out.cell 2 rfl; have ml := HM4.out.lt; have fl := HF4.out.lt
 go_upto_region 7 with fail
 have hmB := run_make_ints NB (by omega); have hmZ := run_make_ints nz (by omega)
 go_cut [10] (fun s10 wx => ∃ X fg bg : Nat, s10 = .pointer (some ⟨X, 0, none⟩) ∧ Hid (MkM w4 wx X m ⟨tA, tc, fA, fc, bA, bc, dA, dc, lA, lc⟩ d xA yA zA xc yc zc [] none 0 fg bg (List.replicate d.blocks.length 0) (List.replicate d.firsts.length 0)))
 case first =>
  have HMB := hd' hmB; have HMZ := hd' hmZ
  have HST : Hid (∀ (W : World) (X fg bg : Nat), Below w4.heap.size w4 W → w4.heap.size ≤ X → Blk W X 88 [.slice tA T tc, .slice fA NF fc, .slice bA nb bc, .slice dA nd dc, .slice lA nln lc, .int .i64 m.entry, .slice xA NB xc, .slice yA nt yc, .slice zA nz zc, .slice none 0 0, .slice (some ⟨fg, 0, none⟩) NB NB, .slice (some ⟨bg, 0, none⟩) nz nz] → Blk W fg 3 (intsV .i64 (List.replicate NB 0)) → Blk W bg 3 (intsV .i64 (List.replicate nz 0)) → w4.heap.size ≤ fg → w4.heap.size ≤ bg → fg ≠ bg → MkM w4 W X m ⟨tA, tc, fA, fc, bA, bc, dA, dc, lA, lc⟩ d xA yA zA xc yc zc [] none 0 fg bg (List.replicate d.blocks.length 0) (List.replicate d.firsts.length 0)) := hd' fun W X fg bg h1 h2 h3 h4 h5 h6 h7 h8 => by
   refine mk_start h1 h2 ((HR.out.below HW4.out).more HW4.out.size) HFL4.out ?_ (by rw [HN3.out.1]; exact h4) (by rw [HN3.out.2.2]; exact h5) h6 h7 h8 (by rw [HN3.out.1]; omega) (by rw [HN3.out.2.2]; omega); unfold mkC; rw [HN3.out.1, HN3.out.2.1, HN3.out.2.2, HN5.out.1, HN5.out.2.1, HN5.out.2.2.1, HN5.out.2.2.2.1, HN5.out.2.2.2.2]; exact h3
  go_region
  · go_wp2_with fail
    go_meet
    exact ⟨_, w4.heap.size, w4.heap.size + 1, rfl, hd' (HST.out _ _ _ _ ((((Below.refl _ _).alloc lr' _).alloc (by simp) _).alloc (by simp; omega) _).drew (by omega) (Blk.drew (blk_new3 w4 _ _ _ _)) (Blk.drew (Blk.alloc (Blk.alloc (Blk.new w4 _ _) _) _)) (Blk.drew (Blk.alloc (Blk.new2 w4 _ _ _) _)) lr' (Nat.le_succ _) (by omega))⟩
  · go_wp2_with fail
    go_meet
    exact ⟨_, w4.heap.size + 1, w4.heap.size, rfl, hd' (HST.out _ _ _ _ ((((Below.refl _ _).alloc lr' _).alloc (by simp) _).alloc (by simp; omega) _).drew (by omega) (Blk.drew (blk_new3 w4 _ _ _ _)) (Blk.drew (Blk.alloc (Blk.new2 w4 _ _ _) _)) (Blk.drew (Blk.alloc (Blk.alloc (Blk.new w4 _ _) _) _)) (Nat.le_succ _) lr' (by omega))⟩
 case rest =>
  obtain ⟨X, fg, bg, rfl, HMK⟩ := hcut; clear m0 m1 m2 m3 m4 m5 f0 f1 f2 ml fl hmB hmZ
  have HLEN : Hid (∀ (i : Nat) (p : PartD) (k : Nat), l[i]? = some p → (itsOf d (seqL (l.take i))).length + (itsOf d ((withNext p.bs).take k)).length ≤ 8000) := hd' fun i p k hp => by
   have h1 := itsOf_pre d hp k; have h2 := HEF.out.le.1; have h3 := HEF.out.len; have h4 := HTX.out; rw [(mkL_at HO.out).1] at h2; omega
  have HSI : Hid (∀ i, ((l.take i).foldl (mkP d) ⟨[], List.replicate d.blocks.length 0, List.replicate d.firsts.length 0⟩).items = itsOf d (seqL (l.take i)) ∧ ((l.take i).foldl (mkP d) ⟨[], List.replicate d.blocks.length 0, List.replicate d.firsts.length 0⟩).first.length = NB ∧ ((l.take i).foldl (mkP d) ⟨[], List.replicate d.blocks.length 0, List.replicate d.firsts.length 0⟩).begin_.length = nz) := hd' fun i => by
   have h := mkS_len d (l.take i); exact ⟨h.1, h.2.1.trans HN3.out.1, h.2.2.trans HN3.out.2.2⟩
  go_wp2_with fail
  go_loopg [47] nl (fun gk s47 wr => ∃ (i : Nat) (iA : Option Addr) (ic : Nat), i ≤ nl ∧ s47 = .int .i64 i ∧ Hid (MkM w4 wr X m ⟨tA, tc, fA, fc, bA, bc, dA, dc, lA, lc⟩ d xA yA zA xc yc zc ((l.take i).foldl (mkP d) ⟨[], List.replicate d.blocks.length 0, List.replicate d.firsts.length 0⟩).items iA ic fg bg ((l.take i).foldl (mkP d) ⟨[], List.replicate d.blocks.length 0, List.replicate d.firsts.length 0⟩).first ((l.take i).foldl (mkP d) ⟨[], List.replicate d.blocks.length 0, List.replicate d.firsts.length 0⟩).begin_) ∧ nl - i ≤ gk)
  case atStart => exact ⟨0, none, 0, Nat.zero_le _, rfl, HMK, Nat.le_refl _⟩
  case round =>
   obtain ⟨i, iA, ic, hi, rfl, HMr, hgk⟩ := hrel; obtain ⟨si, hsi⟩ := ex' (((l.take i).foldl (mkP d) ⟨[], List.replicate d.blocks.length 0, List.replicate d.firsts.length 0⟩))
   rw [hsi] at HMr; have hsl := HSI.out i; rw [hsi] at hsl; have HSL := hd' hsl; have HSIE := hd' hsi
   by_cases hlt : i < nl
   · have hltI : (i : Int) < (nl : Int) := by omega
     have hpi : l[i]? = some (l[i]'(by have := HNL.out; omega)) := gE' _; obtain ⟨p, hpe⟩ := ex' (l[i]'(by have := HNL.out; omega))
     rw [hpe] at hpi; have HPI := hd' hpi; have hW4r := HW4.out.trans (HMr.out.bel.mono HW4.out.size); obtain ⟨pg, po, qA, qc, hlA, hpgl, hp0, hp1, hqc, hqr⟩ := (HP.out.below hW4r).at hpi; have hfn := HO.out.fn (mG' hpi); rw [HN3.out.2.2] at hfn; have hbsm := HO.out.bs p (mG' hpi); have HBS := hd' hbsm.1
     have HQR : Hid (∀ W, Below w4.heap.size w4 W → RdG W W.heap.size qA (intsV .i64 p.bs)) := hd' fun W hW => by
      obtain ⟨pg2, po2, qA2, qc2, hlA2, -, -, hp12, -, hqr2⟩ := (HP.out.below HW4.out).at hpi; obtain ⟨pg3, po3, qA3, qc3, hlA3, hpl3, -, hp13, -, -⟩ := HP.out.at hpi; rw [hlA] at hlA2 hlA3; injection hlA2 with hlA2; injection hlA3 with hlA3; injection hlA2 with e1 e2; injection hlA3 with e3 e4; subst e1 e2 e3 e4; have k1 := ((HW4.out.trans (HMr.out.bel.mono HW4.out.size)).cell (p := ⟨pg, po + i * 2 + 1, none⟩) hpl3).trans hp13; have k2 := (HW4.out.cell (p := ⟨pg, po + i * 2 + 1, none⟩) hpl3).trans hp13; rw [hp1] at k1; rw [hp12] at k2; injection k1 with k1; injection k1 with k1
      injection k2 with k2; injection k2 with k2; rw [k1, ← k2]; exact (hqr2.below hW).more hW.size
     obtain ⟨fn, bs⟩ := p; simp only at hp0 hp1 hqc hfn HBS HQR; obtain ⟨fN, rfl⟩ := Int.eq_ofNat_of_zero_le hfn.1; have hfNI : (fN : Int) < (nz : Int) := hfn.2; have hfN0 : (0 : Int) ≤ (fN : Int) := hfn.1; obtain ⟨qn, hqn⟩ := ex' bs.length
     rw [hqn] at hp1 hqc; have HQN := hd' hqn; have hlA2 := hlA; subst hlA2; clear hpe hpi hlA hqr hfn hbsm hqn hsi hsl hW4r
     go_upto_region 11 with fail
     obtain ⟨U, hU⟩ := ex' (wr.alloc (.cells #[.int .i64 fN, .slice qA qn qc] 66))
     rw [hU]; have hbU : Below wr.heap.size wr U := by rw [← hU]; exact (Below.refl _ _).alloc lr' _
     have hpU : Blk U wr.heap.size 66 [.int .i64 fN, .slice qA qn qc] := by rw [← hU]; exact Blk.new wr _ _
     obtain ⟨BP, hBP⟩ := ex' wr.heap.size
     have hBPw : w4.heap.size ≤ BP := by have := HMr.out.bel.size; omega
     rw [hBP] at hpU ⊢; have HMU := hd' (HMr.out.below hbU); have HPU := hd' hpU; obtain ⟨ni, hni⟩ := ex' si.items.length
     have HNI := hd' hni; have x9 := HMU.out.blk.cell 9 rfl; have x11 := HMU.out.blk.cell 11 rfl; rw [hni] at x9; rw [HSL.out.2.2] at x11; have xl := HMU.out.blk.lt; have hbj : si.begin_[fN]? = some (si.begin_[fN]'(by have := HSL.out.2.2; omega)) := gE' _; obtain ⟨b10, bf10, bl10⟩ := own_cellf HMU.out.bgn (intsV_at .i64 hbj)
     have hBX : ¬ bg = X := fun e => by
      have h1 := own_typ HMU.out.bgn (g := bg) rfl; rw [e] at h1; exact HMU.out.blk.typ.ne h1 (by decide) rfl
     have hBB : ¬ bg = BP := fun e => by
      have h1 := own_typ HMU.out.bgn (g := bg) rfl; rw [e] at h1; exact HPU.out.typ.ne h1 (by decide) rfl
     have u0 := hpU.cell 0 rfl; have ul := hpU.lt; clear hp0 hp1 hpgl hU hbU hpU hBP hni hbj HMr; refine wp_region_W (fun w' => w'.cell? ⟨X, 11, none⟩ = some (.slice (some ⟨bg, 0, none⟩) nz nz) ∧ w'.cell? ⟨X, 9, none⟩ = some (.slice iA ni ic) ∧ w'.cell? ⟨BP, 0, none⟩ = some (.int .i64 (fN : Int))) 12 (by kernel_rfl) (by (try dsimp only); go_keep) (fun zH => ?_); refine wq 0 zH ?_; refine wq 1 zH ?_; refine wq 2 zH ?_; refine wq 3 zH ?_; refine wq 4 zH ?_; refine wq 5 zH ?_; refine wq 6 zH ?_; refine wq 7 zH ?_; refine wq 8 zH ?_; refine wq 9 zH ?_; refine wq 10 zH ?_; refine wq 11 zH ?_; refine wpW_last 12 rfl (by kernel_rfl) (by decide) (fun K hK => ?_)
     go_simp
     refine hK.out _ _ ?_; clear hK K; (try simp only [putE]); refine wpW_done (by kernel_rfl) ?_ _; obtain ⟨U2, hU2⟩ := ex' (U.setCell ⟨bg, fN, none⟩ (.int .i64 ni))
     have hMS := HMU.out.setB fN (ni : Int); have hPS := HPU.out.keepT (gb_setCell (gb_refl U (some bg)) fN (.int .i64 ni)) (fun g e => by injection e with e; subst e; exact own_typ HMU.out.bgn rfl) (by decide); rw [hU2] at hMS hPS
     try rw [hU2]
     obtain ⟨sp, hsp⟩ : ∃ z : MkD, z = ⟨si.items, si.first, si.begin_.set fN (ni : Int)⟩ := ⟨_, rfl⟩
     have HSPE : Hid (sp = ⟨si.items, si.first, si.begin_.set (fN : Int).toNat si.items.length⟩) := hd' (by rw [hsp, HNI.out, Int.toNat_natCast]); have HMS : Hid (MkM w4 U2 X m ⟨tA, tc, fA, fc, bA, bc, dA, dc, lA, lc⟩ d xA yA zA xc yc zc sp.items iA ic fg bg sp.first sp.begin_) := hd' (by rw [hsp]; exact hMS); have HSPL : Hid (sp.items = itsOf d (seqL (l.take i)) ∧ sp.first.length = NB) := hd' (by rw [hsp]; exact ⟨HSL.out.1, HSL.out.2.1⟩); have HPS := hd' hPS; have HMP : Hid (mkP d si ⟨(fN : Int), bs⟩ = (withNext bs).foldl (mkB d) sp) := hd' (by rw [HSPE.out]; rfl)
     have p1 := hPS.cell 1 rfl; have pl := hPS.lt; clear hU2 hMS hPS hsp x9 x11 xl b10 bf10 bl10 u0 ul HMU HPU hBX hBB
     go_wp2_with fail
     go_loopg [66] qn (fun gk s66 wr => ∃ (k : Nat) (iA : Option Addr) (ic : Nat), k ≤ qn ∧ s66 = .int .i64 k ∧ Hid (MkM w4 wr X m ⟨tA, tc, fA, fc, bA, bc, dA, dc, lA, lc⟩ d xA yA zA xc yc zc (((withNext bs).take k).foldl (mkB d) sp).items iA ic fg bg (((withNext bs).take k).foldl (mkB d) sp).first (((withNext bs).take k).foldl (mkB d) sp).begin_) ∧ Hid (Blk wr BP 66 [.int .i64 fN, .slice qA qn qc]) ∧ qn - k ≤ gk)
     case atStart => exact ⟨0, iA, ic, Nat.zero_le _, rfl, hd' (HMS.out.below (Below.refl U2.heap.size U2).drew), hd' HPS.out.drew, Nat.le_refl _⟩
     case round =>
      clear p1 pl HMS HPS; obtain ⟨k, iA2, ic2, hk, rfl, HMk, HPk, hgk2⟩ := hrel
      by_cases hkl : k < qn
      · have hkI : (k : Int) < (qn : Int) := by omega
        have hk0 : (0 : Int) ≤ (k : Int) := by omega
        have hbk : bs[k]? = some (bs[k]'(by have := HQN.out; omega)) := gE' _; obtain ⟨b, hbe⟩ := ex' (bs[k]'(by have := HQN.out; omega))
        rw [hbe] at hbk; have hbm := mem_fnBs.1 (HBS.out.mem_iff.1 (mG' hbk)); obtain ⟨bN, rfl⟩ := Int.eq_ofNat_of_zero_le hbm.1; have hbN : bN < d.blocks.length := by have := hbm.2.1; omega
        have hdb : d.blocks[bN]? = some (d.blocks.getD bN blkZ) := by
         rw [List.getD_eq_getElem?_getD, gE' hbN]
         rfl
        obtain ⟨blk, hblk⟩ := ex' (d.blocks.getD bN blkZ)
        rw [hblk] at hdb; have hfit := HF.out.fit hdb; have hbl := HF.out.blen hdb; have hx := withNext_at bs k (bN : Int) hbk; obtain ⟨nx, hnx⟩ := ex' ((bs[k + 1]?).getD (-1))
        rw [hnx] at hx; obtain ⟨qg, qo, hqA, hqgl, hqk⟩ := (HQR.out wr HMk.out.bel).at (intsV_at .i64 hbk)
        have HNX : Hid (∀ h1 : k + 1 < qn, wr.cell? ⟨qg, qo + (k + 1), none⟩ = some (.int .i64 nx)) := hd' fun h1 => by
         have hck : bs[k + 1]? = some (bs[k + 1]'(by have := HQN.out; omega)) := gE' _; rw [hck, Option.getD_some] at hnx; rw [hnx] at hck; obtain ⟨qg2, qo2, hqA2, -, hqk2⟩ := (HQR.out wr HMk.out.bel).at (intsV_at .i64 hck); rw [hqA] at hqA2; injection hqA2 with hqA2; injection hqA2 with e1 e2; subst e1 e2; exact hqk2
        have HNX2 : Hid (¬ k + 1 < qn → nx = -1) := hd' fun h1 => by
         rw [List.getElem?_eq_none (by have := HQN.out; omega)] at hnx; rw [← hnx]
         rfl
        have hmk := mkB_items d ((withNext bs).take k) sp; obtain ⟨sk, hsk⟩ := ex' (((withNext bs).take k).foldl (mkB d) sp)
        rw [hsk] at HMk hmk; have hlen := HLEN.out i _ k HPI.out; simp only at hlen; have HBLK := hd' (block_mk HMk.out bN blk hdb hfit nx (by rw [hmk.2.2, HSPL.out.2, HN3.out.1]) (by rw [hmk.1, HSPL.out.1, List.length_append]; omega) (by have := HTX.out; omega))
        have HSK1 : Hid (((withNext bs).take (k + 1)).foldl (mkB d) sp = ⟨sk.items ++ blkIts blk nx, sk.first.set bN sk.items.length, sk.begin_⟩) := hd' (by
         rw [List.take_add_one, hx, Option.toList_some, List.foldl_append, hsk, List.foldl_cons, List.foldl_nil]; unfold mkB
         simp only [Int.toNat_natCast, hblk])
        have p1 := HPk.out.cell 1 rfl; have pl := HPk.out.lt; have hqA2 := hqA; subst hqA2; have qk1 : IntKind.i64.wrap ((k : Int) + 1) = (k : Int) + 1 := IntWalk.i64_in _ (by have := HQN.out; have := HLB.out _ (mG' HPI.out); simp only at this; omega); have hqnb : qn ≤ 10000 := by have := HQN.out; have := HLB.out _ (mG' HPI.out); simp only at this; omega
        clear hbk hbe hbm hbN hdb hblk hfit hbl hx hnx hmk hsk hlen hqA
        go_upto_if 76 with fail
        go_cut [15] (fun s15 wx => s15 = .int .i64 nx ∧ wr = wx)
        case first =>
         by_cases h1 : k + 1 < qn
         · have h1I : (k : Int) + 1 < (qn : Int) := by omega
           have hck := HNX.out h1
           go_wp2_with fail
           go_meet
           exact ⟨rfl, rfl⟩
         · have h1I : ¬ (k : Int) + 1 < (qn : Int) := by omega
           have HE := hd' (HNX2.out h1)
           go_wp2_with fail
           go_meet
           exact ⟨by rw [HE.out], rfl⟩
        case rest =>
         obtain ⟨rfl, rfl⟩ := hcut; clear p1 pl hqk
         go_wp2_with fail
         refine HBLK.out.mono ?_; rintro e w6 ⟨rfl, hk6, iA6, ic6, hm6⟩; have HP6 := hd' (hk6.blk HPk.out (by decide)); have HM6 := hd' hm6; clear hk6 hm6 HBLK
         go_wp2_with fail
         go_roundg (qn - (k + 1))
         case measure => omega
         case rel => exact ⟨k + 1, iA6, ic6, by omega, by go_num, hd' (by rw [HSK1.out]; exact HM6.out), HP6, Nat.le_refl _⟩
      · have hkI : ¬ (k : Int) < (qn : Int) := by omega
        obtain rfl : k = qn := by omega
        go_wp2_with fail
        go_roundg (nl - (i + 1))
        case measure => omega
        case rel =>
         have e1 : ((l.take (i + 1)).foldl (mkP d) ⟨[], List.replicate d.blocks.length 0, List.replicate d.firsts.length 0⟩) = ((withNext bs).take k).foldl (mkB d) sp := by
          have hwl : (withNext bs).length = k := by
           have := congrArg List.length (withNext_fst bs); rw [List.length_map, HQN.out] at this; exact this
          rw [List.take_of_length_le (l := withNext bs) (by omega), List.take_add_one, HPI.out, Option.toList_some, List.foldl_append, HSIE.out, List.foldl_cons, List.foldl_nil, HMP.out]
         exact ⟨i + 1, iA2, ic2, by omega, by go_num, hd' (by rw [e1]; exact HMk.out), Nat.le_refl _⟩
   · have hltI : ¬ (i : Int) < (nl : Int) := by omega
     obtain rfl : i = nl := by omega
     have hsm : si = mkL d l := by
      rw [← hsi, List.take_of_length_le (by rw [HNL.out]; exact Nat.le_refl _)]
      rfl
     subst hsm
     have hne : (mkL d l).items ≠ [] := by
      intro e
      have h0 : 0 < d.blocks.length := by
       rw [HF.out.few.1]; rcases Nat.eq_zero_or_pos gs.length with h | h
       · exfalso
         have h1 := HF.out.flat; rw [List.length_eq_zero_iff.1 h] at h1; exact HF.out.nil h1.symm
       · exact h
      obtain ⟨-, -, -, -, h1, h2⟩ := HF.out.firstIn HFN.out HO.out (b := 0) (by omega) (by omega); rw [e] at h2; simp only [List.length_nil] at h2; omega
     have hT4 := HT.out.below HW4.out; have HSET := hd' (settle_mk HMr.out hT4 HIO.out (by have h2 := HEF.out.le.1; have h3 := HEF.out.len; have h4 := HTX.out; omega) hne); have hit : settleL (mkL d l).first (mkL d l).items = emIts d l := rfl
     rw [hit] at HSET
     have hszb : 0 ≤ szI (emIts d l) ∧ szI (emIts d l) ≤ 8000 := by
      have h1 := (szI_bd (l := emIts d l) fun u hu => (HEF.out.kind u hu).chk).1; have h2 := HEF.out.sz; have h3 := HTX.out; omega
     have hend : szI (emIts d l) = endPos 0 (emIts d l) := by rw [endPos_eq]; omega
     obtain ⟨sz, hsz⟩ := ex' (szI (emIts d l))
     rw [hsz] at HSET hszb hend; have HEND := hd' hend; clear hne hT4 hit hsz hend hsi hsl
     go_wp2_with fail
     refine HSET.out.mono ?_; rintro e w6 ⟨rfl, -, hm6⟩; have HM6 := hd' hm6; obtain ⟨hsz0, hsz8⟩ := hszb; have q92 : ¬ (8000 : Int) < sz := by omega
     have HPRG := hd' (program_mk (s := mkL d l) hm6 (HT.out.below HW4.out) HOK.out l A c (HP.out.below HW4.out) HPG.out (by have := HCT.out; omega) sz HEND.out ⟨hsz0, by omega⟩); rw [HNL.out] at HPRG; clear hm6 HSET HMr HSL HSIE hgk
     go_wp2_with fail
     refine HPRG.out.mono ?_; rintro e w7 ⟨hb7, ⟨ptA, ptc, pfA, pfc, pbA, pbc, pdA, pdc, plA, plc⟩, rfl, hown⟩; have HM7 := hd' (HM6.out.below hb7); have HS46 := hd' HM6.out.bel.size; have HOWN := hd' hown; have HB7 := hd' hb7; have HPAR := hd' (pairs_mk HM7.out (by have h3 := HEF.out.len; have h4 := HTX.out; omega) (fun t ht => by have h3 := HEF.out.olds t ht; have h4 := HTX.out; omega)); obtain ⟨EX, hEX⟩ := ex' (emImg m d l (mkL d l) (emIts d l))
     have HEX : Hid (emL m d l = EX) := hd' hEX; rw [hEX] at HOWN ⊢; obtain ⟨n0, hn0⟩ := ex' EX.text.length
     obtain ⟨n1, hn1⟩ := ex' EX.funcs.length
     obtain ⟨n2, hn2⟩ := ex' EX.tables.length
     obtain ⟨n3, hn3⟩ := ex' EX.data.length
     obtain ⟨n4, hn4⟩ := ex' EX.lines.length
     have HVAL : Hid (EX.val ⟨ptA, ptc, pfA, pfc, pbA, pbc, pdA, pdc, plA, plc⟩ = #[.slice ptA n0 ptc, .slice pfA n1 pfc, .slice pbA n2 pbc, .slice pdA n3 pdc, .slice plA n4 plc, .int .i64 EX.entry]) := hd' (by rw [← hn0, ← hn1, ← hn2, ← hn3, ← hn4]; rfl); rw [HVAL.out]; clear hb7 hown hEX hn0 hn1 hn2 hn3 hn4 HPRG HM6
     go_wp2_with fail
     refine HPAR.out.mono ?_; rintro e w8 ⟨hb8, pA, pn, pc, ps, rfl, hpl, hpo, hpok⟩; have HB8 := hd' hb8; have HPL := hd' hpl; have HPOW := hd' hpo; have HPOK := hd' hpok; have HOWN8 := hd' (HOWN.out.keep hb8); have hbel8 : Below w4.heap.size w4 w8 := HM7.out.bel.trans (hb8.mono HM7.out.bel.size); have HBL8 := hd' hbel8; have hr8 := HR4.out.below hbel8 HR4.out.lt; have HR8 := hd' hr8; have rf0 := hr8.free 0; have rf1 := hr8.free 1; have rf2 := hr8.free 2; have rf3 := hr8.free 3; have rf4 := hr8.free 4; have rf5 := hr8.free 5; have r0 := hr8.cell 0 rfl
     have r1 := hr8.cell 1 rfl; have r2 := hr8.cell 2 rfl; have r3 := hr8.cell 3 rfl; have r4 := hr8.cell 4 rfl; have r5 := hr8.cell 5 rfl; have rl := hr8.lt; clear hb8 hpl hpo hpok hbel8 hr8
     go_wp2_with fail
     have hset : Blk _ (B0 + 1) 42 [.slice ptA n0 ptc, .slice pfA n1 pfc, .slice pbA n2 pbc, .slice pdA n3 pdc, .slice plA n4 plc, .int .i64 EX.entry] := ((((((HR8.out.set 0 (.slice ptA n0 ptc)).set 1 (.slice pfA n1 pfc)).set 2 (.slice pbA n2 pbc)).set 3 (.slice pdA n3 pdc)).set 4 (.slice plA n4 plc)).set 5 (.int .i64 EX.entry))
     have hgb := (gb_setCell (gb_setCell (gb_setCell (gb_setCell (gb_setCell (gb_setCell (gb_refl w8 (some (B0 + 1))) 0 (.slice ptA n0 ptc)) 1 (.slice pfA n1 pfc)) 2 (.slice pbA n2 pbc)) 3 (.slice pdA n3 pdc)) 4 (.slice plA n4 plc)) 5 (.int .i64 EX.entry))
     obtain ⟨V, hV⟩ := ex' (((((((w8.setCell ⟨B0 + 1, 0, none⟩ (.slice ptA n0 ptc)).setCell ⟨B0 + 1, 1, none⟩ (.slice pfA n1 pfc)).setCell ⟨B0 + 1, 2, none⟩ (.slice pbA n2 pbc)).setCell ⟨B0 + 1, 3, none⟩ (.slice pdA n3 pdc)).setCell ⟨B0 + 1, 4, none⟩ (.slice plA n4 plc)).setCell ⟨B0 + 1, 5, none⟩ (.int .i64 EX.entry)))
     rw [hV] at hset hgb ⊢; have hB08 : B0 + 1 < w8.heap.size := by have := HBB.out; omega
     have hbelV := (HW4.out.trans (HBL8.out.mono HW4.out.size)).trans (gb_to_below hgb (by have := HB0.out; omega) (HW4.out.trans (HBL8.out.mono HW4.out.size)).size); have hw4 : B0 + 1 < w4.heap.size := HR4.out.lt; have hown := HOWN8.out.gb hgb (by have := HS46.out; omega); have hprs := own_gb HPOW.out hgb (fun e => by have h1 := (World.ownsRow.lt HPOW.out _ e).1; have h2 := HM7.out.bel.size; omega); have v0 := hset.cell 0 rfl; have v1 := hset.cell 1 rfl; have v2 := hset.cell 2 rfl; have v3 := hset.cell 3 rfl; have v4 := hset.cell 4 rfl; have v5 := hset.cell 5 rfl; have HBV := hd' hbelV
     have HON := hd' hown; have HPR := hd' hprs; clear hset hgb hV hbelV hown hprs; refine bodyPost_ret (v := .tuple #[.agg #[.slice ptA n0 ptc, .slice pfA n1 pfc, .slice pbA n2 pbc, .slice pdA n3 pdc, .slice plA n4 plc, .int .i64 EX.entry], .slice pA pn pc, .int .i64 0]) (by simp [results, Tryd.results15, go_sem, v0, v1, v2, v3, v4, v5]) rfl ?_; refine HPO.out _ _ ⟨ptA, ptc, pfA, pfc, pbA, pbc, pdA, pdc, plA, plc⟩ pA pn pc ps (by rw [HEX.out, HVAL.out]) HBV.out ?_ HPL.out ?_ HPOK.out
     · rw [HEX.out]; exact HON.out.more (by have h1 := HW4.out.size; have h2 := HS46.out; omega)
     · exact own_more HPR.out (by have h1 := HW4.out.size; have h2 := HM7.out.bel.size; omega)
end Go.Proofs.YtcafhoobeggmeaaDoor
