/- The given statement on EmitBad, proved: an order that is none is refused. No condition of its own. -/
import Derived.Test.YtcafhoobeggmeaaDoorLawS
import Derived.Test.YtcafhoobeggmeaaDoorEmV
import Derived.Test.YtcafhoobeggmeaaDoorEmBq
import Derived.Deep.DeepCutAuto
import Derived.Deep.CutBlock
import Derived.Deep.LoopGhost
import Derived.Deep.QuietTactic
import Derived.BigQuiet
import Derived.IntWalk
import Derived.WalkLawsBesides
namespace Go.Proofs.YtcafhoobeggmeaaDoor
open Go.ChangeShapes Go.WideShapes Go.ChangeAt Go.RowKit Go.Joins
open Go.ChangeMaps (open_string)
set_option maxHeartbeats 8000000 in
set_option maxRecDepth 100000 in
theorem emitBad_walk (l : List RawI) (A : Option Addr) (c : Nat) (n : Int) (hn : N64 n) (w : World) (hT : Tabs w) (hR : RdR w w.heap.size A l) (hl : l.length ≤ 140737488355328) (hc : l.length ≤ c) :
 Calls Tryd.prog 5 #[.slice A l.length c, .int .i64 n] w fun e w' => e = .returned (.bool true) ∧ Below w.heap.size w w' := by
 have HTL := hd' (emitTells_any w hT); have HFW : Hid (∀ W, Below w.heap.size w W → Calls Tryd.prog 14 #[.slice A l.length c] W (FlwPost W l)) := hd' fun W hW => flowed_any l A c W (hT.below hW) ((hR.below hW).more hW.size) hc hl
 have hk := pickL_bd n 5 (by decide); have HPK := hd' (fun W => picked_any n 5 W hn.1 hn.2 (by decide) (by decide)); obtain ⟨k0, hk0⟩ := ex' (pickL n 5)
 rw [hk0] at hk HPK; obtain ⟨kk, rfl⟩ := Int.eq_ofNat_of_zero_le hk.1; have hk5 : kk < 5 := by omega
 have HT := hd' hT; obtain ⟨ll, hll⟩ := ex' l.length
 rw [hll] at HFW ⊢; clear hT hR hl hc hll hn hk hk0
 go_enter Tryd.func5, Tryd.ntmps5
 go_wp2_with fail
 refine HTL.out.mono ?_; rintro e w0 ⟨rfl, hb0⟩; have HB0 := hd' hb0; clear hb0 HTL
 go_wp2_with fail
 refine (HFW.out _ HB0.out).mono ?_; rintro e w1 ⟨hb1, m, v, d, xA, yA, zA, xc, yc, zc, rfl, hst⟩; have hb1w : Below w.heap.size w w1 := (HB0.out.trans (hb1.mono HB0.out.size))
 have HB1 := hd' hb1w; have HST := hd' hst; have HTXT := hd' hst.pgm.text; obtain ⟨P, hP⟩ := ex' (shL d ([] : List Int))
 have ho := shL_good hst.sizes.2.2.2.2 ([] : List Int); rw [hP] at ho; obtain ⟨x, hx⟩ := ex' (emL m d P)
 have HPE := hd' hP; have HXE := hd' hx; have HO := hd' ho; obtain ⟨tA, tc, fA, fc, bA, bc, dA, dc, lA, lc⟩ := v; unfold Img.val flowV; simp only; obtain ⟨T, hTe⟩ := ex' m.text.length
 obtain ⟨NF, hNF⟩ := ex' m.funcs.length
 obtain ⟨nb, hnb⟩ := ex' m.tables.length
 obtain ⟨nd, hnd⟩ := ex' m.data.length
 obtain ⟨nl, hnl⟩ := ex' m.lines.length
 obtain ⟨NB, hNB⟩ := ex' d.blocks.length
 obtain ⟨nt, hnt⟩ := ex' d.tables.length
 obtain ⟨nz, hnz⟩ := ex' d.firsts.length
 obtain ⟨NP, hNP⟩ := ex' P.length
 have HSH : Hid (∀ W, Below w1.heap.size w1 W → Calls Tryd.prog 16 #[.agg #[.slice xA NB xc, .slice yA nt yc, .slice zA nz zc], .slice none 0 0] W (ShfPost W d ([] : List Int))) := hd' fun W hW => by
  have h := shuf_st (hst.below hW) [] none 0 (RdG.nil _ _ _) lr' (Nat.zero_le _) (fun x hx => by cases hx); unfold flowV at h; rw [hNB, hnt, hnz] at h; exact h
 have HEM : Hid (∀ W A c, Below w1.heap.size w1 W → PartsRd W A c P → Calls Tryd.prog 15 #[.agg #[.slice tA T tc, .slice fA NF fc, .slice bA nb bc, .slice dA nd dc, .slice lA nl lc, .int .i64 m.entry], .slice A NP c] W (EmPost W m d P)) := hd' fun W A c hW hq => by
  have h := emit_st (hst.below hW) (HT.out.below (hb1w.trans (hW.mono hb1w.size))) hq ho; unfold Img.val at h; simp only at h; rw [hTe, hNF, hnb, hnd, hnl, hNP] at h; exact h
 rw [hTe, hNF, hnb, hnd, hnl, hNB, hnt, hnz]; have HNP := hd' hNP; have HTE := hd' hTe; have HNF := hd' hNF; have HN5 := hd' (And.intro hnb (And.intro hnd hnl)); have HNB := hd' hNB; have HNZ := hd' hnz; clear hTe hnl hnb hnd hNB hnt hnz hNF hNP hst hP hx ho hb1 hb1w
 have HEMB : Hid (∀ W A n c, Below w1.heap.size w1 W → BadP W d A n c → Calls Tryd.prog 15 #[.agg #[.slice tA T tc, .slice fA NF fc, .slice bA nb bc, .slice dA nd dc, .slice lA nl lc, .int .i64 m.entry], .slice A n c] W (EmBad W)) := hd' fun W A n c hW hq => by
  obtain ⟨ps, h1, h2, h3, h4, h5⟩ := hq; have h := emit_stB (HST.out.below hW) (HT.out.below (HB1.out.trans (hW.mono HB1.out.size))) h2 h4 h5 h3; unfold Img.val at h; simp only [HTE.out, HNF.out, HN5.out.1, HN5.out.2.1, HN5.out.2.2, h1] at h; exact h
 have hnz : d.firsts.length = NP := by rw [← HO.out.len]; exact HNP.out
 have hNP : 1 ≤ NP ∧ NP ≤ 3 := by
  have h1 := HST.out.sizes; have h2 := HST.out.pgm.fnz; omega
 have hNB : d.blocks.length ≤ 1600 := HST.out.sizes.1; have HZ := hd' (And.intro hnz hNB); clear HFW HB0 hnz hNB
 go_upto_region 4 with fail
 obtain ⟨X, hX⟩ := ex' (w1.alloc (.cells #[.slice tA T tc, .slice fA NF fc, .slice bA nb bc, .slice dA nd dc, .slice lA nl lc, .int .i64 m.entry] 42))
 rw [hX]; have hm1 : Blk X w1.heap.size 42 [.slice tA T tc, .slice fA NF fc, .slice bA nb bc, .slice dA nd dc, .slice lA nl lc, .int .i64 m.entry] := by rw [← hX]; exact Blk.new w1 _ _
 have hbX : Below w1.heap.size w1 X := by rw [← hX]; exact (Below.refl _ _).alloc lr' _
 have hxs : X.heap.size = w1.heap.size + 1 := by rw [← hX]; simp
 obtain ⟨Y, hY⟩ := ex' (X.alloc (.cells #[.slice xA NB xc, .slice yA nt yc, .slice zA nz zc] 45))
 rw [hY]; have hfY : Blk Y (w1.heap.size + 1) 45 [.slice xA NB xc, .slice yA nt yc, .slice zA nz zc] := by rw [← hY, ← hxs]; exact Blk.new X _ _
 have hbY : Below X.heap.size X Y := by rw [← hY]; exact (Below.refl _ _).alloc lr' _
 have hmY := hm1.keep hbY; have hbWY := hbX.trans (hbY.mono hbX.size); obtain ⟨BX, hBX⟩ := ex' w1.heap.size
 have HWY := hd' hbWY; rw [hBX] at hfY hmY ⊢; have HMY := hd' hmY; have HFY := hd' hfY; have HSHY : Hid (∀ W, Below Y.heap.size Y W → _) := hd' fun W hW => HSH.out W (hbWY.trans (hW.mono hbWY.size))
 have HEMY : Hid (∀ W A c, Below Y.heap.size Y W → _) := hd' fun W A c hW => HEM.out W A c (hbWY.trans (hW.mono hbWY.size))
 have m0 := hmY.cell 0 rfl; have m1 := hmY.cell 1 rfl; have m2 := hmY.cell 2 rfl; have m3 := hmY.cell 3 rfl; have m4 := hmY.cell 4 rfl; have m5 := hmY.cell 5 rfl; have f0 := hfY.cell 0 rfl; have f1 := hfY.cell 1 rfl; have f2 := hfY.cell 2 rfl; clear hX hY hm1 hbX hbY hmY hbWY hxs hBX hfY HSH HEM; have HSHZ := HSHY; have HEMZ := HEMY; have HWZ : Hid (∀ W, Below Y.heap.size Y W → Below w1.heap.size w1 W) := hd' fun W hW => HWY.out.trans (hW.mono HWY.out.size)
 go_wp2_with fail
 refine (HSHY.out Y (Below.refl _ _)).mono ?_; rintro e w2 ⟨hb2, pA, pc, lv, rfl, hlv, hpr, hpb⟩; rw [HPE.out] at hlv; have hlvn : lv.length = NP := by rw [← HNP.out, ← hlv, List.length_map]
 rw [hlvn] at hpr ⊢; obtain ⟨pg, rfl⟩ := own_ptr hpr (by omega); have HPR := hd' hpr; have HPB := hd' hpb; have HLV := hd' hlv; have HLN := hd' hlvn; have HB2 := hd' hb2; clear hlv hpr hpb hb2 hlvn m0 m1 m2 m3 m4 m5 f0 f1 f2
 go_wp2_with fail
 refine (clone_part lv (some ⟨pg, 0, none⟩) NP pc w2 HLN.out (by omega) (by omega) (own_rdg HPR.out)).mono ?_; rintro e w3 ⟨cA, cc, rfl, hb3, ho3⟩; obtain ⟨g, rfl⟩ := own_ptr ho3 (by omega); have HO3 := hd' ho3; have HB3 := hd' hb3; have HB23 := hd' (HB2.out.trans (hb3.mono HB2.out.size)); have hcc : NP ≤ cc := own_capG ho3; clear ho3 hb3
 go_wp2_with fail
 refine (HPK.out w3).mono ?_; rintro e W3 ⟨rfl, rfl⟩
 go_upto_block 0 with fail
 go_cut [9] (fun s9 wx => ∃ (qA : Option Addr) (qn qc : Nat), s9 = .slice qA qn qc ∧ Hid (BadP wx d qA qn qc) ∧ Hid (Below Y.heap.size Y wx))
 case first =>
  obtain ⟨x0, lr, hlv0⟩ := List.exists_cons_of_ne_nil (show lv ≠ [] from fun e => by have := HLN.out; rw [e] at this; simp at this; omega); subst hlv0; obtain ⟨⟨f0, b0⟩, iA, ic⟩ := x0; have hP : P = ⟨f0, b0⟩ :: lr.map Prod.fst := HLV.out.symm; have HPP := hd' hP; have hle : lr.length + 1 = NP := by simpa using HLN.out
  have hg2 : w2.heap.size ≤ g ∧ g < w3.heap.size := own_lt HO3.out; have hpl := parts_len HO.out HZ.out.2; rw [hP] at hpl; have HPL := hd' hpl; have hgY : Y.heap.size ≤ g := Nat.le_trans HB2.out.size hg2.1; have c0 := own_cellf (q := 0) (u := .int .i64 f0) HO3.out rfl; have c1 := own_cellf (q := 1) (u := .slice iA b0.length ic) HO3.out rfl; have HIN := hd' (fun W (hW : Below w2.heap.size w2 W) => inner_rd HPB.out hW); have hfy := HFY.out.keep HB23.out; have f2 := hfy.cell 2 rfl; have fl := hfy.lt; obtain ⟨c0a, c0b, c0c⟩ := c0; obtain ⟨c1a, c1b, -⟩ := c1; have hnz := HZ.out.1
  clear hfy hP hpl; have h : kk = 0 ∨ kk = 1 ∨ kk = 2 ∨ kk = 3 ∨ kk = 4 := by omega
  rcases h with rfl | rfl | rfl | rfl | rfl
  · have HBP : Hid (∀ A', (cc ≠ 1 → A' = some ⟨g, 2, none⟩) → BadP w3 d A' (NP - 1) (cc - 1)) := hd' fun A' hA =>
     ⟨lr.map Prod.fst, by rw [List.length_map]; omega, parts_tail HO3.out HLN.out A' hA (HIN.out w3 HB3.out), ordOk_len (by rw [List.length_map, hnz]; omega), by rw [List.length_map]; omega, fun p hp => by have := HPL.out p (List.mem_cons_of_mem _ hp); omega⟩
    clear hnz
    by_cases h1 : cc = 1
    · subst h1; obtain rfl : 1 = NP := by omega
      go_wp2_with fail
      go_meet
      exact ⟨_, _, _, rfl, hd' (HBP.out _ (fun h => absurd rfl h)), HB23⟩
    · go_wp2_with fail
      go_meet
      exact ⟨_, _, _, rfl, hd' (HBP.out _ (fun _ => rfl)), HB23⟩
  · have d0 := (HB3.out.cell (p := ⟨pg, 0, none⟩) (own_cellf (q := 0) (u := .int .i64 f0) HPR.out rfl).2.2).trans (own_cellf (q := 0) (u := .int .i64 f0) HPR.out rfl).1; have d1 := (HB3.out.cell (p := ⟨pg, 1, none⟩) (own_cellf (q := 1) (u := .slice iA b0.length ic) HPR.out rfl).2.2).trans (own_cellf (q := 1) (u := .slice iA b0.length ic) HPR.out rfl).1; have dl := Nat.lt_of_lt_of_le (own_cellf (q := 0) (u := .int .i64 f0) HPR.out rfl).2.2 HB3.out.size; have hgB := hg2.1; clear hg2 c0a c0b c0c c1a c1b f2 fl
    go_wp2_with (first | (at_builtin; refine app_one rfl _ _ 51 66 2 32 _ Tryd.underlying51 infoPartC rfl (by decide) rfl w2.heap.size _ NP _ rfl (World.ownsRow.alloc HO3.out _) w3.heap.size 1 rfl [.int .i64 f0, .slice iA b0.length ic] 66 (0, 0) (heap_alloc_new w3 _) rfl (by simp [Value.oneCell']) (by omega) (by omega) (by have := HB3.out.size; simp; omega) (w3.heap.size + 1) (by simp) ?a1))
    case a1 =>
     intro g9 c9 w9 ho9 hg9 _ _; have hbA : Below w2.heap.size w2 (w3.alloc (.cells #[.int .i64 f0, .slice iA b0.length ic] 66)) := HB3.out.alloc HB3.out.size _; have hb9 := hbA.grown hg9 hbA.size (fun q e => by have e2 : some g = some q := e; injection e2 with e2; omega); have HBE := hd' (HB2.out.trans (hb9.mono HB2.out.size)); have hi := HIN.out w9 hb9; have HBP : Hid (BadP w9 d (some ⟨g9, 0, none⟩) (NP + 1) c9) := hd' (bad_app ho9 hle (by omega) hnz HPL.out hi); clear ho9 hg9 hb9 hbA hi hnz d0 d1 dl
     go_wp2_with fail
     go_meet
     exact ⟨_, _, _, rfl, HBP, HBE⟩
  · have HST2 : Hid (BadP (w3.setCell ⟨g, 1, none⟩ (.slice none 0 0)) d (some ⟨g, 0, none⟩) NP cc) := hd' (by
     have hb := gb_to_below (gb_setCell (gb_refl w3 (some g)) 1 (.slice none 0 0)) hg2.1 HB3.out.size; have hi := HIN.out _ (HB3.out.trans hb); have ho := own_set HO3.out 1 (.slice none 0 0); refine ⟨⟨f0, []⟩ :: lr.map Prod.fst, by simp; omega, parts_own (lv := ((⟨f0, []⟩, none, 0) : PartD × Option Addr × Nat) :: lr) ho (by simp; omega) (fun x hx => ?_), ordOk_first (.inr (by simp)), by simp; omega, fun p hp => ?_⟩
     · rcases List.mem_cons.1 hx with rfl | hx
       · exact ⟨Nat.le_refl _, RdG.nil _ _ _⟩
       · exact hi x (List.mem_cons_of_mem _ hx)
     · rcases List.mem_cons.1 hp with rfl | hp
       · exact Nat.zero_le _
       · have := HPL.out p (List.mem_cons_of_mem _ hp)
         omega)
    have HBE := hd' (HB23.out.trans (gb_to_below (gb_setCell (gb_refl w3 (some g)) 1 (.slice none 0 0)) hgY HB23.out.size)); clear hnz
    go_wp2_with fail
    go_meet
    exact ⟨_, _, _, rfl, HST2, HBE⟩
  · have hb0 : b0 ≠ [] := fun e => by
     have h := (HO.out.bs ⟨f0, b0⟩ (by rw [HPP.out]; exact List.mem_cons_self)).2; rw [e] at h
     cases h
    obtain ⟨b1, br, hbr⟩ := List.exists_cons_of_ne_nil hb0; have hlen0 : b0.length ≤ 1600 := HPL.out _ List.mem_cons_self; have hI := HPB.out ((⟨f0, b0⟩, iA, ic) : PartD × Option Addr × Nat) List.mem_cons_self; simp only at hI; obtain ⟨ib, hib⟩ := own_ptr hI (fun e => hb0 (List.length_eq_zero_iff.1 e)); subst hib; have hbm : b1 ∈ b0 := by rw [hbr]; exact List.mem_cons_self
    have hi0 := own_cellf (q := 0) (u := .int .i64 b1) hI (by rw [hbr]; rfl); have e1 := (HB3.out.cell (p := ⟨ib, 0, none⟩) hi0.2.2).trans hi0.1; have el := Nat.lt_of_lt_of_le hi0.2.2 HB3.out.size; have hn0 : 0 < b0.length := List.length_pos_iff.2 hb0; have hci : b0.length ≤ ic := own_capG hI; obtain ⟨n0, hn0e⟩ := ex' b0.length
    have HCI : Hid (∀ W, Below w3.heap.size w3 W → Calls Tryd.prog 20 #[.slice (some ⟨ib, 0, none⟩) n0 ic] W (ClonePostE W 3 1 n0 (intsV .i64 b0))) := hd' fun W hW =>
     clone_intE b0 (some ⟨ib, 0, none⟩) n0 ic W hn0e (fun e => by cases e) (by omega) (((own_rdg hI).below (HB3.out.trans (hW.mono HB3.out.size))).more (HB3.out.trans (hW.mono HB3.out.size)).size)
    rw [hn0e] at c1a hn0 hlen0 hci; have HN0 := hd' hn0e
    have HBF : Hid (∀ (W : World) (qB : Nat) (qA : Option Addr) (qc : Nat), Below w3.heap.size w3 W → W.ownsRow qB 3 1 (.slice qA (n0 + 1) qc) (n0 + 1) (intsV .i64 b0 ++ [.int .i64 b1]) → g < qB → BadP (W.setCell ⟨g, 1, none⟩ (.slice qA (n0 + 1) qc)) d (some ⟨g, 0, none⟩) NP cc) := hd' fun W qB qA qc hW hq hgq =>
     bad_dup (own_keep HO3.out hW) hq hgq rfl hn0e hbm hle (by omega) HPL.out (HIN.out _ ((HB3.out.trans (hW.mono HB3.out.size)).trans (gb_to_below (gb_setCell (gb_refl W (some g)) 1 (.slice qA (n0 + 1) qc)) hg2.1 (HB3.out.trans (hW.mono HB3.out.size)).size)))
    have hNP0 : 0 < NP := by omega
    have hgl := hg2.2; have hg22 := hg2.1; have HBS : Hid (∀ (W : World) (u : Value), Below w3.heap.size w3 W → Below Y.heap.size Y (W.setCell ⟨g, 1, none⟩ u)) := hd' fun W u hW => (HB23.out.trans (hW.mono HB23.out.size)).trans (gb_to_below (gb_setCell (gb_refl W (some g)) 1 u) hgY (HB23.out.trans (hW.mono HB23.out.size)).size)
    clear hnz hI hi0 hb0 hbr hbm hn0e c0a c0b f2 fl
    go_upto_region 15 with fail
    refine wp_region_W (fun w' => w'.cell? ⟨g, 1, none⟩ = some (.slice (some ⟨ib, 0, none⟩) n0 ic) ∧ w'.cell? ⟨ib, 0, none⟩ = some (.int .i64 b1)) 16 (by kernel_rfl) (by (try dsimp only); exact ⟨c1a, e1⟩) (fun zH => ?_); refine wq 0 zH ?_; refine wq 1 zH ?_; refine wq 2 zH ?_; refine wq 3 zH ?_; refine wq 4 zH ?_; refine wq 6 zH ?_; refine wq 7 zH ?_; refine wq 8 zH ?_; refine wq 9 zH ?_; refine wq 10 zH ?_; refine wq 11 zH ?_; have hbD : Below w3.heap.size w3 w3.drew := (Below.refl _ _).drew; refine wpW_all [5, 12] (by kernel_rfl) (by simp) ?_; refine AllW.cons (i := 5) rfl (fun K hK => ?_) ?_
    · skip
      go_simp
      refine (HCI.out w3.drew hbD).mono ?_; rintro e w5 ⟨qA, qc, rfl, hb5', ho5⟩; have hb5 : Below w3.heap.size w3 w5 := hbD.trans (hb5'.mono hbD.size); have s0 : w5.cell? ⟨g, 1, none⟩ = some (.slice (some ⟨ib, 0, none⟩) n0 ic) := (hb5.cell (p := ⟨g, 1, none⟩) hgl).trans c1a; have s1 : w5.cell? ⟨ib, 0, none⟩ = some (.int .i64 b1) := (hb5.cell (p := ⟨ib, 0, none⟩) el).trans e1; refine hK.out _ _ (by (try dsimp only); exact ⟨s0, s1⟩) (fun zH => ?_); clear hK K; (try simp only [putE]); refine wpW_one 12 rfl (by kernel_rfl) (fun K hK => ?_)
      go_simp
      have hbU : Below w3.heap.size w3 (w5.alloc (.cells #[.int .i64 b1] 3)) := hb5.alloc hb5.size _; have t0 : ((w5.alloc (.cells #[.int .i64 b1] 3))).cell? ⟨g, 1, none⟩ = some (.slice (some ⟨ib, 0, none⟩) n0 ic) := (hbU.cell (p := ⟨g, 1, none⟩) hgl).trans c1a; have t1 : ((w5.alloc (.cells #[.int .i64 b1] 3))).cell? ⟨ib, 0, none⟩ = some (.int .i64 b1) := (hbU.cell (p := ⟨ib, 0, none⟩) el).trans e1; refine hK.out _ _ (by (try dsimp only); exact ⟨t0, t1⟩) (fun zH => ?_); clear hK K; (try simp only [putE]); refine wpW_one 13 rfl (by kernel_rfl) (fun K hK => ?_)
      have hWb : Below w3.heap.size w3 (w5.alloc (.cells #[.int .i64 b1] 3)) := hbU; refine step_app_one rfl _ _ 35 3 1 8 _ Tryd.underlying35 infoIntNOE rfl (by decide) rfl (w3.drew.heap.size) _ n0 _ rfl (World.ownsRow.alloc ho5 (.cells #[.int .i64 b1] 3)) (w5.heap.size) 1 rfl [.int .i64 b1] 3 (0, 0) (heap_alloc_new w5 _) rfl (by simp [Value.oneCell']) (by omega) (by omega) (by first | exact Nat.le_refl _ | (have h1 := hb5'.size; simp at h1 ⊢; omega)) (w5.alloc (.cells #[.int .i64 b1] 3)).heap.size rfl ?_; intro g9 c9 w9 ho9 hg9 _ _
      have hqb : w3.heap.size ≤ (w3.drew.heap.size) := by first | exact Nat.le_refl _ | (simp; try omega)
      have hb9 : Below w3.heap.size w3 w9 := hWb.grown hg9 hWb.size (fun q e => by have := (World.ownsRow.lt ho5 q e).1; omega); have HB9 := hd' hb9; have HO9 := hd' ho9; have u0 : w9.cell? ⟨g, 1, none⟩ = some (.slice (some ⟨ib, 0, none⟩) n0 ic) := (hb9.cell (p := ⟨g, 1, none⟩) hgl).trans c1a; have u1 : w9.cell? ⟨ib, 0, none⟩ = some (.int .i64 b1) := (hb9.cell (p := ⟨ib, 0, none⟩) el).trans e1; have HQ : Hid (g < (w3.drew.heap.size)) := hd' (by omega); have uf := own_cellf (q := 1) (u := .slice (some ⟨ib, 0, none⟩) n0 ic) (own_keep HO3.out hb9) (by rw [← HN0.out]; rfl)
      have ufr := uf.2.1; have ufl := uf.2.2; clear uf hb9 ho9 hg9 hWb hqb; refine hK.out _ _ (by (try dsimp only); exact ⟨u0, u1⟩) (fun zH => ?_); clear hK K; (try simp only [putE]); refine wpW_one 14 rfl (by kernel_rfl) (fun K hK => ?_)
      go_simp
      refine hK.out _ _ (by (try dsimp only); exact ⟨u0, u1⟩) (fun zH => ?_); clear hK K; (try simp only [putE]); refine wq 15 zH ?_; refine wpW_last 16 rfl (by kernel_rfl) (by decide) (fun K hK => ?_)
      go_simp
      refine hK.out _ _ ?_; clear hK K; (try simp only [putE]); refine wpW_done (by kernel_rfl) ?_ _; have HBP := hd' (HBF.out w9 (w3.drew.heap.size) (some ⟨g9, 0, none⟩) c9 HB9.out HO9.out HQ.out); have HBY := hd' (HBS.out w9 (.slice (some ⟨g9, 0, none⟩) (n0 + 1) c9) HB9.out); clear u0 u1 ufr ufl
      go_wp2
      go_meet
      exact ⟨_, _, _, rfl, HBP, HBY⟩
    refine AllW.cons (i := 12) rfl (fun K hK => ?_) AllW.nil
    go_simp
    have hbU : Below w3.heap.size w3 (w3.alloc (.cells #[.int .i64 b1] 3)).drew := ((Below.refl w3.heap.size w3).alloc lr' (.cells #[.int .i64 b1] 3)).drew; have t0 : ((w3.alloc (.cells #[.int .i64 b1] 3)).drew).cell? ⟨g, 1, none⟩ = some (.slice (some ⟨ib, 0, none⟩) n0 ic) := (hbU.cell (p := ⟨g, 1, none⟩) hgl).trans c1a; have t1 : ((w3.alloc (.cells #[.int .i64 b1] 3)).drew).cell? ⟨ib, 0, none⟩ = some (.int .i64 b1) := (hbU.cell (p := ⟨ib, 0, none⟩) el).trans e1; refine hK.out _ _ (by (try dsimp only); exact ⟨t0, t1⟩) (fun zH => ?_); clear hK K
    (try simp only [putE]); refine wpW_one 5 rfl (by kernel_rfl) (fun K hK => ?_)
    go_simp
    refine (HCI.out (w3.alloc (.cells #[.int .i64 b1] 3)).drew hbU).mono ?_; rintro e w6 ⟨qA, qc, rfl, hb5', ho5⟩; have hb5 : Below w3.heap.size w3 w6 := hbU.trans (hb5'.mono hbU.size); have s0 : w6.cell? ⟨g, 1, none⟩ = some (.slice (some ⟨ib, 0, none⟩) n0 ic) := (hb5.cell (p := ⟨g, 1, none⟩) hgl).trans c1a; have s1 : w6.cell? ⟨ib, 0, none⟩ = some (.int .i64 b1) := (hb5.cell (p := ⟨ib, 0, none⟩) el).trans e1; refine hK.out _ _ (by (try dsimp only); exact ⟨s0, s1⟩) (fun zH => ?_); clear hK K; (try simp only [putE]); refine wpW_one 13 rfl (by kernel_rfl) (fun K hK => ?_)
    have hWb : Below w3.heap.size w3 (w6) := hb5; refine step_app_one rfl _ _ 35 3 1 8 _ Tryd.underlying35 infoIntNOE rfl (by decide) rfl (((w3.alloc (.cells #[.int .i64 b1] 3)).drew).heap.size) _ n0 _ rfl (ho5) (w3.heap.size) 1 rfl [.int .i64 b1] 3 (0, 0) ((hb5'.block w3.heap.size (by simp)).trans (heap_alloc_new w3 _)) rfl (by simp [Value.oneCell']) (by omega) (by omega) (by first | exact Nat.le_refl _ | (have h1 := hb5'.size; simp at h1 ⊢; omega)) (w6).heap.size rfl ?_; intro g9 c9 w9 ho9 hg9 _ _
    have hqb : w3.heap.size ≤ (((w3.alloc (.cells #[.int .i64 b1] 3)).drew).heap.size) := by first | exact Nat.le_refl _ | (simp; try omega)
    have hb9 : Below w3.heap.size w3 w9 := hWb.grown hg9 hWb.size (fun q e => by have := (World.ownsRow.lt ho5 q e).1; omega); have HB9 := hd' hb9; have HO9 := hd' ho9; have u0 : w9.cell? ⟨g, 1, none⟩ = some (.slice (some ⟨ib, 0, none⟩) n0 ic) := (hb9.cell (p := ⟨g, 1, none⟩) hgl).trans c1a; have u1 : w9.cell? ⟨ib, 0, none⟩ = some (.int .i64 b1) := (hb9.cell (p := ⟨ib, 0, none⟩) el).trans e1; have HQ : Hid (g < (((w3.alloc (.cells #[.int .i64 b1] 3)).drew).heap.size)) := hd' (by omega)
    have uf := own_cellf (q := 1) (u := .slice (some ⟨ib, 0, none⟩) n0 ic) (own_keep HO3.out hb9) (by rw [← HN0.out]; rfl); have ufr := uf.2.1; have ufl := uf.2.2; clear uf hb9 ho9 hg9 hWb hqb; refine hK.out _ _ (by (try dsimp only); exact ⟨u0, u1⟩) (fun zH => ?_); clear hK K; (try simp only [putE]); refine wpW_one 14 rfl (by kernel_rfl) (fun K hK => ?_)
    go_simp
    refine hK.out _ _ (by (try dsimp only); exact ⟨u0, u1⟩) (fun zH => ?_); clear hK K; (try simp only [putE]); refine wq 15 zH ?_; refine wpW_last 16 rfl (by kernel_rfl) (by decide) (fun K hK => ?_)
    go_simp
    refine hK.out _ _ ?_; clear hK K; (try simp only [putE]); refine wpW_done (by kernel_rfl) ?_ _; have HBP := hd' (HBF.out w9 (((w3.alloc (.cells #[.int .i64 b1] 3)).drew).heap.size) (some ⟨g9, 0, none⟩) c9 HB9.out HO9.out HQ.out); have HBY := hd' (HBS.out w9 (.slice (some ⟨g9, 0, none⟩) (n0 + 1) c9) HB9.out); clear u0 u1 ufr ufl
    go_wp2
    go_meet
    exact ⟨_, _, _, rfl, HBP, HBY⟩
  · have HST2 : Hid (BadP (w3.setCell ⟨g, 0, none⟩ (.int .i64 nz)) d (some ⟨g, 0, none⟩) NP cc) := hd' (by
     have hb := gb_to_below (gb_setCell (gb_refl w3 (some g)) 0 (.int .i64 nz)) hg2.1 HB3.out.size; have hi := HIN.out _ (HB3.out.trans hb); have ho := own_set HO3.out 0 (.int .i64 nz); refine ⟨⟨nz, b0⟩ :: lr.map Prod.fst, by simp; omega, parts_own (lv := ((⟨nz, b0⟩, iA, ic) : PartD × Option Addr × Nat) :: lr) ho (by simp; omega) (fun x hx => ?_), ordOk_first (.inl (by show (d.firsts.length : Int) ≤ (nz : Int); have := HNZ.out; omega)), by simp; omega, fun p hp => ?_⟩
     · rcases List.mem_cons.1 hx with rfl | hx
       · exact hi (⟨f0, b0⟩, iA, ic) List.mem_cons_self
       · exact hi x (List.mem_cons_of_mem _ hx)
     · rcases List.mem_cons.1 hp with rfl | hp
       · have := HPL.out _ List.mem_cons_self; simp only at this ⊢; omega
       · have := HPL.out p (List.mem_cons_of_mem _ hp)
         omega)
    have HBE := hd' (HB23.out.trans (gb_to_below (gb_setCell (gb_refl w3 (some g)) 0 (.int .i64 nz)) hgY HB23.out.size)); clear hnz
    go_wp2_with fail
    go_meet
    exact ⟨_, _, _, rfl, HST2, HBE⟩
 case rest =>
  obtain ⟨qA, qn, qc, rfl, HBP, HBQ⟩ := hcut
  rename World => wx
  have hmy := HMY.out.keep HBQ.out; have k0 := hmy.cell 0 rfl; have k1 := hmy.cell 1 rfl; have k2 := hmy.cell 2 rfl; have k3 := hmy.cell 3 rfl; have k4 := hmy.cell 4 rfl; have k5 := hmy.cell 5 rfl; have kl := hmy.lt; clear hmy
  go_wp2_with fail
  refine (HEMB.out wx qA qn qc (HWZ.out wx HBQ.out) HBP.out).mono ?_; rintro e w5 ⟨hb5, rfl⟩; have HB5 := hd' (HBQ.out.trans (hb5.mono HBQ.out.size)); clear hb5 k0 k1 k2 k3 k4 k5 kl
  go_upto_region 17 with fail
  obtain ⟨V, hV⟩ := ex' (w5.alloc (.cells #[.slice none 0 0, .slice none 0 0, .slice none 0 0, .slice none 0 0, .slice none 0 0, .int .i64 0] 42))
  rw [hV]; have hbV : Below Y.heap.size Y V := by rw [← hV]; exact HB5.out.alloc HB5.out.size _
  have HBV := hd' hbV; have hmY := HMY.out.keep hbV; have hfY := HFY.out.keep hbV; have HMV := hd' hmY; have HFV := hd' hfY; have HWV := hd' (HWZ.out V hbV); have HSHV : Hid (∀ W, Below V.heap.size V W → _) := hd' fun W hW => HSHZ.out W (HBV.out.trans (hW.mono HBV.out.size))
  have HEMV : Hid (∀ W A c, Below V.heap.size V W → _) := hd' fun W A c hW => HEMZ.out W A c (HBV.out.trans (hW.mono HBV.out.size))
  have m0 := hmY.cell 0 rfl; have m1 := hmY.cell 1 rfl; have m2 := hmY.cell 2 rfl; have m3 := hmY.cell 3 rfl; have m4 := hmY.cell 4 rfl; have m5 := hmY.cell 5 rfl; have f0 := hfY.cell 0 rfl; have f1 := hfY.cell 1 rfl; have f2 := hfY.cell 2 rfl; clear hV hbV hmY hfY
  go_cut [13, 14, 15] (fun s13 s14 s15 wx => ∃ (z : Nat) (v2 : ImgV) (eA : Option Addr) (en ec : Nat) (ps : List (Int × Int)), s13 = .pointer (some ⟨z, 0, none⟩) ∧ s14 = .slice eA en ec ∧ s15 = .int .i64 0 ∧ Hid (EmVar V wx z x (emIts d P) v2 eA en ec ps))
  case first =>
   refine wp_region_W (fun w' => w'.cell? ⟨BX, 0, none⟩ = some (.slice tA T tc) ∧ w'.cell? ⟨BX, 1, none⟩ = some (.slice fA NF fc) ∧ w'.cell? ⟨BX, 2, none⟩ = some (.slice bA nb bc) ∧ w'.cell? ⟨BX, 3, none⟩ = some (.slice dA nd dc) ∧ w'.cell? ⟨BX, 4, none⟩ = some (.slice lA nl lc) ∧ w'.cell? ⟨BX, 5, none⟩ = some (.int .i64 m.entry) ∧ w'.cell? ⟨BX + 1, 0, none⟩ = some (.slice xA NB xc) ∧ w'.cell? ⟨BX + 1, 1, none⟩ = some (.slice yA nt yc) ∧ w'.cell? ⟨BX + 1, 2, none⟩ = some (.slice zA nz zc)) 12 (by kernel_rfl) (by (try dsimp only); go_keep) (fun zH => ?_)
   have hbD : Below V.heap.size V V.drew := (Below.refl _ _).drew; refine wq 0 zH ?_; refine wq 1 zH ?_; refine wpW_all [2, 8] (by kernel_rfl) (by simp) ?_; refine AllW.cons (i := 2) rfl (fun K hK => ?_) ?_
   · skip
     go_simp
     refine (HSHV.out V.drew hbD).mono ?_; rintro e w2 ⟨hb2, pA, pc, lv, rfl, hlv, hpr, hpb⟩; rw [HPE.out] at hlv; have hpt := shf_parts hlv hpr hpb; rw [show lv.length = NP by rw [← HNP.out, ← hlv, List.length_map]]; clear hpr hpb hlv; have hbX2 : Below V.heap.size V w2 := hbD.trans (hb2.mono hbD.size); obtain ⟨y2_0, y2_1, y2_2, y2_3, y2_4, y2_5, y2_6, y2_7, y2_8⟩ := mf_keep hbX2 HMV.out HFV.out; refine hK.out _ _ (by (try dsimp only); go_keep) (fun zH => ?_); clear hK K; (try simp only [putE]); refine wpW_all [3, 8] (by kernel_rfl) (by simp) ?_
     refine AllW.cons (i := 3) rfl (fun K hK => ?_) ?_
     · skip
       go_simp
       have hpe := hpt; refine (HEMV.out w2 pA pc hbX2 hpe).mono ?_; rintro e w3 ⟨hb3, ⟨tA2, tc2, fA2, fc2, bA2, bc2, dA2, dc2, lA2, lc2⟩, eA, en, ec, ps, rfl, hown, hpl, hprs, hpk⟩; rw [HXE.out] at hown ⊢; unfold Img.val; simp only; have hbX3 : Below V.heap.size V w3 := hbX2.trans (hb3.mono hbX2.size); obtain ⟨y3_0, y3_1, y3_2, y3_3, y3_4, y3_5, y3_6, y3_7, y3_8⟩ := mf_keep hbX3 HMV.out HFV.out; refine hK.out _ _ (by (try dsimp only); go_keep) (fun zH => ?_); clear hK K; (try simp only [putE]); refine wq 4 zH ?_; refine wq 5 zH ?_
       refine wq 6 zH ?_; refine wq 7 zH ?_; refine wpW_one 8 rfl (by kernel_rfl) (fun K hK => ?_)
       go_simp
       have zb0 : Blk (w3.alloc (.cells #[.slice none 0 0, .slice none 0 0, .slice none 0 0, .slice none 0 0, .slice none 0 0, .int .i64 0] 42)) (w3.heap.size) 42 [.slice none 0 0, .slice none 0 0, .slice none 0 0, .slice none 0 0, .slice none 0 0, .int .i64 0] := Blk.new w3 _ _; have hbA : Below V.heap.size V (w3.alloc (.cells #[.slice none 0 0, .slice none 0 0, .slice none 0 0, .slice none 0 0, .slice none 0 0, .int .i64 0] 42)) := hbX3.alloc (hbX3.size) _; have hneA0 : ¬ w3.heap.size = BX := by have h1 := hbX3.size; have h2 := HMV.out.lt; omega
       have hneA1 : ¬ w3.heap.size = BX + 1 := by have h1 := hbX3.size; have h2 := HFV.out.lt; omega
       refine hK.out _ _ (by (try dsimp only); go_keep) (fun zH => ?_); clear hK K; (try simp only [putE]); refine wpW_one 9 rfl (by kernel_rfl) (fun K hK => ?_)
       go_simp
       refine hK.out _ _ (by (try dsimp only); go_keep) (fun zH => ?_); clear hK K; (try simp only [putE]); refine wq 10 zH ?_; refine wq 11 zH ?_; refine wpW_done (by kernel_rfl) ?_ _; have hev := emVar_new (v := ⟨tA2, tc2, fA2, fc2, bA2, bc2, dA2, dc2, lA2, lc2⟩) hbX3 hown hpl hprs hpk
       dsimp only at hev
       go_wp2
       go_meet
       exact ⟨_, ⟨tA2, tc2, fA2, fc2, bA2, bc2, dA2, dc2, lA2, lc2⟩, eA, en, ec, ps, rfl, rfl, rfl, hd' hev⟩
     refine AllW.cons (i := 8) rfl (fun K hK => ?_) AllW.nil
     go_simp
     have zb0 : Blk (w2.alloc (.cells #[.slice none 0 0, .slice none 0 0, .slice none 0 0, .slice none 0 0, .slice none 0 0, .int .i64 0] 42)) (w2.heap.size) 42 [.slice none 0 0, .slice none 0 0, .slice none 0 0, .slice none 0 0, .slice none 0 0, .int .i64 0] := Blk.new w2 _ _; have hbA : Below V.heap.size V (w2.alloc (.cells #[.slice none 0 0, .slice none 0 0, .slice none 0 0, .slice none 0 0, .slice none 0 0, .int .i64 0] 42)) := hbX2.alloc (hbX2.size) _; have hneA0 : ¬ w2.heap.size = BX := by have h1 := hbX2.size; have h2 := HMV.out.lt; omega
     have hneA1 : ¬ w2.heap.size = BX + 1 := by have h1 := hbX2.size; have h2 := HFV.out.lt; omega
     refine hK.out _ _ (by (try dsimp only); go_keep) (fun zH => ?_); clear hK K; (try simp only [putE]); refine wpW_one 3 rfl (by kernel_rfl) (fun K hK => ?_)
     go_simp
     have hpe : PartsRd (w2.alloc (.cells #[.slice none 0 0, .slice none 0 0, .slice none 0 0, .slice none 0 0, .slice none 0 0, .int .i64 0] 42)) pA pc P := hpt.below ((Below.refl w2.heap.size w2).alloc lr' _); refine (HEMV.out (w2.alloc (.cells #[.slice none 0 0, .slice none 0 0, .slice none 0 0, .slice none 0 0, .slice none 0 0, .int .i64 0] 42)) pA pc hbA hpe).mono ?_; rintro e w3 ⟨hb3, ⟨tA2, tc2, fA2, fc2, bA2, bc2, dA2, dc2, lA2, lc2⟩, eA, en, ec, ps, rfl, hown, hpl, hprs, hpk⟩; rw [HXE.out] at hown ⊢; unfold Img.val; simp only
     have hbX3 : Below V.heap.size V w3 := hbA.trans (hb3.mono hbA.size); obtain ⟨y3_0, y3_1, y3_2, y3_3, y3_4, y3_5, y3_6, y3_7, y3_8⟩ := mf_keep hbX3 HMV.out HFV.out; have zb4 := zb0.keep hb3; have zc3_0 := zb4.cell 0 rfl; have zf3_0 := zb4.free 0; have zc3_1 := zb4.cell 1 rfl; have zf3_1 := zb4.free 1; have zc3_2 := zb4.cell 2 rfl; have zf3_2 := zb4.free 2; have zc3_3 := zb4.cell 3 rfl; have zf3_3 := zb4.free 3; have zc3_4 := zb4.cell 4 rfl; have zf3_4 := zb4.free 4; have zc3_5 := zb4.cell 5 rfl; have zf3_5 := zb4.free 5; have zl3 := zb4.lt
     refine hK.out _ _ (by (try dsimp only); go_keep) (fun zH => ?_); clear hK K; (try simp only [putE]); refine wq 4 zH ?_; refine wq 5 zH ?_; refine wq 6 zH ?_; refine wq 7 zH ?_; refine wpW_one 9 rfl (by kernel_rfl) (fun K hK => ?_)
     go_simp
     refine hK.out _ _ (by (try dsimp only); go_keep) (fun zH => ?_); clear hK K; (try simp only [putE]); refine wq 10 zH ?_; refine wq 11 zH ?_; refine wpW_done (by kernel_rfl) ?_ _; have hev := emVar_old (v := ⟨tA2, tc2, fA2, fc2, bA2, bc2, dA2, dc2, lA2, lc2⟩) zb4 hbX3 hbX2.size zb0.lt hown hpl hprs hpk
     dsimp only at hev
     go_wp2
     go_meet
     exact ⟨_, ⟨tA2, tc2, fA2, fc2, bA2, bc2, dA2, dc2, lA2, lc2⟩, eA, en, ec, ps, rfl, rfl, rfl, hd' hev⟩
   refine AllW.cons (i := 8) rfl (fun K hK => ?_) AllW.nil
   go_simp
   have zb0 : Blk (V.alloc (.cells #[.slice none 0 0, .slice none 0 0, .slice none 0 0, .slice none 0 0, .slice none 0 0, .int .i64 0] 42)).drew (V.heap.size) 42 [.slice none 0 0, .slice none 0 0, .slice none 0 0, .slice none 0 0, .slice none 0 0, .int .i64 0] := Blk.drew (Blk.new V _ _); have hbA : Below V.heap.size V (V.alloc (.cells #[.slice none 0 0, .slice none 0 0, .slice none 0 0, .slice none 0 0, .slice none 0 0, .int .i64 0] 42)).drew := ((Below.refl _ _).alloc lr' _).drew
   have hneA0 : ¬ V.heap.size = BX := by have h1 := hbD.size; have h2 := HMV.out.lt; omega
   have hneA1 : ¬ V.heap.size = BX + 1 := by have h1 := hbD.size; have h2 := HFV.out.lt; omega
   refine hK.out _ _ (by (try dsimp only); go_keep) (fun zH => ?_); clear hK K; (try simp only [putE]); refine wpW_one 2 rfl (by kernel_rfl) (fun K hK => ?_)
   go_simp
   refine (HSHV.out (V.alloc (.cells #[.slice none 0 0, .slice none 0 0, .slice none 0 0, .slice none 0 0, .slice none 0 0, .int .i64 0] 42)).drew hbA).mono ?_; rintro e w2 ⟨hb2, pA, pc, lv, rfl, hlv, hpr, hpb⟩; rw [HPE.out] at hlv; have hpt := shf_parts hlv hpr hpb; rw [show lv.length = NP by rw [← HNP.out, ← hlv, List.length_map]]; clear hpr hpb hlv; have hbX2 : Below V.heap.size V w2 := hbA.trans (hb2.mono hbA.size); obtain ⟨y2_0, y2_1, y2_2, y2_3, y2_4, y2_5, y2_6, y2_7, y2_8⟩ := mf_keep hbX2 HMV.out HFV.out; have zb3 := zb0.keep hb2; have zc2_0 := zb3.cell 0 rfl
   have zf2_0 := zb3.free 0; have zc2_1 := zb3.cell 1 rfl; have zf2_1 := zb3.free 1; have zc2_2 := zb3.cell 2 rfl; have zf2_2 := zb3.free 2; have zc2_3 := zb3.cell 3 rfl; have zf2_3 := zb3.free 3; have zc2_4 := zb3.cell 4 rfl; have zf2_4 := zb3.free 4; have zc2_5 := zb3.cell 5 rfl; have zf2_5 := zb3.free 5; have zl2 := zb3.lt; refine hK.out _ _ (by (try dsimp only); go_keep) (fun zH => ?_); clear hK K; (try simp only [putE]); refine wpW_one 3 rfl (by kernel_rfl) (fun K hK => ?_)
   go_simp
   have hpe := hpt; refine (HEMV.out w2 pA pc hbX2 hpe).mono ?_; rintro e w3 ⟨hb3, ⟨tA2, tc2, fA2, fc2, bA2, bc2, dA2, dc2, lA2, lc2⟩, eA, en, ec, ps, rfl, hown, hpl, hprs, hpk⟩; rw [HXE.out] at hown ⊢; unfold Img.val; simp only; have hbX3 : Below V.heap.size V w3 := hbX2.trans (hb3.mono hbX2.size); obtain ⟨y3_0, y3_1, y3_2, y3_3, y3_4, y3_5, y3_6, y3_7, y3_8⟩ := mf_keep hbX3 HMV.out HFV.out; have zb4 := zb3.keep hb3; have zc3_0 := zb4.cell 0 rfl; have zf3_0 := zb4.free 0; have zc3_1 := zb4.cell 1 rfl; have zf3_1 := zb4.free 1; have zc3_2 := zb4.cell 2 rfl; have zf3_2 := zb4.free 2
   have zc3_3 := zb4.cell 3 rfl; have zf3_3 := zb4.free 3; have zc3_4 := zb4.cell 4 rfl; have zf3_4 := zb4.free 4; have zc3_5 := zb4.cell 5 rfl; have zf3_5 := zb4.free 5; have zl3 := zb4.lt; refine hK.out _ _ (by (try dsimp only); go_keep) (fun zH => ?_); clear hK K; (try simp only [putE]); refine wq 4 zH ?_; refine wq 5 zH ?_; refine wq 6 zH ?_; refine wq 7 zH ?_; refine wpW_one 9 rfl (by kernel_rfl) (fun K hK => ?_)
   go_simp
   refine hK.out _ _ (by (try dsimp only); go_keep) (fun zH => ?_); clear hK K; (try simp only [putE]); refine wq 10 zH ?_; refine wq 11 zH ?_; refine wpW_done (by kernel_rfl) ?_ _; have hev := emVar_old (v := ⟨tA2, tc2, fA2, fc2, bA2, bc2, dA2, dc2, lA2, lc2⟩) zb4 hbX3 lr' zb3.lt hown hpl hprs hpk
   dsimp only at hev
   go_wp2
   go_meet
   exact ⟨_, ⟨tA2, tc2, fA2, fc2, bA2, bc2, dA2, dc2, lA2, lc2⟩, eA, en, ec, ps, rfl, rfl, rfl, hd' hev⟩
  case rest =>
   obtain ⟨z, v2, eA, en, ec, ps, rfl, rfl, rfl, HEV⟩ := hcut
   rename World => wz
   have HBE := hd' (HB1.out.trans ((HWV.out.trans (HEV.out.bel.mono HWV.out.size)).mono HB1.out.size))
   go_wp2_with fail
   go_ret
   exact ⟨by simp, HBE.out⟩
set_option maxRecDepth 100000 in
theorem emitBad_contract (H : Type) (enc : TypeId × Value → H) (W : World) (base : Nat) (args : Array Value) (ds gs : List (DataW H)) (before : List MemPlace)
 (hval : ∀ (j : Nat) t v, Tryd.f5.params[j]? = some t → args[j]? = some v → Value.okWide Tryd.prog W .any base t v)
 (hW : DataW.Whole enc Tryd.prog Tryd.f5.params.toList Rows.emitBadSpec.vars false W args.toList ds gs before) (hL : laidMetH Tryd.prog Rows.emitBadRow.laid W)
 (hz : (DataW.weightsEach Tryd.prog (Tryd.f5.params.toList ++ (OpenSpec.ofChange Rows.emitBadSpec).bare.plain.varTypes Tryd.prog) (ds ++ gs)).all (· ≤ reachBytes) = true) :
 Calls Tryd.prog 5 args W fun e W' => ∃ v, e = .returned v ∧ Rows.emitBadSpec.post enc Tryd.prog Tryd.f5 false true false false W args v W' := by
 have hT : Tabs W := tabs_of_laid5 hL; have hW0 := hW; obtain ⟨p, q, hA0, hV, rfl, hfz, hnd⟩ := hW; have hA : DataW.TrodAll enc Tryd.prog W 0 (fun _ => true) true Tryd.f5.params.toList args.toList ds p := hA0; rw [Tryd.params5] at hA hval; obtain ⟨v0, vs0, d0, ds0, p0, q0, hargs, rfl, rfl, h0, r0⟩ := trodAll_cons hA; obtain ⟨v1, vs1, d1, ds1, p1, q1, rfl, rfl, rfl, h1, r1⟩ := trodAll_cons r0; obtain ⟨rfl, rfl, rfl⟩ := trodAll_nil r1; obtain rfl : args = #[v0, v1] := by cases args; simp_all
 obtain ⟨rfl, rfl⟩ := trodVars_none hV; clear hA0; obtain ⟨A, cap, L, rfl, hcap, hcm, hR, hd⟩ := open_raws (hval 0 22 v0 rfl rfl) h0; obtain ⟨n, rfl, rfl, rfl, wn⟩ := open_int Tryd.underlying3 (hval 1 3 v1 rfl rfl) h1
 have hL : L.length ≤ 140737488355328 := by
  rcases hd with ⟨-, rfl, -⟩ | ⟨elems, spare, rfl, hl⟩
  · exact Nat.zero_le _
  · have h1 := sized_slice hz (j := 0) (t := 22) (by rw [Tryd.params5]; rfl) rfl Tryd.underlying22; have h2 : Tryd.prog.bytesOf 26 = 32 := by kernel_rfl
    have h3 := reachBytes_lt; rw [h2, hl] at h1; omega
 refine (emitBad_walk L A cap n (i64_of_wf wn) W hT hR hL hcap).mono fun e W' ⟨he, hb⟩ => ?_
 subst he; exact ⟨_, rfl, law_post hW0 rfl rfl (by kernel_rfl) (by kernel_rfl) hb⟩
set_option maxRecDepth 100000 in
theorem emitBad_met (os : Os) : laidMet Tryd.prog Rows.emitBadRow.laid ((laidWorld5 os).forCall (fun _ _ => 0) ⟨#[], #[.slice none 0 0, .int .i64 0], []⟩).memory :=
 laidMet_of_run' 8 (by kernel_rfl) (by kernel_rfl)
set_option maxRecDepth 100000 in
theorem emitBad_reads (os : Os) {H : Type} (enc : TypeId × Value → H) : ∃ places, DataW.whole enc Tryd.prog ((laidWorld5 os).forCall (fun _ _ => 0) ⟨#[], #[.slice none 0 0, .int .i64 0], []⟩).memory Tryd.f5.params.toList Rows.emitBadSpec.vars false (#[.slice none 0 0, .int .i64 0] : Array Value).toList 8 = some ([.nil, .lit (.int .i64 0)], [], places) :=
 ⟨[], by kernel_rfl⟩
set_option maxRecDepth 100000 in
theorem emitBad_lifted (os : Os) (started : os.Started) (H : Type) (enc : TypeId × Value → H) (F : Stop.Interp) :
 ReturnsInHanded {} Tryd.checked os 5 .any ((OpenSpec.ofChange Rows.emitBadSpec).preRow enc Tryd.prog Tryd.f5 Rows.emitBadRow.domain false Rows.emitBadRow.laid) (((OpenSpec.ofChange Rows.emitBadSpec).at F).post enc Tryd.prog Tryd.f5 false true false false) := by
 obtain ⟨places, hx⟩ := emitBad_reads os enc
 refine returnsInHanded_of_row (C := Tryd.checked) (s := OpenSpec.ofChange Rows.emitBadSpec) ownP started (by kernel_rfl) Tryd.func5
  (witness_row_at (enc := enc) (C := Tryd.checked) false (laidWorld5 os) #[.slice none 0 0, .int .i64 0] rfl (by kernel_rfl) (by kernel_rfl) (by kernel_rfl)
   (OpenSpec.preRow_of_cond 8 hx (by kernel_rfl) (fun k hk => by cases hk) (by kernel_rfl) (emitBad_met os))) ?_
 intro W base args ds gs before hval hW _ _ hreach hL _ _; exact emitBad_contract H enc W base args ds gs before hval hW hL hreach
set_option maxRecDepth 100000 in
theorem emitBad_said : Rows.EmitBadSaid :=
 OpenClaim.holds_of_cond 5 Tryd.f5 rfl rfl rfl rfl rfl rfl rfl ⟨rfl, rfl, rfl, rfl, rfl⟩ rfl rfl rfl rfl rfl (by kernel_rfl) Tryd.func5 (by kernel_rfl)
  (of_decide_eq_true (by kernel_rfl)) (by unfold Func.isWrapper; first | (rw [if_pos (by decide +kernel)]; kernel_rfl) | (rw [if_neg (by decide +kernel)]; exact ⟨rfl, rfl⟩))
  (fun os started H enc _ F => by rw [OpenClaim.pre_eq_preRow]; exact emitBad_lifted os started H enc F)
set_option maxRecDepth 100000 in
theorem emitBad_plain (f : FuncId) (fn : Func) (hf : Tryd.pinned.checked.prog.funcNamed "bolthole/boltholekeep.EmitBad" = some f) (hfn : Tryd.pinned.checked.prog.funcs[f]? = some fn) :
 ∀ (j : Nat) t, fn.params[j]? = some t → Tryd.pinned.checked.prog.wantsStandIn t = false := by
 obtain rfl : f = 5 := Option.some.inj ((show Tryd.prog.funcNamed "bolthole/boltholekeep.EmitBad" = some 5 by kernel_rfl).symm.trans hf) |>.symm; obtain rfl : fn = Tryd.f5 := (Option.some.inj (Tryd.func5.symm.trans hfn)).symm; intro j t ht
 have hall : ∀ t ∈ Tryd.f5.params, Tryd.prog.wantsStandIn t = false := by
  rw [Tryd.params5]; intro t ht; simp only [List.mem_toArray, List.mem_cons, List.not_mem_nil, or_false] at ht; rcases ht with rfl | rfl
  all_goals kernel_rfl
 exact hall t (Array.mem_of_getElem? ht)
set_option maxRecDepth 100000 in
theorem emitBad_card : Rows.EmitBadCardSaid :=
 Claim7.holds_tied_plain_at .later [] _ _ _ _ emitBad_said (fun _ h => by cases h) (by kernel_rfl) (fun _ h => by cases h) emitBad_row_tie rfl ⟨rfl, rfl⟩ (by kernel_rfl) rfl (fun f fn hf hfn => ⟨by kernel_rfl, emitBad_plain f fn hf hfn⟩) (by kernel_rfl)
end Go.Proofs.YtcafhoobeggmeaaDoor
