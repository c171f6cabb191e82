/- flow.branch, flow.stops, flow.sweep, walked. -/
import Derived.Test.YtokbgdlenbhklaaDoorFlowP
import Derived.Test.YtokbgdlenbhklaaDoorPgmA
import Derived.Deep.LoopGhost
import Derived.Deep.DeepCutAuto
import Derived.Deep.CutBlock
import Derived.IntWalk
import Derived.WalkLawsBesides
namespace Go.Proofs.YtokbgdlenbhklaaDoor
open Go.RowKit
set_option maxRecDepth 100000 in
theorem stops_any (k d a b n : Int) (l : Bool) (w : World) : Calls Tryd.prog 83 #[.agg #[.int .i64 k, .int .i64 d, .int .i64 a, .int .i64 b, .int .i64 n, .bool l]] w fun e w' => e = .returned (.bool (stopsI ⟨k, d, a, b, n, l⟩)) ∧ Below w.heap.size w w' := by
 by_cases h3 : k ≤ 3
 · have e : stopsI ⟨k, d, a, b, n, l⟩ = true := by simp [stopsI, h3]
   rw [e]; have q1 : decide (k ≤ 3) = true := by simpa using h3
   go_enter Tryd.func83, Tryd.ntmps83
   go_wp2
   go_ret
   exact ⟨rfl, (Below.refl _ _).alloc (Nat.le_refl _) _⟩
 · have q1 : decide (k ≤ 3) = false := by simpa using h3
   have e : stopsI ⟨k, d, a, b, n, l⟩ = (k == 24) := by simp [stopsI, h3]
   rw [e]
   go_enter Tryd.func83, Tryd.ntmps83
   go_wp2
   go_ret
   exact ⟨rfl, (Below.refl _ _).alloc (Nat.le_refl _) _⟩
set_option maxRecDepth 100000 in
theorem branch_any (k d a b n : Int) (l : Bool) (w : World) : Calls Tryd.prog 84 #[.agg #[.int .i64 k, .int .i64 d, .int .i64 a, .int .i64 b, .int .i64 n, .bool l]] w fun e w' => e = .returned (.bool (branchI ⟨k, d, a, b, n, l⟩)) ∧ Below w.heap.size w w' := by
 by_cases h3 : 18 ≤ k
 · have e : branchI ⟨k, d, a, b, n, l⟩ = decide (k ≤ 21) := by simp [branchI, h3]
   rw [e]; have q1 : decide (18 ≤ k) = true := by simpa using h3
   go_enter Tryd.func84, Tryd.ntmps84
   go_wp2
   go_ret
   exact ⟨rfl, (Below.refl _ _).alloc (Nat.le_refl _) _⟩
 · have q1 : decide (18 ≤ k) = false := by simpa using h3
   have e : branchI ⟨k, d, a, b, n, l⟩ = false := by simp [branchI, h3]
   rw [e]
   go_enter Tryd.func84, Tryd.ntmps84
   go_wp2
   go_ret
   exact ⟨rfl, (Below.refl _ _).alloc (Nat.le_refl _) _⟩
theorem infoSp : (Tryd.prog.info? 131).map (fun i => (i.zero, i.size, i.bytes)) = some (some (.agg #[.int .i64 0, .int .i64 0, .int .i64 0, .int .i64 0, .int .i64 0, .int .i64 0, .int .i64 0, .bool false]), 8, 64) := by kernel_rfl
def SweepPost (w : World) (R : Option (List Sp)) (e : Ending) (w' : World) : Prop :=
 Below w.heap.size w w' ∧ (R = none → e = .returned (.tuple #[.slice none 0 0, .int .i64 9])) ∧ ∀ l, R = some l → ∃ A c, e = .returned (.tuple #[.slice A l.length c, .int .i64 0]) ∧ w'.ownsRow w.heap.size 131 8 (.slice A l.length c) l.length (spsV l)
set_option maxHeartbeats 4000000 in
set_option maxRecDepth 100000 in
theorem sweep_any (m : Img) (v : ImgV) (f : FnD) (w : World) (hT : Tabs w) (hI : ImgRd w w.heap.size m v) (hO : ImgOk m v) (h0 : 0 ≤ f.start) (h1 : 1 ≤ f.size) (h2 : f.start + f.size ≤ m.text.length) (h8 : m.text.length ≤ 8000) :
 Calls Tryd.prog 50 #[.agg (m.val v), .agg #[.string f.name, .int .i64 f.start, .int .i64 f.size]] w (SweepPost w (sweepL m.text f)) := by
 obtain ⟨R, hR⟩ : ∃ z, sweepL m.text f = z := ⟨_, rfl⟩
 rw [hR]; unfold sweepL at hR; obtain ⟨G, hG⟩ : ∃ z, sweepGo m.text (f.start + f.size) f.size.toNat f.start = z := ⟨_, rfl⟩
 rw [hG] at hR; obtain ⟨en, hen⟩ : ∃ z, f.start + f.size = z := ⟨_, rfl⟩
 rw [hen] at h2 hG; obtain ⟨name, st, sz⟩ := f; simp only at *; obtain ⟨tA, tc, fA, fc, bA, bc, dA, dc, lA, lc⟩ := v; have HI := Lib.hid hI; have HO := Lib.hid hO; have HT := Lib.hid hT; have HR := Lib.hid hR; have htc := hO.tc
 have HG : Hid ((sweepGo m.text en (en - st).toNat st).map (([] : List Sp) ++ ·) = G) := Lib.hid (by
  rw [show (en - st).toNat = sz.toNat by omega, hG]
  cases G <;> rfl)
 obtain ⟨T, hTe⟩ : ∃ z, m.text.length = z := ⟨_, rfl⟩
 unfold Img.val; simp only; rw [hTe] at h2 h8 ⊢; simp only at htc; rw [hTe] at htc; have HTE := Lib.hid hTe; have hen2 : st + sz = en := hen; have hsten : st ≤ en := by omega
 have hsb : st + sz ≤ 8000 := by omega
 have hsb0 : 0 ≤ st + sz := by omega
 have HEN := Lib.hid hen2; clear hI hO hT hR hG hTe hen hen2
 go_enter Tryd.func50, Tryd.ntmps50
 go_wp2
 rw [HEN.out]; clear hsb hsb0; obtain ⟨W0, hW0⟩ : ∃ W0, (w.alloc (.cells #[.slice tA T tc, .slice fA m.funcs.length fc, .slice bA m.tables.length bc, .slice dA m.data.length dc, .slice lA m.lines.length lc, .int .i64 m.entry] 41)).alloc (.cells #[.string name, .int .i64 st, .int .i64 sz] 73) = W0 := ⟨_, rfl⟩
 rw [hW0]; have hx0 : Blk W0 w.heap.size 41 [.slice tA T tc, .slice fA m.funcs.length fc, .slice bA m.tables.length bc, .slice dA m.data.length dc, .slice lA m.lines.length lc, .int .i64 m.entry] := by rw [← hW0]; exact (Blk.new w _ _).alloc _
 have hB0 : Below w.heap.size w W0 := by rw [← hW0]; exact ((Below.refl _ _).alloc (Nat.le_refl _) _).alloc (by simp) _
 have HX0 := Lib.hid hx0; have HB0 := Lib.hid hB0; have hz0 := hx0.lt; clear hW0 hx0 hB0
 go_loopg [6, 8] (en - st).toNat (fun gk s6 s8 wr => ∃ (p : Int) (acc : List Sp) (n : Nat) (A : Option Addr) (c : Nat), s8 = .int .i64 p ∧ s6 = .slice A n c ∧ st ≤ p ∧ p ≤ en ∧ (n : Int) ≤ p - st ∧ Hid (acc.length = n) ∧ Hid (wr.ownsRow W0.heap.size 131 8 (.slice A n c) n (spsV acc)) ∧ Hid (Below W0.heap.size W0 wr) ∧ Hid ((sweepGo m.text en (en - p).toNat p).map (acc ++ ·) = G) ∧ Hid (n = 0 → p = st) ∧ (en - p).toNat ≤ gk)
 case atStart => exact ⟨st, [], 0, none, 0, rfl, rfl, Int.le_refl _, by omega, by simp, Lib.hid rfl, ⟨rfl, .inl ⟨rfl, rfl⟩⟩, Below.refl _ _, HG.out, Lib.hid (fun _ => rfl), Nat.le_refl _⟩
 case round =>
  obtain ⟨p, acc, n, A, c, rfl, rfl, hp1, hp2, hnp, HAL, HOW, HBW, HGO, HN0, hgk⟩ := hrel; have hs := HBW.out.size; have hbx := HX0.out.keep HBW.out; have x0 := hbx.cell 0 rfl; have xl := hbx.lt; have HWw : Hid (Below w.heap.size w wr) := Lib.hid (HB0.out.trans (HBW.out.mono HB0.out.size))
  by_cases hlt : p < en
  · obtain ⟨⟨⟨ik, id, ia, ib, iN, il⟩, z, er⟩, hde⟩ : ∃ z, decB m.text p = z := ⟨_, rfl⟩
    have hdc := decode_any m.text tA T tc p wr (HT.out.below HWw.out) HTE.out.symm (rdg_bytes ((HI.out.text.below HWw.out).more HWw.out.size) HO.out.tb) (by omega) htc; rw [hde] at hdc; have HDC := Lib.hid hdc; have hgo := HGO.out; rw [show (en - p).toNat = (en - (p + 1)).toNat + 1 by omega] at hgo; simp only [sweepGo] at hgo; rw [if_pos hlt, hde] at hgo; simp only at hgo
    by_cases her : er = 0
    · subst her; have hok := decB_ok (show (decB m.text p).2.2 = 0 by rw [hde]); have hsz := decB_sz (show (decB m.text p).2.2 = 0 by rw [hde]); rw [hde] at hok hsz; simp only at hok hsz; obtain ⟨z1, z2⟩ := hsz
      by_cases hov : en < p + z
      · rw [if_pos (.inr hov)] at hgo
        have HRN : Hid (R = none) := Lib.hid (by
         have h := HR.out; rw [← hgo] at h
         exact h.symm)
        clear hdc hde hgo hok hbx HGO; unfold decV Ins.cells at HDC; simp only at HDC
        go_wp2_with fail
        refine HDC.out.mono ?_; rintro e w2 ⟨rfl, hb2⟩; have HB2 := Lib.hid (HWw.out.trans (hb2.mono HWw.out.size)); have hs2 := HB2.out.size; clear hb2
        go_wp2
        go_ret2
        exact ⟨HB2.out.alloc HB2.out.size _, fun _ => rfl, fun l hl => by rw [HRN.out] at hl; cases hl⟩
      · rw [if_neg (by omega)] at hgo
        have HGN : Hid ((sweepGo m.text en (en - (p + z)).toNat (p + z)).map ((acc ++ [⟨p, z, ⟨ik, id, ia, ib, iN, il⟩⟩]) ++ ·) = G) := Lib.hid (by
         rw [← hgo]; rw [sweepGo_fuel m.text en (p + z) (en - (p + 1)).toNat (by omega), Option.map_map]
         congr 1
         funext r
         simp)
        clear hdc hde hgo hok hbx HGO; unfold decV Ins.cells at HDC; simp only at HDC
        go_wp2_with fail
        refine HDC.out.mono ?_; rintro e w2 ⟨rfl, hb2⟩; have HO2 : Hid (w2.ownsRow W0.heap.size 131 8 (.slice A n c) n (spsV acc)) := Lib.hid (own_keep HOW.out hb2); have HB2 := Lib.hid (HBW.out.trans (hb2.mono HBW.out.size)); have hs2 := HB2.out.size; clear hb2
        go_wp2_with (first | (refine app_one rfl _ _ 127 131 8 64 _ Tryd.underlying127 infoSp rfl (by decide) rfl W0.heap.size _ n _ rfl (World.ownsRow.alloc (World.ownsRow.alloc HO2.out _) _) (w2.heap.size + 1) 1 rfl [.int .i64 p, .int .i64 z, .int .i64 ik, .int .i64 id, .int .i64 ia, .int .i64 ib, .int .i64 iN, .bool il] 131 (0, 0) (heap_alloc2_new w2 _ _) rfl (by simp [Value.oneCell']) (by omega) (by omega) (by simp; omega) (w2.heap.size + 1 + 1) (by simp) ?a1))
        case a1 =>
         intro g3 c3 w3 ho3 hgr3 hat3 hlt3; have hb3 : Below W0.heap.size w2 w3 := ((((Below.refl w2.heap.size w2).alloc (Nat.le_refl _) _).alloc (by simp) _).mono hs2).trans (gb_below_of hgr3 (fun q hq => (World.ownsRow.lt HO2.out q hq).1) (by simp; omega)); have HO3 := Lib.hid ho3; have HB3 := Lib.hid (HB2.out.trans hb3); clear ho3 hgr3 hat3 hb3
         go_wp2
         go_roundg (en - (p + z)).toNat
         case measure => omega
         case rel =>
          refine ⟨p + z, acc ++ [⟨p, z, ⟨ik, id, ia, ib, iN, il⟩⟩], n + 1, some ⟨g3, 0, none⟩, c3, rfl, rfl, by omega, by omega, by omega, Lib.hid (by rw [List.length_append, HAL.out]; rfl), Lib.hid ?_, HB3, HGN, Lib.hid (fun h => by omega), Nat.le_refl _⟩; rw [spsV_snoc]; exact HO3.out
    · have q1 : (er != 0) = true := by simpa using her
      rw [if_pos (.inl her)] at hgo
      have HRN : Hid (R = none) := Lib.hid (by
       have h := HR.out; rw [← hgo] at h
       exact h.symm)
      clear hdc hde hgo hbx HGO her; unfold decV Ins.cells at HDC; simp only at HDC
      go_wp2_with fail
      refine HDC.out.mono ?_; rintro e w2 ⟨rfl, hb2⟩; have HB2 := Lib.hid (HWw.out.trans (hb2.mono HWw.out.size)); have hs2 := HB2.out.size; clear hb2
      go_wp2
      go_ret2
      exact ⟨HB2.out.alloc HB2.out.size _, fun _ => rfl, fun l hl => by rw [HRN.out] at hl; cases hl⟩
  · have hgo := HGO.out; rw [sweepGo_end _ _ _ _ (by omega)] at hgo; simp only [Option.map_some, List.append_nil] at hgo; have hr := HR.out; rw [← hgo] at hr; simp only at hr; have hn0 : n ≠ 0 := fun e => by have := HN0.out e; have := HEN.out; omega
    obtain ⟨k, rfl⟩ : ∃ k, n = k + 1 := ⟨n - 1, by omega⟩
    have hsk : acc[k]? = some (acc[k]'(by rw [HAL.out]; omega)) := List.getElem?_eq_getElem _; obtain ⟨⟨sp, sz', ⟨ik, id, ia, ib, iN, il⟩⟩, hse⟩ : ∃ y, acc[k]'(by rw [HAL.out]; omega) = y := ⟨_, rfl⟩
    rw [hse] at hsk
    have hlast : acc.getLast? = some ⟨sp, sz', ⟨ik, id, ia, ib, iN, il⟩⟩ := by
     rw [List.getLast?_eq_getElem?, HAL.out]; exact hsk
    unfold lastOk at hr; rw [hlast] at hr; simp only at hr; obtain ⟨g, rfl⟩ := own_ptr HOW.out (by omega); obtain ⟨o1, o2, o3, o4⟩ := own_at HOW.out; have d2 := o4 _ _ (spsV_at hsk 2 _ rfl); have d3 := o4 _ _ (spsV_at hsk 3 _ rfl); have d4 := o4 _ _ (spsV_at hsk 4 _ rfl); have d5 := o4 _ _ (spsV_at hsk 5 _ rfl); have d6 := o4 _ _ (spsV_at hsk 6 _ rfl); have d7 := o4 _ _ (spsV_at hsk 7 _ rfl); have hk1 : ((k + 1 : Nat) : Int) - 1 = (k : Int) := by omega
    have hkI : (k : Int) < ((k + 1 : Nat) : Int) := by omega
    have HEND : Hid (∀ e w', (lastOk acc = false → e = .returned (.tuple #[.slice none 0 0, .int .i64 9])) → (lastOk acc = true → e = .returned (.tuple #[.slice (some ⟨g, 0, none⟩) (k + 1) c, .int .i64 0])) → Below wr.heap.size wr w' → SweepPost w R e w') := Lib.hid fun e w' h1 h2 hb => by
     have hb0 := HWw.out.trans (hb.mono HWw.out.size); have hrr := HR.out; rw [← hgo] at hrr; simp only at hrr
     by_cases hl : lastOk acc = true
     · rw [if_pos hl] at hrr; refine ⟨hb0, fun h => (by rw [← hrr] at h; cases h), fun l hl2 => ?_⟩; rw [← hrr] at hl2; simp only [Option.some.injEq] at hl2; subst hl2; refine ⟨some ⟨g, 0, none⟩, c, ?_, ?_⟩
       · rw [HAL.out]; exact h2 hl
       · rw [HAL.out]; exact own_more (own_keep HOW.out hb) HB0.out.size
     · rw [if_neg hl] at hrr; exact ⟨hb0, fun _ => h1 (by simpa using hl), fun l hl2 => by rw [← hrr] at hl2; cases hl2⟩
    have HLA : Hid (lastOk acc = (stopsI ⟨ik, id, ia, ib, iN, il⟩ || ik == 22)) := Lib.hid (by unfold lastOk; rw [hlast]); clear hr hgo hse hsk hlast hbx HR
    by_cases hst : stopsI ⟨ik, id, ia, ib, iN, il⟩ = true
    · have HS : Hid (∀ W, Calls Tryd.prog 83 #[.agg #[.int .i64 ik, .int .i64 id, .int .i64 ia, .int .i64 ib, .int .i64 iN, .bool il]] W fun e w' => e = .returned (.bool true) ∧ Below W.heap.size W w') := Lib.hid fun W => by rw [← hst]; exact stops_any _ _ _ _ _ _ W
      have HLT : Hid (lastOk acc = true) := Lib.hid (by rw [HLA.out, hst]; rfl); clear hst
      go_wp2_with fail
      refine (HS.out _).mono ?_; rintro e w2 ⟨rfl, hb2⟩; have HB2 : Hid (Below wr.heap.size wr w2) := Lib.hid (((Below.refl wr.heap.size wr).alloc (Nat.le_refl _) _).trans (hb2.mono (by simp))); clear hb2
      go_wp2
      go_ret2
      exact HEND.out _ _ (fun h => by rw [HLT.out] at h; cases h) (fun _ => rfl) HB2.out
    · have hst2 : stopsI ⟨ik, id, ia, ib, iN, il⟩ = false := by simpa using hst
      have HS : Hid (∀ W, Calls Tryd.prog 83 #[.agg #[.int .i64 ik, .int .i64 id, .int .i64 ia, .int .i64 ib, .int .i64 iN, .bool il]] W fun e w' => e = .returned (.bool false) ∧ Below W.heap.size W w') := Lib.hid fun W => by rw [← hst2]; exact stops_any _ _ _ _ _ _ W
      have HLT : Hid (lastOk acc = (ik == 22)) := Lib.hid (by rw [HLA.out, hst2]; rfl); clear hst hst2
      go_wp2_with fail
      refine (HS.out _).mono ?_; rintro e w2 ⟨rfl, hb2⟩; have hy := (hb2.block wr.heap.size (by simp)).trans (heap_alloc_new wr _); have y0 := cell_of_row _ _ 0 _ _ _ hy; simp only [List.getElem?_toArray, List.getElem?_cons_zero] at y0; have HB2 : Hid (Below wr.heap.size wr w2) := Lib.hid (((Below.refl wr.heap.size wr).alloc (Nat.le_refl _) _).trans (hb2.mono (by simp))); clear hb2 hy
      by_cases hk22 : ik = 22
      · have q1 : (ik != 22) = false := by simp [hk22]
        have HK := Lib.hid hk22; clear hk22
        go_wp2
        go_ret2
        exact HEND.out _ _ (fun h => by rw [HLT.out, HK.out] at h; cases h) (fun _ => rfl) HB2.out
      · have q1 : (ik != 22) = true := by simpa using hk22
        have HK := Lib.hid hk22; clear hk22
        go_wp2
        go_ret2
        exact HEND.out _ _ (fun _ => rfl) (fun h => absurd (by rw [HLT.out] at h; simpa using h) HK.out) HB2.out
end Go.Proofs.YtokbgdlenbhklaaDoor
