/- slices.IndexFunc and ContainsFunc with the closures of mark and plain. -/
import Derived.Test.YtcafhoobeggmeaaDoorFlowP
import Derived.Test.YtcafhoobeggmeaaDoorPgmA
import Derived.Deep.LoopGhost
import Derived.Deep.DeepCutAuto
import Derived.Deep.CutBlock
import Derived.IntWalk
import Derived.WalkLawsBesides
import Derived.Test.YtcafhoobeggmeaaDoorCfA
import Derived.Test.YtcafhoobeggmeaaDoorImgC
namespace Go.Proofs.YtcafhoobeggmeaaDoor
open Go.RowKit
set_option maxRecDepth 100000 in
theorem stops_any (k d a b n : Int) (l : Bool) (w : World) : Calls Tryd.prog 78 #[.agg #[.int .i64 k, .int .i64 d, .int .i64 a, .int .i64 b, .int .i64 n, .bool l]] w fun e w' => e = .returned (.bool (stopsI ⟨k, d, a, b, n, l⟩)) ∧ Below w.heap.size w w' := by
 by_cases h3 : k ≤ 3
 · have e : stopsI ⟨k, d, a, b, n, l⟩ = true := by simp [stopsI, h3]
   rw [e]; have q1 : decide (k ≤ 3) = true := by simpa using h3
   go_enter Tryd.func78, Tryd.ntmps78
   go_wp2
   go_ret
   exact ⟨rfl, (Below.refl _ _).alloc lr' _⟩
 · have q1 : decide (k ≤ 3) = false := by simpa using h3
   have e : stopsI ⟨k, d, a, b, n, l⟩ = (k == 24) := by simp [stopsI, h3]
   rw [e]
   go_enter Tryd.func78, Tryd.ntmps78
   go_wp2
   go_ret
   exact ⟨rfl, (Below.refl _ _).alloc lr' _⟩
set_option maxRecDepth 100000 in
theorem branch_any (k d a b n : Int) (l : Bool) (w : World) : Calls Tryd.prog 79 #[.agg #[.int .i64 k, .int .i64 d, .int .i64 a, .int .i64 b, .int .i64 n, .bool l]] w fun e w' => e = .returned (.bool (branchI ⟨k, d, a, b, n, l⟩)) ∧ Below w.heap.size w w' := by
 by_cases h3 : 18 ≤ k
 · have e : branchI ⟨k, d, a, b, n, l⟩ = decide (k ≤ 21) := by simp [branchI, h3]
   rw [e]; have q1 : decide (18 ≤ k) = true := by simpa using h3
   go_enter Tryd.func79, Tryd.ntmps79
   go_wp2
   go_ret
   exact ⟨rfl, (Below.refl _ _).alloc lr' _⟩
 · have q1 : decide (18 ≤ k) = false := by simpa using h3
   have e : branchI ⟨k, d, a, b, n, l⟩ = false := by simp [branchI, h3]
   rw [e]
   go_enter Tryd.func79, Tryd.ntmps79
   go_wp2
   go_ret
   exact ⟨rfl, (Below.refl _ _).alloc lr' _⟩
theorem infoSp : (Tryd.prog.info? 128).map (fun i => (i.zero, i.size, i.bytes)) = some (some (.agg #[.int .i64 0, .int .i64 0, .int .i64 0, .int .i64 0, .int .i64 0, .int .i64 0, .int .i64 0, .bool false]), 8, 64) := by kernel_rfl
def SweepPost (w : World) (R : Option (List Sp)) (e : Ending) (w' : World) : Prop :=
 Below w.heap.size w w' ∧ (R = none → e = .returned (.tuple #[.slice none 0 0, .int .i64 9])) ∧ ∀ l, R = some l → ∃ A c, e = .returned (.tuple #[.slice A l.length c, .int .i64 0]) ∧ w'.ownsRow w.heap.size 128 8 (.slice A l.length c) l.length (spsV l)
set_option maxHeartbeats 4000000 in
set_option maxRecDepth 100000 in
theorem sweep_any (m : Img) (v : ImgV) (f : FnD) (w : World) (hT : Tabs w) (hI : ImgRd w w.heap.size m v) (hO : ImgOk m v) (h0 : 0 ≤ f.start) (h1 : 1 ≤ f.size) (h2 : f.start + f.size ≤ m.text.length) (h8 : m.text.length ≤ 8000) :
 Calls Tryd.prog 45 #[.agg (m.val v), .agg #[.string f.name, .int .i64 f.start, .int .i64 f.size]] w (SweepPost w (sweepL m.text f)) := by
 obtain ⟨R, hR⟩ := ex' (sweepL m.text f)
 rw [hR]; unfold sweepL at hR; obtain ⟨G, hG⟩ := ex' (sweepGo m.text (f.start + f.size) f.size.toNat f.start)
 rw [hG] at hR; obtain ⟨en, hen⟩ := ex' (f.start + f.size)
 rw [hen] at h2 hG; obtain ⟨name, st, sz⟩ := f; simp only at *; obtain ⟨tA, tc, fA, fc, bA, bc, dA, dc, lA, lc⟩ := v; have HI := hd' hI; have HO := hd' hO; have HT := hd' hT; have HR := hd' hR; have htc := hO.tc
 have HG : Hid ((sweepGo m.text en (en - st).toNat st).map (([] : List Sp) ++ ·) = G) := hd' (by
  rw [show (en - st).toNat = sz.toNat by omega, hG]
  cases G <;> rfl)
 obtain ⟨T, hTe⟩ := ex' m.text.length
 unfold Img.val; simp only; rw [hTe] at h2 h8 ⊢; simp only at htc; rw [hTe] at htc; have HTE := hd' hTe; have hen2 : st + sz = en := hen; have hsten : st ≤ en := by omega
 have hsb : st + sz ≤ 8000 := by omega
 have hsb0 : 0 ≤ st + sz := by omega
 have HEN := hd' hen2; clear hI hO hT hR hG hTe hen hen2
 go_enter Tryd.func45, Tryd.ntmps45
 go_wp2
 rw [HEN.out]; clear hsb hsb0; obtain ⟨W0, hW0⟩ := ex' ((w.alloc (.cells #[.slice tA T tc, .slice fA m.funcs.length fc, .slice bA m.tables.length bc, .slice dA m.data.length dc, .slice lA m.lines.length lc, .int .i64 m.entry] 42)).alloc (.cells #[.string name, .int .i64 st, .int .i64 sz] 72))
 rw [hW0]; have hx0 : Blk W0 w.heap.size 42 [.slice tA T tc, .slice fA m.funcs.length fc, .slice bA m.tables.length bc, .slice dA m.data.length dc, .slice lA m.lines.length lc, .int .i64 m.entry] := by rw [← hW0]; exact (Blk.new w _ _).alloc _
 have hB0 : Below w.heap.size w W0 := by rw [← hW0]; exact ((Below.refl _ _).alloc lr' _).alloc (by simp) _
 have HX0 := hd' hx0; have HB0 := hd' hB0; have hz0 := hx0.lt; clear hW0 hx0 hB0
 go_loopg [6, 8] (en - st).toNat (fun gk s6 s8 wr => ∃ (p : Int) (acc : List Sp) (n : Nat) (A : Option Addr) (c : Nat), s8 = .int .i64 p ∧ s6 = .slice A n c ∧ st ≤ p ∧ p ≤ en ∧ (n : Int) ≤ p - st ∧ Hid (acc.length = n) ∧ Hid (wr.ownsRow W0.heap.size 128 8 (.slice A n c) n (spsV acc)) ∧ Hid (Below W0.heap.size W0 wr) ∧ Hid ((sweepGo m.text en (en - p).toNat p).map (acc ++ ·) = G) ∧ Hid (n = 0 → p = st) ∧ (en - p).toNat ≤ gk)
 case atStart => exact ⟨st, [], 0, none, 0, rfl, rfl, Int.le_refl _, by omega, by simp, hd' rfl, ⟨rfl, .inl ⟨rfl, rfl⟩⟩, Below.refl _ _, HG.out, hd' (fun _ => rfl), Nat.le_refl _⟩
 case round =>
  obtain ⟨p, acc, n, A, c, rfl, rfl, hp1, hp2, hnp, HAL, HOW, HBW, HGO, HN0, hgk⟩ := hrel; have hs := HBW.out.size; have hbx := HX0.out.keep HBW.out; have x0 := hbx.cell 0 rfl; have xl := hbx.lt; have HWw : Hid (Below w.heap.size w wr) := hd' (HB0.out.trans (HBW.out.mono HB0.out.size))
  by_cases hlt : p < en
  · obtain ⟨⟨⟨ik, id, ia, ib, iN, il⟩, z, er⟩, hde⟩ := ex' (decB m.text p)
    have hdc := decode_any m.text tA T tc p wr (HT.out.below HWw.out) HTE.out.symm (rdg_bytes ((HI.out.text.below HWw.out).more HWw.out.size) HO.out.tb) (by omega) htc; rw [hde] at hdc; have HDC := hd' hdc; have hgo := HGO.out; rw [show (en - p).toNat = (en - (p + 1)).toNat + 1 by omega] at hgo; simp only [sweepGo] at hgo; rw [if_pos hlt, hde] at hgo; simp only at hgo
    by_cases her : er = 0
    · subst her; have hok := decB_ok (show (decB m.text p).2.2 = 0 by rw [hde]); have hsz := decB_sz (show (decB m.text p).2.2 = 0 by rw [hde]); rw [hde] at hok hsz; simp only at hok hsz; obtain ⟨z1, z2⟩ := hsz
      by_cases hov : en < p + z
      · rw [if_pos (.inr hov)] at hgo
        have HRN : Hid (R = none) := hd' (by
         have h := HR.out; rw [← hgo] at h
         exact h.symm)
        clear hdc hde hgo hok hbx HGO; unfold decV Ins.cells at HDC; simp only at HDC
        go_wp2_with fail
        refine HDC.out.mono ?_; rintro e w2 ⟨rfl, hb2⟩; have HB2 := hd' (HWw.out.trans (hb2.mono HWw.out.size)); have hs2 := HB2.out.size; clear hb2
        go_wp2
        go_ret2
        exact ⟨HB2.out.alloc HB2.out.size _, fun _ => rfl, fun l hl => by rw [HRN.out] at hl; cases hl⟩
      · rw [if_neg (by omega)] at hgo
        have HGN : Hid ((sweepGo m.text en (en - (p + z)).toNat (p + z)).map ((acc ++ [⟨p, z, ⟨ik, id, ia, ib, iN, il⟩⟩]) ++ ·) = G) := hd' (by
         rw [← hgo]; rw [sweepGo_fuel m.text en (p + z) (en - (p + 1)).toNat (by omega), Option.map_map]
         congr 1
         funext r
         simp)
        clear hdc hde hgo hok hbx HGO; unfold decV Ins.cells at HDC; simp only at HDC
        go_wp2_with fail
        refine HDC.out.mono ?_; rintro e w2 ⟨rfl, hb2⟩; have HO2 : Hid (w2.ownsRow W0.heap.size 128 8 (.slice A n c) n (spsV acc)) := hd' (own_keep HOW.out hb2); have HB2 := hd' (HBW.out.trans (hb2.mono HBW.out.size)); have hs2 := HB2.out.size; clear hb2
        go_wp2_with (first | (refine app_one rfl _ _ 124 128 8 64 _ Tryd.underlying124 infoSp rfl (by decide) rfl W0.heap.size _ n _ rfl (World.ownsRow.alloc (World.ownsRow.alloc HO2.out _) _) (w2.heap.size + 1) 1 rfl [.int .i64 p, .int .i64 z, .int .i64 ik, .int .i64 id, .int .i64 ia, .int .i64 ib, .int .i64 iN, .bool il] 128 (0, 0) (heap_alloc2_new w2 _ _) rfl (by simp [Value.oneCell']) (by omega) (by omega) (by simp; omega) (w2.heap.size + 1 + 1) (by simp) ?a1))
        case a1 =>
         intro g3 c3 w3 ho3 hgr3 hat3 hlt3; have hb3 : Below W0.heap.size w2 w3 := ((((Below.refl w2.heap.size w2).alloc lr' _).alloc (by simp) _).mono hs2).trans (gb_below_of hgr3 (fun q hq => (World.ownsRow.lt HO2.out q hq).1) (by simp; omega)); have HO3 := hd' ho3; have HB3 := hd' (HB2.out.trans hb3); clear ho3 hgr3 hat3 hb3
         go_wp2
         go_roundg (en - (p + z)).toNat
         case measure => omega
         case rel =>
          refine ⟨p + z, acc ++ [⟨p, z, ⟨ik, id, ia, ib, iN, il⟩⟩], n + 1, some ⟨g3, 0, none⟩, c3, rfl, rfl, by omega, by omega, by omega, hd' (by rw [List.length_append, HAL.out]; rfl), hd' ?_, HB3, HGN, hd' (fun h => by omega), Nat.le_refl _⟩; rw [spsV_snoc]; exact HO3.out
    · have q1 : (er != 0) = true := by simpa using her
      rw [if_pos (.inl her)] at hgo
      have HRN : Hid (R = none) := hd' (by
       have h := HR.out; rw [← hgo] at h
       exact h.symm)
      clear hdc hde hgo hbx HGO her; unfold decV Ins.cells at HDC; simp only at HDC
      go_wp2_with fail
      refine HDC.out.mono ?_; rintro e w2 ⟨rfl, hb2⟩; have HB2 := hd' (HWw.out.trans (hb2.mono HWw.out.size)); have hs2 := HB2.out.size; clear hb2
      go_wp2
      go_ret2
      exact ⟨HB2.out.alloc HB2.out.size _, fun _ => rfl, fun l hl => by rw [HRN.out] at hl; cases hl⟩
  · have hgo := HGO.out; rw [sweepGo_end _ _ _ _ (by omega)] at hgo; simp only [Option.map_some, List.append_nil] at hgo; have hr := HR.out; rw [← hgo] at hr; simp only at hr; have hn0 : n ≠ 0 := fun e => by have := HN0.out e; have := HEN.out; omega
    obtain ⟨k, rfl⟩ : ∃ k, n = k + 1 := ⟨n - 1, by omega⟩
    have hsk : acc[k]? = some (acc[k]'(by rw [HAL.out]; omega)) := gE' _; obtain ⟨⟨sp, sz', ⟨ik, id, ia, ib, iN, il⟩⟩, hse⟩ := ex' (acc[k]'(by rw [HAL.out]; omega))
    rw [hse] at hsk
    have hlast : acc.getLast? = some ⟨sp, sz', ⟨ik, id, ia, ib, iN, il⟩⟩ := by
     rw [List.getLast?_eq_getElem?, HAL.out]; exact hsk
    unfold lastOk at hr; rw [hlast] at hr; simp only at hr; obtain ⟨g, rfl⟩ := own_ptr HOW.out (by omega); obtain ⟨o1, o2, o3, o4⟩ := own_at HOW.out; have d2 := o4 _ _ (spsV_at hsk 2 _ rfl); have d3 := o4 _ _ (spsV_at hsk 3 _ rfl); have d4 := o4 _ _ (spsV_at hsk 4 _ rfl); have d5 := o4 _ _ (spsV_at hsk 5 _ rfl); have d6 := o4 _ _ (spsV_at hsk 6 _ rfl); have d7 := o4 _ _ (spsV_at hsk 7 _ rfl); have hk1 : ((k + 1 : Nat) : Int) - 1 = (k : Int) := by omega
    have hkI : (k : Int) < ((k + 1 : Nat) : Int) := by omega
    have HEND : Hid (∀ e w', (lastOk acc = false → e = .returned (.tuple #[.slice none 0 0, .int .i64 9])) → (lastOk acc = true → e = .returned (.tuple #[.slice (some ⟨g, 0, none⟩) (k + 1) c, .int .i64 0])) → Below wr.heap.size wr w' → SweepPost w R e w') := hd' fun e w' h1 h2 hb => by
     have hb0 := HWw.out.trans (hb.mono HWw.out.size); have hrr := HR.out; rw [← hgo] at hrr; simp only at hrr
     by_cases hl : lastOk acc = true
     · rw [if_pos hl] at hrr; refine ⟨hb0, fun h => (by rw [← hrr] at h; cases h), fun l hl2 => ?_⟩; rw [← hrr] at hl2; simp only [Option.some.injEq] at hl2; subst hl2; refine ⟨some ⟨g, 0, none⟩, c, ?_, ?_⟩
       · rw [HAL.out]; exact h2 hl
       · rw [HAL.out]; exact own_more (own_keep HOW.out hb) HB0.out.size
     · rw [if_neg hl] at hrr; exact ⟨hb0, fun _ => h1 (by simpa using hl), fun l hl2 => by rw [← hrr] at hl2; cases hl2⟩
    have HLA : Hid (lastOk acc = (stopsI ⟨ik, id, ia, ib, iN, il⟩ || ik == 22)) := hd' (by unfold lastOk; rw [hlast]); clear hr hgo hse hsk hlast hbx HR
    by_cases hst : stopsI ⟨ik, id, ia, ib, iN, il⟩ = true
    · have HS : Hid (∀ W, Calls Tryd.prog 78 #[.agg #[.int .i64 ik, .int .i64 id, .int .i64 ia, .int .i64 ib, .int .i64 iN, .bool il]] W fun e w' => e = .returned (.bool true) ∧ Below W.heap.size W w') := hd' fun W => by rw [← hst]; exact stops_any _ _ _ _ _ _ W
      have HLT : Hid (lastOk acc = true) := hd' (by rw [HLA.out, hst]; rfl); clear hst
      go_wp2_with fail
      refine (HS.out _).mono ?_; rintro e w2 ⟨rfl, hb2⟩; have HB2 : Hid (Below wr.heap.size wr w2) := hd' (((Below.refl wr.heap.size wr).alloc lr' _).trans (hb2.mono (by simp))); clear hb2
      go_wp2
      go_ret2
      exact HEND.out _ _ (fun h => by rw [HLT.out] at h; cases h) (fun _ => rfl) HB2.out
    · have hst2 : stopsI ⟨ik, id, ia, ib, iN, il⟩ = false := by simpa using hst
      have HS : Hid (∀ W, Calls Tryd.prog 78 #[.agg #[.int .i64 ik, .int .i64 id, .int .i64 ia, .int .i64 ib, .int .i64 iN, .bool il]] W fun e w' => e = .returned (.bool false) ∧ Below W.heap.size W w') := hd' fun W => by rw [← hst2]; exact stops_any _ _ _ _ _ _ W
      have HLT : Hid (lastOk acc = (ik == 22)) := hd' (by rw [HLA.out, hst2]; rfl); clear hst hst2
      go_wp2_with fail
      refine (HS.out _).mono ?_; rintro e w2 ⟨rfl, hb2⟩; have hy := (hb2.block wr.heap.size (by simp)).trans (heap_alloc_new wr _); have y0 := cell_of_row _ _ 0 _ _ _ hy; simp only [List.getElem?_toArray, List.getElem?_cons_zero] at y0; have HB2 : Hid (Below wr.heap.size wr w2) := hd' (((Below.refl wr.heap.size wr).alloc lr' _).trans (hb2.mono (by simp))); clear hb2 hy
      by_cases hk22 : ik = 22
      · have q1 : (ik != 22) = false := by simp [hk22]
        have HK := hd' hk22; clear hk22
        go_wp2
        go_ret2
        exact HEND.out _ _ (fun h => by rw [HLT.out, HK.out] at h; cases h) (fun _ => rfl) HB2.out
      · have q1 : (ik != 22) = true := by simpa using hk22
        have HK := hd' hk22; clear hk22
        go_wp2
        go_ret2
        exact HEND.out _ _ (fun _ => rfl) (fun h => absurd (by rw [HLT.out] at h; simpa using h) HK.out) HB2.out
end Go.Proofs.YtcafhoobeggmeaaDoor
namespace Go.Proofs.YtcafhoobeggmeaaDoor
open Go.RowKit
set_option maxRecDepth 100000 in
theorem fin_inside (X o n : Nat) (own : Int → Option Int) (f p : Int) (w : World) (hc : w.cell? ⟨X, 7, none⟩ = some (.map (some o))) (hm : MapI w o n own) (hp : N64 p) :
 Calls Tryd.prog 80 #[.pointer (some ⟨X, 0, none⟩), .int .i64 f, .int .i64 p] w fun e w' => e = .returned (.bool (own p == some f)) ∧ w = w' := by
 have hl := hm.look_ok hp; clear hm
 go_enter Tryd.func80, Tryd.ntmps80
 rcases h : own p with _ | g
 · rw [h] at hl; simp only [Option.getD_none, Option.isSome_none] at hl
   go_wp2
   go_ret
   exact ⟨by simp, rfl⟩
 · rw [h] at hl; simp only [Option.getD_some, Option.isSome_some] at hl
   by_cases e : g = f
   · subst e
     go_wp2
     go_ret
     exact ⟨by simp, rfl⟩
   · have e2 : (g == f) = false := by simpa using e
     go_wp2
     go_ret
     exact ⟨by simp [e], rfl⟩
set_option maxRecDepth 100000 in
theorem fin_mark1 (X o n gx gf : Nat) (own : Int → Option Int) (f p : Int) (w : World) (hc : w.cell? ⟨X, 7, none⟩ = some (.map (some o))) (hm : MapI w o n own) (hp : N64 p) (hx : w.cell? ⟨gx, 0, none⟩ = some (.pointer (some ⟨X, 0, none⟩))) (hf : w.cell? ⟨gf, 0, none⟩ = some (.int .i64 f)) :
 Calls Tryd.prog 81 #[.int .i64 p, .pointer (some ⟨gx, 0, none⟩), .pointer (some ⟨gf, 0, none⟩)] w fun e w' => e = .returned (.bool (!(own p == some f))) ∧ w = w' := by
 have HI := hd' (fin_inside X o n own f p w hc hm hp); clear hm hp hc
 go_enter Tryd.func81, Tryd.ntmps81
 go_wp2_with fail
 refine HI.out.mono ?_; rintro e w1 ⟨rfl, rfl⟩
 go_wp2
 go_ret
 exact ⟨rfl, rfl⟩
set_option maxRecDepth 100000 in
theorem fin_mark2 (gt : Nat) (nm : ByteArray) (st sz t : Int) (w : World) (ht : w.cell? ⟨gt, 0, none⟩ = some (.int .i64 t)) (hl : gt < w.heap.size) :
 Calls Tryd.prog 83 #[.agg #[.string nm, .int .i64 st, .int .i64 sz], .pointer (some ⟨gt, 0, none⟩)] w fun e w' => e = .returned (.bool (st == t)) ∧ Below w.heap.size w w' := by
 go_enter Tryd.func83, Tryd.ntmps83
 go_wp2
 go_ret
 exact ⟨rfl, (Below.refl _ _).alloc lr' _⟩
set_option maxRecDepth 100000 in
theorem fin_plain1 (gs : Nat) (nm : ByteArray) (st sz p m : Int) (w : World) (h0 : w.cell? ⟨gs, 0, none⟩ = some (.int .i64 p)) (h1 : w.cell? ⟨gs, 6, none⟩ = some (.int .i64 m)) (hl : gs < w.heap.size) (hb : IntKind.i64.wrap (p + m) = p + m) :
 Calls Tryd.prog 110 #[.agg #[.string nm, .int .i64 st, .int .i64 sz], .pointer (some ⟨gs, 0, none⟩)] w fun e w' => e = .returned (.bool (st == p + m)) ∧ Below w.heap.size w w' := by
 go_enter Tryd.func110, Tryd.ntmps110
 go_wp2
 go_ret
 exact ⟨rfl, (Below.refl _ _).alloc lr' _⟩
end Go.Proofs.YtcafhoobeggmeaaDoor
namespace Go.Proofs.YtcafhoobeggmeaaDoor
open Go.RowKit
set_option maxRecDepth 100000 in
theorem idx_mk1 (L : List Int) (p : Int → Bool) (A : Option Addr) (len cap : Nat) (gx gf : Nat) (w : World) (hR : RdG w w.heap.size A (intsV .i64 L)) (hl : len = L.length) (hm : len ≤ 140737488355328)
 (hp : ∀ x ∈ L, Calls Tryd.prog 81 #[.int .i64 x, .pointer (some ⟨gx, 0, none⟩), .pointer (some ⟨gf, 0, none⟩)] w fun e w' => e = .returned (.bool (p x)) ∧ w = w') :
 Calls Tryd.prog 108 #[.slice A len cap, .func (.func 81) #[] #[.pointer (some ⟨gx, 0, none⟩), .pointer (some ⟨gf, 0, none⟩)]] w fun e w' => e = .returned (.int .i64 (idxP p L)) ∧ w = w' := by
 have HR := hd' hR; have HP := hd' hp; have HL := hd' hl; clear hR hp hl
 go_enter Tryd.func108, Tryd.ntmps108
 go_wp2
 go_loop [8] (fun i => ∃ k : Nat, k ≤ len ∧ i = .int .i64 k ∧ Hid (∀ (j : Nat) (y : Int), j < k → L[j]? = some y → p y = false)) (fun i => len - (intOf i).toNat)
 case atStart => exact ⟨0, Nat.zero_le _, rfl, fun j y h => absurd h (Nat.not_lt_zero _)⟩
 case round =>
  obtain ⟨k, hk, rfl, hno⟩ := hrel
  by_cases hlt : k < len
  · have hx : L[k]? = some (L[k]'(by have := HL.out; omega)) := gE' _; obtain ⟨x, hxx⟩ := ex' (L[k]'(by have := HL.out; omega))
    rw [hxx] at hx; have hpx := HP.out x (mG' hx); obtain ⟨b, o, rfl, hb, hc⟩ := HR.out.at (intsV_at .i64 hx); have HX := hd' hx; have HPX := hd' hpx; clear hx hxx hpx
    go_wp2_with fail
    refine (HPX.out).mono ?_; rintro e w2 ⟨rfl, rfl⟩
    by_cases hpp : p x = true
    · have hres := idxP_at p L k x HX.out hpp hno.out; have HRS := hd' hres; rw [hpp]; clear hres hpp
      go_wp2
      go_ret
      exact ⟨by rw [HRS.out]; rfl, rfl⟩
    · rw [Bool.not_eq_true] at hpp; have HPP := hd' hpp; rw [hpp]; clear hpp
      go_wp2
      go_round
      case rel =>
       refine ⟨k + 1, by omega, by go_num, fun j y hj hy => ?_⟩; rcases Nat.lt_or_ge j k with h | h
       · exact hno.out j y h hy
       · obtain rfl : j = k := by omega
         have := HX.out; rw [this] at hy
         cases hy
         exact HPP.out
      case measure => simp [intOf]; omega
  · obtain rfl : k = len := by omega
    have hres := idxP_none p L fun x hx => by
     obtain ⟨j, hj⟩ := List.getElem?_of_mem hx; exact hno.out j x (by have := (List.getElem?_eq_some_iff.1 hj).1; have := HL.out; omega) hj
    have HRS := hd' hres; clear hres hlt
    go_wp2
    go_ret
    exact ⟨by rw [HRS.out]; rfl, rfl⟩
theorem cf_mk1 (L : List Int) (p : Int → Bool) (A : Option Addr) (len cap : Nat) (gx gf : Nat) (w : World) (hR : RdG w w.heap.size A (intsV .i64 L)) (hl : len = L.length) (hm : len ≤ 140737488355328)
 (hp : ∀ x ∈ L, Calls Tryd.prog 81 #[.int .i64 x, .pointer (some ⟨gx, 0, none⟩), .pointer (some ⟨gf, 0, none⟩)] w fun e w' => e = .returned (.bool (p x)) ∧ w = w') :
 Calls Tryd.prog 74 #[.slice A len cap, .func (.func 81) #[] #[.pointer (some ⟨gx, 0, none⟩), .pointer (some ⟨gf, 0, none⟩)]] w fun e w' => e = .returned (.bool (L.any p)) ∧ w = w' := by
 have ha := idxP_any p L; have hge := idxP_ge p L; have H := hd' (idx_mk1 L p A len cap gx gf w hR hl hm hp); clear hR hp hl; rw [← ha]; generalize idxP p L = r at *; clear ha
 go_enter Tryd.func74, Tryd.ntmps74
 go_wp2_with fail
 refine H.out.mono ?_; rintro e w2 ⟨rfl, rfl⟩
 go_wp2
 go_ret
 exact ⟨rfl, rfl⟩
set_option maxRecDepth 100000 in
theorem idx_mk2 (L : List FnD) (p : FnD → Bool) (A : Option Addr) (len cap bf : Nat) (w : World) (hR : RdG w w.heap.size A (funcsV L)) (hl : len = L.length) (hm : len ≤ 140737488355328) (hc : ∀ W, Below w.heap.size w W → ∀ f : FnD, f ∈ L → Calls Tryd.prog 83 #[.agg #[.string f.name, .int .i64 f.start, .int .i64 f.size], .pointer (some ⟨bf, 0, none⟩)] W fun e w' => e = .returned (.bool (p f)) ∧ Below W.heap.size W w') :
 Calls Tryd.prog 109 #[.slice A len cap, .func (.func 83) #[] #[.pointer (some ⟨bf, 0, none⟩)]] w fun e w' => e = .returned (.int .i64 (idxP p L)) ∧ Below w.heap.size w w' := by
 have HR := hd' hR; have HL := hd' hl; have HC := hd' hc; clear hR hl hc
 go_enter Tryd.func109, Tryd.ntmps109
 go_wp2
 go_loopw [8] (fun i wr => ∃ k : Nat, k ≤ len ∧ i = .int .i64 k ∧ Below w.heap.size w wr ∧ Hid (∀ (j : Nat) (y : FnD), j < k → L[j]? = some y → p y = false)) (fun i _ => len - (intOf i).toNat)
 case atStart => exact ⟨0, Nat.zero_le _, rfl, Below.refl _ _, fun j y h => absurd h (Nat.not_lt_zero _)⟩
 case round =>
  obtain ⟨k, hk, rfl, hbr, hno⟩ := hrel
  by_cases hlt : k < len
  · have hx : L[k]? = some (L[k]'(by have := HL.out; omega)) := gE' _; obtain ⟨x, hxx⟩ := ex' (L[k]'(by have := HL.out; omega))
    rw [hxx] at hx; obtain ⟨b, o, rfl, hb', c0, c1, c2⟩ := HR.out.at3 hx; have d0 := (hbr.cell (p := ⟨b, o + k * 3, none⟩) hb').trans c0; have d1 := (hbr.cell (p := ⟨b, o + k * 3 + 1, none⟩) hb').trans c1; have d2 := (hbr.cell (p := ⟨b, o + k * 3 + 2, none⟩) hb').trans c2; have hcf := HC.out wr hbr x (mG' hx); have HX := hd' hx; have HCF := hd' hcf; have hz := hbr.size; have HB := hd' hbr; clear hx hxx c0 c1 c2 hbr hcf
    go_wp2_with fail
    refine HCF.out.mono ?_; rintro e w2 ⟨rfl, hb2⟩; have hbb := HB.out.trans (hb2.mono hz); have HBB := hd' hbb; clear hbb hb2 d0 d1 d2
    by_cases hpp : p x = true
    · have hres := idxP_at p L k x HX.out hpp hno.out; have HRS := hd' hres; rw [hpp]; clear hres hpp
      go_wp2
      go_ret
      exact ⟨by rw [HRS.out]; rfl, HBB.out⟩
    · rw [Bool.not_eq_true] at hpp; have HPP := hd' hpp; rw [hpp]; clear hpp
      go_wp2
      go_roundw
      case rel =>
       refine ⟨k + 1, by omega, by go_num, HBB.out, fun j y hj hy => ?_⟩; rcases Nat.lt_or_ge j k with h | h
       · exact hno.out j y h hy
       · obtain rfl : j = k := by omega
         have := HX.out; rw [this] at hy
         cases hy
         exact HPP.out
      case measure => simp [intOf]; omega
  · obtain rfl : k = len := by omega
    have hres := idxP_none p L fun x hx => by
     obtain ⟨j, hj⟩ := List.getElem?_of_mem hx; exact hno.out j x (by have := (List.getElem?_eq_some_iff.1 hj).1; have := HL.out; omega) hj
    have HRS := hd' hres; have HBB := hd' hbr; clear hres hlt hbr
    go_wp2
    go_ret
    exact ⟨by rw [HRS.out]; rfl, HBB.out⟩
theorem cf_mk2 (L : List FnD) (p : FnD → Bool) (A : Option Addr) (len cap bf : Nat) (w : World) (hR : RdG w w.heap.size A (funcsV L)) (hl : len = L.length) (hm : len ≤ 140737488355328) (hc : ∀ W, Below w.heap.size w W → ∀ f : FnD, f ∈ L → Calls Tryd.prog 83 #[.agg #[.string f.name, .int .i64 f.start, .int .i64 f.size], .pointer (some ⟨bf, 0, none⟩)] W fun e w' => e = .returned (.bool (p f)) ∧ Below W.heap.size W w') :
 Calls Tryd.prog 82 #[.slice A len cap, .func (.func 83) #[] #[.pointer (some ⟨bf, 0, none⟩)]] w fun e w' => e = .returned (.bool (L.any p)) ∧ Below w.heap.size w w' := by
 have ha := idxP_any p L; have hge := idxP_ge p L; have H := hd' (idx_mk2 L p A len cap bf w hR hl hm hc); clear hR hl hc; rw [← ha]; generalize idxP p L = r at *; clear ha
 go_enter Tryd.func82, Tryd.ntmps82
 go_wp2_with fail
 refine H.out.mono ?_; rintro e w2 ⟨rfl, hb2⟩
 go_wp2
 go_ret
 exact ⟨rfl, hb2⟩
set_option maxRecDepth 100000 in
theorem idx_pl1 (L : List FnD) (p : FnD → Bool) (A : Option Addr) (len cap bf : Nat) (w : World) (hR : RdG w w.heap.size A (funcsV L)) (hl : len = L.length) (hm : len ≤ 140737488355328) (hc : ∀ W, Below w.heap.size w W → ∀ f : FnD, f ∈ L → Calls Tryd.prog 110 #[.agg #[.string f.name, .int .i64 f.start, .int .i64 f.size], .pointer (some ⟨bf, 0, none⟩)] W fun e w' => e = .returned (.bool (p f)) ∧ Below W.heap.size W w') :
 Calls Tryd.prog 109 #[.slice A len cap, .func (.func 110) #[] #[.pointer (some ⟨bf, 0, none⟩)]] w fun e w' => e = .returned (.int .i64 (idxP p L)) ∧ Below w.heap.size w w' := by
 have HR := hd' hR; have HL := hd' hl; have HC := hd' hc; clear hR hl hc
 go_enter Tryd.func109, Tryd.ntmps109
 go_wp2
 go_loopw [8] (fun i wr => ∃ k : Nat, k ≤ len ∧ i = .int .i64 k ∧ Below w.heap.size w wr ∧ Hid (∀ (j : Nat) (y : FnD), j < k → L[j]? = some y → p y = false)) (fun i _ => len - (intOf i).toNat)
 case atStart => exact ⟨0, Nat.zero_le _, rfl, Below.refl _ _, fun j y h => absurd h (Nat.not_lt_zero _)⟩
 case round =>
  obtain ⟨k, hk, rfl, hbr, hno⟩ := hrel
  by_cases hlt : k < len
  · have hx : L[k]? = some (L[k]'(by have := HL.out; omega)) := gE' _; obtain ⟨x, hxx⟩ := ex' (L[k]'(by have := HL.out; omega))
    rw [hxx] at hx; obtain ⟨b, o, rfl, hb', c0, c1, c2⟩ := HR.out.at3 hx; have d0 := (hbr.cell (p := ⟨b, o + k * 3, none⟩) hb').trans c0; have d1 := (hbr.cell (p := ⟨b, o + k * 3 + 1, none⟩) hb').trans c1; have d2 := (hbr.cell (p := ⟨b, o + k * 3 + 2, none⟩) hb').trans c2; have hcf := HC.out wr hbr x (mG' hx); have HX := hd' hx; have HCF := hd' hcf; have hz := hbr.size; have HB := hd' hbr; clear hx hxx c0 c1 c2 hbr hcf
    go_wp2_with fail
    refine HCF.out.mono ?_; rintro e w2 ⟨rfl, hb2⟩; have hbb := HB.out.trans (hb2.mono hz); have HBB := hd' hbb; clear hbb hb2 d0 d1 d2
    by_cases hpp : p x = true
    · have hres := idxP_at p L k x HX.out hpp hno.out; have HRS := hd' hres; rw [hpp]; clear hres hpp
      go_wp2
      go_ret
      exact ⟨by rw [HRS.out]; rfl, HBB.out⟩
    · rw [Bool.not_eq_true] at hpp; have HPP := hd' hpp; rw [hpp]; clear hpp
      go_wp2
      go_roundw
      case rel =>
       refine ⟨k + 1, by omega, by go_num, HBB.out, fun j y hj hy => ?_⟩; rcases Nat.lt_or_ge j k with h | h
       · exact hno.out j y h hy
       · obtain rfl : j = k := by omega
         have := HX.out; rw [this] at hy
         cases hy
         exact HPP.out
      case measure => simp [intOf]; omega
  · obtain rfl : k = len := by omega
    have hres := idxP_none p L fun x hx => by
     obtain ⟨j, hj⟩ := List.getElem?_of_mem hx; exact hno.out j x (by have := (List.getElem?_eq_some_iff.1 hj).1; have := HL.out; omega) hj
    have HRS := hd' hres; have HBB := hd' hbr; clear hres hlt hbr
    go_wp2
    go_ret
    exact ⟨by rw [HRS.out]; rfl, HBB.out⟩
end Go.Proofs.YtcafhoobeggmeaaDoor
