/- image.lines, walked. image.Check, walked. -/
import Derived.Test.YtcdlgjhdbmmomaaGreatDoorAppG
import Derived.Laws.Entries
import Derived.WalkLawsBesides
import Derived.Outline
import Derived.Test.YtcdlgjhdbmmomaaGreatDoorImgC
import Derived.Deep.QuietTactic
import Derived.BigQuiet
import Derived.StillTailTactics
import Derived.Deep.AppendLies
import Derived.Deep.RegionHeld3
import Derived.Deep.DeepCutAuto
namespace Go.Proofs.YtcdlgjhdbmmomaaGreatDoor
open Go.RowKit
end Go.Proofs.YtcdlgjhdbmmomaaGreatDoor
namespace Go.Proofs.YtcdlgjhdbmmomaaGreatDoor
open Go.RowKit
end Go.Proofs.YtcdlgjhdbmmomaaGreatDoor
namespace Go.Proofs.YtcdlgjhdbmmomaaGreatDoor
open Go.RowKit
end Go.Proofs.YtcdlgjhdbmmomaaGreatDoor
namespace Go.Proofs.YtcdlgjhdbmmomaaGreatDoor
open Go.RowKit
end Go.Proofs.YtcdlgjhdbmmomaaGreatDoor
namespace Go.Proofs.YtcdlgjhdbmmomaaGreatDoor
open Go.RowKit
end Go.Proofs.YtcdlgjhdbmmomaaGreatDoor
namespace Go.Proofs.YtcdlgjhdbmmomaaGreatDoor
open Go.RowKit
theorem linesV_at {L : List (Int × Int)} {j : Nat} {l : Int × Int} (h : L[j]? = some l) : (linesV L)[j * 2]? = some (.int .i64 l.1) ∧ (linesV L)[j * 2 + 1]? = some (.int .i64 l.2) :=
 ⟨flat_at lineV 2 (fun _ => rfl) L j l h 0 _ (by decide) rfl, flat_at lineV 2 (fun _ => rfl) L j l h 1 _ (by decide) rfl⟩
theorem RdG.at2 {w : World} {B : Nat} {A : Option Addr} {L : List (Int × Int)} (h : RdG w B A (linesV L)) {j : Nat} {l : Int × Int} (hv : L[j]? = some l) :
 ∃ b o, A = some ⟨b, o, none⟩ ∧ b < B ∧ w.cell? ⟨b, o + j * 2, none⟩ = some (.int .i64 l.1) ∧ w.cell? ⟨b, o + j * 2 + 1, none⟩ = some (.int .i64 l.2) := by
 obtain ⟨h0, h1⟩ := linesV_at hv; obtain ⟨b, o, e, hb, hc⟩ := h (by intro e; rw [e] at h0; simp at h0); exact ⟨b, o, e, hb, hc _ _ h0, by rw [Nat.add_assoc]; exact hc _ _ h1⟩
def linesGo (T : Int) : Int → List (Int × Int) → Int
 | _, [] => 0
 | last, l :: r => if l.2 < 0 ∨ 10000 < l.2 then 2 else if l.1 ≤ last ∨ T ≤ l.1 then 8 else linesGo T l.1 r
def linesE (m : Img) : Int := if 4000 < m.lines.length then 1 else linesGo m.text.length (-1) m.lines
set_option maxHeartbeats 4000000 in
set_option maxRecDepth 100000 in
theorem lines_any (m : Img) (v : ImgV) (w : World) (hI : ImgRd w w.heap.size m v) (hO : ImgOk m v) : Calls Tryz.prog 82 #[.agg (m.val v)] w fun e w' => e = .returned (.int .i64 (linesE m)) ∧ Below w.heap.size w w' := by
 obtain ⟨R, hR⟩ := ex' (linesE m)
 rw [hR]; unfold Img.val; have htl := hO.tl; have hll := hO.ll; have HI := hd' hI; have HO := hd' hO; unfold linesE at hR
 by_cases h40 : 4000 < m.lines.length
 · rw [if_pos h40] at hR; subst hR; have h40' : (4000 : Int) < m.lines.length := by omega
   clear hI hO
   go_enter Tryz.func82, Tryz.ntmps82
   go_wp2
   go_ret
   exact ⟨rfl, (Below.refl _ _).alloc lr' _⟩
 · rw [if_neg h40] at hR; have HR := hd' hR; have h40' : ¬ (4000 : Int) < m.lines.length := by omega
   clear hI hO hR; obtain ⟨T, hT⟩ := ex' m.text.length
   obtain ⟨N, hN⟩ := ex' m.lines.length
   rw [hT] at HR htl ⊢; rw [hN] at hll h40 h40' ⊢; have HN := hd' hN; clear hT hN; obtain ⟨tA, tc, fA, fc, bA, bc, dA, dc, lA, lc⟩ := v; simp only at *
   go_enter Tryz.func82, Tryz.ntmps82
   go_wp2
   obtain ⟨W0, hW0⟩ := ex' (w.alloc (.cells #[.slice tA T tc, .slice fA m.funcs.length fc, .slice bA m.tables.length bc, .slice dA m.data.length dc, .slice lA N lc, .int .i64 m.entry] 30))
   rw [hW0]; have hx0 : W0.heap[w.heap.size]? = some (.cells #[.slice tA T tc, .slice fA m.funcs.length fc, .slice bA m.tables.length bc, .slice dA m.data.length dc, .slice lA N lc, .int .i64 m.entry] 30 (0, 0)) := by rw [← hW0]; exact heap_alloc_new w _
   have hB0 : Below w.heap.size w W0 := by rw [← hW0]; exact (Below.refl _ _).alloc lr' _
   have hz0 : w.heap.size + 1 = W0.heap.size := by rw [← hW0]; simp
   have HX0 := hd' hx0; have HB0 := hd' hB0; have HZ0 := hd' hz0; clear hW0 hx0 hB0 hz0
   go_loopw [3, 13] (fun v3 v13 wr => ∃ (k : Nat) (a : Int), k ≤ N ∧ v13 = .int .i64 k ∧ v3 = .int .i64 a ∧ Below W0.heap.size W0 wr ∧ Hid (linesGo T a (m.lines.drop k) = R)) (fun _ v13 _ => N - (intOf v13).toNat)
   case atStart => exact ⟨0, -1, Nat.zero_le _, rfl, rfl, Below.refl _ _, HR.out⟩
   case round =>
    obtain ⟨k, a, hk, rfl, rfl, hbr, hR⟩ := hrel; have hbx : wr.heap[w.heap.size]? = some (.cells #[.slice tA T tc, .slice fA m.funcs.length fc, .slice bA m.tables.length bc, .slice dA m.data.length dc, .slice lA N lc, .int .i64 m.entry] 30 (0, 0)) := (hbr.block _ (by have := HZ0.out; omega)).trans HX0.out; have x0 : wr.cell? ⟨w.heap.size, 0, none⟩ = some (.slice tA T tc) := cell_of_row _ _ 0 _ _ _ hbx; have hsz : w.heap.size < wr.heap.size := by have := hbr.size; have := HZ0.out; omega
    have hBw : Below w.heap.size w wr := HB0.out.trans (hbr.mono (by have := HZ0.out; omega)); have hFr := HI.out.lines.below hBw; have HBw := hd' hBw; have HBr := hd' hbr; have HR' := hd' hR; clear hbx hbr hBw hR
    by_cases hlt : k < N
    · have hx : m.lines[k]? = some (m.lines[k]'(by have := HN.out; omega)) := gE' _; have hdr : m.lines.drop k = m.lines[k]'(by have := HN.out; omega) :: m.lines.drop (k + 1) := List.drop_eq_getElem_cons _; obtain ⟨l, hl⟩ := ex' (m.lines[k]'(by have := HN.out; omega))
      rw [hl] at hx hdr; obtain ⟨l1, l2⟩ := l; obtain ⟨b, o, hA, hb', c0, c1⟩ := hFr.at2 hx; simp only at hA c0 c1; subst hA; have hR1 := HR'.out; rw [hdr] at hR1; unfold linesGo at hR1; simp only at hR1; have HB2 : ∀ X, Below W0.heap.size W0 (wr.alloc X) := fun X => HBr.out.alloc HBr.out.size X
      have HBW2 : ∀ X, Below w.heap.size w (wr.alloc X) := fun X => HBw.out.alloc HBw.out.size X
      clear hdr hl hx HR' hFr
      by_cases p1 : l2 < 0 ∨ 10000 < l2
      · rw [if_pos p1] at hR1; have HRR := hd' hR1; clear hR1
        by_cases p2 : l2 < 0
        · clear p1
          go_wp2
          go_ret
          exact ⟨by rw [← HRR.out]; rfl, HBW2 _⟩
        · have p3 : 10000 < l2 := by omega
          clear p1
          go_wp2
          go_ret
          exact ⟨by rw [← HRR.out]; rfl, HBW2 _⟩
      · rw [if_neg p1] at hR1; have p2 : ¬ l2 < 0 := by omega
        have p3 : ¬ 10000 < l2 := by omega
        clear p1
        by_cases q : l1 ≤ a ∨ (T : Int) ≤ l1
        · rw [if_pos q] at hR1; have HRR := hd' hR1; clear hR1
          by_cases q2 : l1 ≤ a
          · clear q
            go_wp2
            go_ret
            exact ⟨by rw [← HRR.out]; rfl, HBW2 _⟩
          · have q3 : (T : Int) ≤ l1 := by omega
            clear q
            go_wp2
            go_ret
            exact ⟨by rw [← HRR.out]; rfl, HBW2 _⟩
        · rw [if_neg q] at hR1; have HRR := hd' hR1; have q2 : ¬ l1 ≤ a := by omega
          have q3 : ¬ (T : Int) ≤ l1 := by omega
          clear hR1 q
          go_wp2
          go_roundw
          case rel => exact ⟨k + 1, l1, by omega, by go_num, rfl, HB2 _, HRR.out⟩
          case measure => simp [intOf]; omega
    · obtain rfl : k = N := by omega
      have hR := HR'.out; rw [List.drop_of_length_le (by have := HN.out; omega)] at hR; unfold linesGo at hR; have HR2 := hd' hR; clear hR hlt
      go_wp2
      go_ret
      exact ⟨by rw [← HR2.out]; rfl, HBw.out⟩
def oddAt (T n : Int) : Bool := decide (n < 0) || decide (T ≤ n)
def oddN (n : Int) : Bool := decide (n < -1099511627776) || decide (1099511627776 < n)
theorem oddAt_any (n : Int) (tA : Option Addr) (T tc bx : Nat) (w : World) (hc : w.cell? ⟨bx, 0, none⟩ = some (.slice tA T tc)) : Calls Tryz.prog 80 #[.int .i64 n, .pointer (some ⟨bx, 0, none⟩)] w fun e w' => e = .returned (.bool (oddAt T n)) ∧ w = w' := by
 obtain ⟨r, hr⟩ := ex' (oddAt T n)
 rw [hr]; have HR := hd' hr; clear hr
 by_cases h : n < 0
 · go_enter Tryz.func80, Tryz.ntmps80
   go_wp2
   go_ret
   exact ⟨by rw [← HR.out]; simp [oddAt, h], rfl⟩
 · go_enter Tryz.func80, Tryz.ntmps80
   go_wp2
   go_ret
   exact ⟨by rw [← HR.out]; simp [oddAt]; omega, rfl⟩
theorem oddN_any (n : Int) (w : World) : Calls Tryz.prog 81 #[.int .i64 n] w fun e w' => e = .returned (.bool (oddN n)) ∧ w = w' := by
 obtain ⟨r, hr⟩ := ex' (oddN n)
 rw [hr]; have HR := hd' hr; clear hr
 by_cases h : n < -1099511627776
 · go_enter Tryz.func81, Tryz.ntmps81
   go_wp2
   go_ret
   exact ⟨by rw [← HR.out]; simp [oddN, h], rfl⟩
 · go_enter Tryz.func81, Tryz.ntmps81
   go_wp2
   go_ret
   exact ⟨by rw [← HR.out]; simp [oddN]; omega, rfl⟩
def tablesGo (T : Int) : List (List Int) → Int
 | [] => 0
 | t :: r => if 20 < t.length then 1 else if t.any (oddAt T) = true then 2 else tablesGo T r
def restE (m : Img) : Int := if m.data.any oddN = true then 2 else linesE m
def tailE (m : Img) : Int := if tablesGo m.text.length m.tables = 0 then restE m else tablesGo m.text.length m.tables
def checkE (m : Img) : Int :=
 if 8000 < m.text.length then 1 else if funcsE m ≠ 0 then funcsE m else if m.entry < 0 ∨ (m.funcs.length : Int) ≤ m.entry then 6 else if 20 < m.tables.length ∨ 64 < m.data.length then 1 else tailE m
set_option maxHeartbeats 8000000 in
set_option maxRecDepth 100000 in
theorem imgCheck_any (m : Img) (v : ImgV) (w : World) (hI : ImgRd w w.heap.size m v) (hO : ImgOk m v) : Calls Tryz.prog 55 #[.agg (m.val v)] w fun e w' => e = .returned (.int .i64 (checkE m)) ∧ Below w.heap.size w w' := by
 obtain ⟨R, hR⟩ := ex' (checkE m)
 rw [hR]; have htl := hO.tl; have hfl := hO.fl; have hbl := hO.bl; have hdl := hO.dl; have HI := hd' hI; have HO := hd' hO; unfold checkE at hR; have HV : Hid (m.val v = #[.slice v.tA m.text.length v.tc, .slice v.fA m.funcs.length v.fc, .slice v.bA m.tables.length v.bc, .slice v.dA m.data.length v.dc, .slice v.lA m.lines.length v.lc, .int .i64 m.entry]) := hd' rfl; rw [HV.out]
 by_cases h0 : 8000 < m.text.length
 · rw [if_pos h0] at hR; subst hR; have h0' : (8000 : Int) < m.text.length := by omega
   clear hI hO
   go_enter Tryz.func55, Tryz.ntmps55
   go_wp2
   go_ret
   exact ⟨rfl, (Below.refl _ _).alloc lr' _⟩
 · rw [if_neg h0] at hR; have h0' : ¬ (8000 : Int) < m.text.length := by omega
   have HR := hd' hR; clear hI hO hR
   go_enter Tryz.func55, Tryz.ntmps55
   go_wp2_with fail
   have hfc := funcs_any m v (w.alloc (.cells (m.val v) 30)) ((HI.out.below ((Below.refl _ _).alloc lr' _)).more (by simp)) HO.out; rw [HV.out] at hfc; refine hfc.mono ?_; clear hfc; rintro e w1 ⟨rfl, hb1⟩; have hx : w1.heap[w.heap.size]? = some (.cells #[.slice v.tA m.text.length v.tc, .slice v.fA m.funcs.length v.fc, .slice v.bA m.tables.length v.bc, .slice v.dA m.data.length v.dc, .slice v.lA m.lines.length v.lc, .int .i64 m.entry] 30 (0, 0)) := (hb1.block _ (by simp)).trans (heap_alloc_new w _)
   have hB1 : Below w.heap.size w w1 := ((Below.refl _ _).alloc lr' _).trans (hb1.mono (by simp)); have hs1 : w.heap.size < w1.heap.size := by have := hb1.size; simp at this; omega
   have HX := hd' hx; have HB := hd' hB1; clear hb1 hx hB1; have x0 : w1.cell? ⟨w.heap.size, 0, none⟩ = some (.slice v.tA m.text.length v.tc) := cell_of_row _ _ 0 _ _ _ HX.out; have x1 : w1.cell? ⟨w.heap.size, 1, none⟩ = some (.slice v.fA m.funcs.length v.fc) := cell_of_row _ _ 1 _ _ _ HX.out; have x2 : w1.cell? ⟨w.heap.size, 2, none⟩ = some (.slice v.bA m.tables.length v.bc) := cell_of_row _ _ 2 _ _ _ HX.out; have x3 : w1.cell? ⟨w.heap.size, 3, none⟩ = some (.slice v.dA m.data.length v.dc) := cell_of_row _ _ 3 _ _ _ HX.out
   have x5 : w1.cell? ⟨w.heap.size, 5, none⟩ = some (.int .i64 m.entry) := cell_of_row _ _ 5 _ _ _ HX.out
   by_cases h1 : funcsE m = 0
   · rw [if_neg (by rw [h1]; decide)] at HR; rw [h1]; clear h1
     by_cases h2 : m.entry < 0 ∨ (m.funcs.length : Int) ≤ m.entry
     · have hR := HR.out; rw [if_pos h2] at hR; have HR2 := hd' hR; clear hR
       by_cases h3 : m.entry < 0
       · clear h2
         go_wp2
         go_ret
         exact ⟨by rw [← HR2.out]; rfl, HB.out⟩
       · have h4 : (m.funcs.length : Int) ≤ m.entry := by omega
         clear h2
         go_wp2
         go_ret
         exact ⟨by rw [← HR2.out]; rfl, HB.out⟩
     · have hR := HR.out; rw [if_neg h2] at hR; have h3 : ¬ m.entry < 0 := by omega
       have h4 : ¬ (m.funcs.length : Int) ≤ m.entry := by omega
       have HR2 := hd' hR; clear hR h2 HR
       by_cases h5 : 20 < m.tables.length ∨ 64 < m.data.length
       · have hR := HR2.out; rw [if_pos h5] at hR; have HR3 := hd' hR; clear hR
         by_cases h6 : (20 : Int) < m.tables.length
         · clear h5
           go_wp2
           go_ret
           exact ⟨by rw [← HR3.out]; rfl, HB.out⟩
         · have h7 : (64 : Int) < m.data.length := by omega
           clear h5
           go_wp2
           go_ret
           exact ⟨by rw [← HR3.out]; rfl, HB.out⟩
       · have hR := HR2.out; rw [if_neg h5] at hR; have h6 : ¬ (20 : Int) < m.tables.length := by omega
         have h7 : ¬ (64 : Int) < m.data.length := by omega
         have HR3 := hd' hR; clear hR h5 HR2; unfold tailE at HR3
         go_wp2
         obtain ⟨T, hT⟩ := ex' m.text.length
         obtain ⟨N, hN⟩ := ex' m.tables.length
         rw [hT] at HR3 x0; rw [hN] at x2 hbl h6 ⊢; have HT := hd' hT; have HN := hd' hN; clear hT hN
         go_loop [39] (fun v39 => ∃ k : Nat, k ≤ N ∧ v39 = .int .i64 k ∧ Hid ((if tablesGo T (m.tables.drop k) = 0 then restE m else tablesGo T (m.tables.drop k)) = R)) (fun v39 => N - (intOf v39).toNat)
         case atStart => exact ⟨0, Nat.zero_le _, rfl, HR3.out⟩
         case round =>
          obtain ⟨k, hk, rfl, hR⟩ := hrel; have HR' := hd' hR; clear hR
          by_cases hlt : k < N
          · have hx : m.tables[k]? = some (m.tables[k]'(by have := HN.out; omega)) := gE' _; have hdr : m.tables.drop k = m.tables[k]'(by have := HN.out; omega) :: m.tables.drop (k + 1) := List.drop_eq_getElem_cons _; obtain ⟨t, ht⟩ := ex' (m.tables[k]'(by have := HN.out; omega))
            rw [ht] at hx hdr; obtain ⟨vs, hvl, hvr, hvs⟩ := HI.out.tables; obtain ⟨a, c, hva, hac, hcm, htl2, hra⟩ := hvs k t hx; obtain ⟨b, o, hA, hb', hc⟩ := (hvr.below HB.out).at hva; have hra1 := (hra.below HB.out).more (B' := w1.heap.size) (by omega); have HRA := hd' hra1; have hR1 := HR'.out; rw [hdr] at hR1; unfold tablesGo at hR1; have HR1 := hd' hR1; have x2' := x2; rw [hA] at x2'; rw [hA]; clear hx hdr ht hvl hvr hvs hva hra hra1 hR1 HR'
            by_cases p1 : 20 < t.length
            · have hR := HR1.out; rw [if_pos p1, if_neg (by decide)] at hR; have HR4 := hd' hR; have p1' : (20 : Int) < t.length := by omega
              clear hR
              go_wp2
              go_ret
              exact ⟨by rw [← HR4.out]; rfl, HB.out⟩
            · have hR := HR1.out; rw [if_neg p1] at hR; have HR4 := hd' hR; have p1' : ¬ (20 : Int) < t.length := by omega
              clear hR
              go_wp2_with fail
              refine (cf_table t (oddAt T) a _ _ w.heap.size w1 HRA.out rfl htl2 (fun x _ => oddAt_any x _ T _ _ w1 x0)).mono ?_; rintro e w2 ⟨rfl, rfl⟩
              by_cases p2 : t.any (oddAt T) = true
              · have hR := HR4.out; rw [if_pos p2, if_neg (by decide)] at hR; have HR5 := hd' hR; rw [p2]; clear hR p2
                go_wp2
                go_ret
                exact ⟨by rw [← HR5.out]; rfl, HB.out⟩
              · have hR := HR4.out; rw [if_neg p2] at hR; have HR5 := hd' hR; rw [Bool.not_eq_true] at p2; rw [p2]; clear hR p2
                go_wp2
                go_round
                case rel => exact ⟨k + 1, by omega, by go_num, HR5.out⟩
                case measure => simp [intOf]; omega
          · obtain rfl : k = N := by omega
            have hR := HR'.out; rw [List.drop_of_length_le (by have := HN.out; omega)] at hR; unfold tablesGo at hR; rw [if_pos rfl] at hR; unfold restE at hR; have HR4 := hd' hR; have hrd := (HI.out.data.below HB.out).more (B' := w1.heap.size) (by omega); have HRD := hd' hrd; clear hR hlt hrd
            go_wp2_with fail
            refine (cf_data m.data oddN v.dA _ _ w1 HRD.out rfl hdl (fun x _ => oddN_any x w1)).mono ?_; rintro e w2 ⟨rfl, rfl⟩
            by_cases p2 : m.data.any oddN = true
            · have hR := HR4.out; rw [if_pos p2] at hR; have HR5 := hd' hR; rw [p2]; clear hR p2
              go_wp2
              go_ret
              exact ⟨by rw [← HR5.out]; rfl, HB.out⟩
            · have hR := HR4.out; rw [if_neg p2] at hR; have HR5 := hd' hR; rw [Bool.not_eq_true] at p2; rw [p2]; clear hR p2; have x4 : w1.cell? ⟨w.heap.size, 4, none⟩ = some (.slice v.lA m.lines.length v.lc) := cell_of_row _ _ 4 _ _ _ HX.out
              go_wp2_with fail
              have hlc := lines_any m v w1 ((HI.out.below HB.out).more (by omega)) HO.out; rw [HV.out, HT.out, HN.out] at hlc; refine hlc.mono ?_; clear hlc; rintro e w2 ⟨rfl, hb2⟩; have hfin := HB.out.trans (hb2.mono (by omega)); rw [HR5.out]; clear hb2
              go_wp2
              go_ret
              exact ⟨rfl, hfin⟩
   · rw [if_pos h1] at HR; have h1' : (funcsE m != 0) = true := by simpa using h1
     rw [HR.out]; rw [HR.out] at h1'; clear h1
     go_wp2
     go_ret
     exact ⟨rfl, HB.out⟩
end Go.Proofs.YtcdlgjhdbmmomaaGreatDoor
