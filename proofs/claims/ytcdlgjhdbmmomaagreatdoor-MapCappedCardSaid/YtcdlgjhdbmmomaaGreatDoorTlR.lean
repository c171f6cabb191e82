/- tally.Read, walked. -/
import Derived.Test.YtcdlgjhdbmmomaaGreatDoorTlN
import Derived.Test.YtcdlgjhdbmmomaaGreatDoorAppG
import Derived.Lib.SmallJoins
import Derived.Deep.DeepCutAuto
import Derived.Deep.CutBlock
import Derived.Deep.LoopGhost
import Derived.Deep.QuietTactic
import Derived.BigQuiet
import Derived.IntWalk
import Derived.WalkLawsBesides
namespace Go.Proofs.YtcdlgjhdbmmomaaGreatDoor
open Go.RowKit Go.Lib Go.Joins
theorem infoEdg : (Tryz.prog.info? 43).map (fun i => (i.zero, i.size, i.bytes)) = some (some (.agg #[.int .i64 0, .int .i64 0, .int .i64 0]), 3, 24) := by kernel_rfl
def edC (e : EdgE) : List Value := [.int .i64 e.a, .int .i64 e.b, .int .i64 e.c]
def edL (l : List EdgE) : List Value := l.flatMap edC
theorem edL_len (l : List EdgE) : (edL l).length = l.length * 3 := by
 induction l with
 | nil => rfl
 | cons x r ih =>
  unfold edL at ih ⊢; rw [List.flatMap_cons, List.length_append, ih]; simp [edC]; omega
def ReadPost (w : World) (r : Sum Int (List EdgE)) (e : Ending) (w' : World) : Prop :=
 Below w.heap.size w w' ∧ match r with
  | .inl c => e = .returned (.tuple #[.slice none 0 0, .int .i64 c])
  | .inr es => ∃ (A : Option Addr) (c : Nat), e = .returned (.tuple #[.slice A es.length c, .int .i64 0]) ∧ w'.ownsRow w.heap.size 43 3 (.slice A es.length c) es.length (edL es)
theorem bt_len (s : ByteArray) : s.data.toList.length = s.size := by rw [Array.length_toList]; rfl
theorem splitK_le (sep : List UInt8) : ∀ (k : Nat) (s : List UInt8), ∀ p ∈ Lib.splitK sep 0 k s, p.length ≤ s.length
 | 0, s, p, h => by
  have h : p ∈ [s] := h; rw [List.mem_singleton.1 h]; exact Nat.le_refl _
 | k + 1, s, p, h => by
  unfold Lib.splitK at h
  split at h
  · rw [List.mem_singleton.1 h]; exact Nat.le_refl _
  · rcases List.mem_cons.1 h with h | h
    · rw [h, List.length_take]; omega
    · have := splitK_le sep k _ p h; rw [List.length_drop] at this; omega
theorem preS_app (a b : List EdgE) (x : Sum Int (List EdgE)) : preS a (preS b x) = preS (a ++ b) x := by
 cases x <;> simp [preS]
theorem cut_rest {s : List UInt8} (h : (Lib.cut s [10]).2.2 = true) : (Lib.cut s [10]).2.1.length < s.length := by
 unfold Lib.cut at h ⊢
 split
 · rename_i h0
   have := Lib.index_room s [10] h0; simp only [List.length_drop]; simp only [List.length_cons, List.length_nil] at this ⊢; omega
 · rename_i h0
   rw [if_neg h0] at h
   cases h
theorem cut_line {s : List UInt8} : (Lib.cut s [10]).1.length ≤ s.length := by
 unfold Lib.cut
 split
 · simp only [List.length_take]; omega
 · exact Nat.le_refl _
theorem splitB_of (s : ByteArray) : (Lib.splitB ⟨#[32]⟩ 0 (Lib.countB s ⟨#[32]⟩) s).map (fun b => b.data.toList) = Lib.split s.data.toList [32] := by
 rw [Lib.splitB_data]
 rfl
theorem readG_one {n : Nat} {s : List UInt8} (h : s ≠ []) (hc : (Lib.cut s [10]).2.2 = true) {e : EdgE} (he : lineT (Lib.cut s [10]).1 = some e) : readG (n + 1) s = preS [e] (readG n (Lib.cut s [10]).2.1) := by
 rw [readG_succ, if_neg h, hc, he]; simp only [Bool.true_eq_false, if_false]
 cases readG n (Lib.cut s [10]).2.1 <;> rfl
theorem readG_form {n : Nat} {s : List UInt8} (h : s ≠ []) (hc : (Lib.cut s [10]).2.2 = true) (he : lineT (Lib.cut s [10]).1 = none) : readG (n + 1) s = .inl 4 := by
 rw [readG_succ, if_neg h, hc, he]; simp
theorem readG_short {n : Nat} {s : List UInt8} (h : s ≠ []) (hc : (Lib.cut s [10]).2.2 = false) : readG (n + 1) s = .inl 5 := by
 rw [readG_succ, if_neg h, if_pos hc]
def lineT3 (x y z : ByteArray) : Option EdgE := (numE x.data.toList).bind fun a => (numE y.data.toList).bind fun b => (numE z.data.toList).bind fun c => some ⟨a, b, c⟩
theorem lineT_three {l : List UInt8} {P : List ByteArray} {x y z : ByteArray} (hP : P.map (fun b => b.data.toList) = Lib.split l [32]) (h3 : P = [x, y, z]) : lineT l = lineT3 x y z := by
 unfold lineT; rw [← hP, h3]
 rfl
theorem lineT_not {l : List UInt8} {P : List ByteArray} (hP : P.map (fun b => b.data.toList) = Lib.split l [32]) (h3 : P.length ≠ 3) : lineT l = none := by
 unfold lineT; rw [← hP]; rcases P with _ | ⟨x, _ | ⟨y, _ | ⟨z, _ | ⟨u, r⟩⟩⟩⟩
 · rfl
 · rfl
 · rfl
 · exact absurd rfl h3
 · rfl
set_option maxHeartbeats 8000000 in
set_option maxRecDepth 100000 in
theorem read_any (s : ByteArray) (hs : s.size ≤ 1000000) (w : World) (hw : TlyW w) : Calls Tryz.prog 14 #[.string s] w (ReadPost w (readE s.data.toList)) := by
 have HW := hd' hw; obtain ⟨R, hR⟩ := ex' (readE s.data.toList)
 rw [hR]; have HR := hd' hR; have hsz : s.data.toList.length = s.size := bt_len s; have HSZ := hd' hsz; clear hw hR hsz
 by_cases hl : 4000 < s.size
 · have hl2 : (4000 : Int) < (s.size : Int) := by omega
   have q1 : decide (4000 < s.size) = true := decide_eq_true hl; have HE : Hid (R = .inl 1) := hd' (by rw [← HR.out]; unfold readE; rw [if_pos (by rw [HSZ.out]; exact hl)])
   go_enter Tryz.func14, Tryz.ntmps14
   go_wp2_with fail
   first | go_ret | refine bodyPost_ret (results_tmp2 rfl _ _ _) rfl ?_
   rw [HE.out]; exact ⟨Below.refl _ _, rfl⟩
 · have hl2 : ¬ (4000 : Int) < (s.size : Int) := by omega
   have q1 : decide (4000 < s.size) = false := decide_eq_false hl; have HE : Hid (R = readG (s.size + 1) s.data.toList) := hd' (by rw [← HR.out]; unfold readE; rw [if_neg (by rw [HSZ.out]; exact hl), HSZ.out])
   go_enter Tryz.func14, Tryz.ntmps14
   go_wp2_with fail
   clear hl2 q1
   go_loopg [0, 4] s.size (fun gk s0 s4 wr => ∃ (r : ByteArray) (A : Option Addr) (n c k : Nat) (es : List EdgE), s0 = .string r ∧ s4 = .slice A n c ∧ Hid (es.length = n) ∧ Hid (Below w.heap.size w wr) ∧ Hid (wr.ownsRow w.heap.size 43 3 (.slice A n c) n (edL es)) ∧ Hid (R = preS es (readG k r.data.toList)) ∧ r.size < k ∧ r.size + n ≤ 4000 ∧ r.size ≤ gk)
   case atStart => exact ⟨s, none, 0, 0, s.size + 1, [], rfl, rfl, hd' rfl, hd' (Below.refl _ _), hd' (World.ownsRow_nil _ _ _ _), hd' (by rw [HE.out]; cases readG (s.size + 1) s.data.toList <;> rfl), by omega, by omega, Nat.le_refl _⟩
   case round =>
    obtain ⟨r, A, n, c, k, es, rfl, rfl, HN, HB, HO, HRD, hk, hrn, hgk⟩ := hrel
    by_cases h0 : r.size = 0
    · have q0 : ¬ 0 < r.size := by omega
      have q1 : ¬ (0 : Int) < (r.size : Int) := by omega
      have HF : Hid (R = .inr es) := hd' (by
       have e0 : r.data.toList = [] := List.length_eq_zero_iff.1 ((bt_len r).trans h0); obtain ⟨k', rfl⟩ : ∃ k', k = k' + 1 := ⟨k - 1, by omega⟩
       rw [HRD.out, e0, readG_succ, if_pos rfl]
       simp [preS])
      go_wp2_with fail
      first | go_ret | refine bodyPost_ret (results_tmp2 rfl _ _ _) rfl ?_
      rw [HF.out]; have h1 := HO.out; rw [← HN.out] at h1 ⊢; exact ⟨HB.out, A, c, rfl, h1⟩
    · have q0 : 0 < r.size := by omega
      have q1 : (0 : Int) < (r.size : Int) := by omega
      have hrne : r.data.toList ≠ [] := fun e => h0 (by have h := congrArg List.length e; rw [bt_len] at h; exact h)
      obtain ⟨m, hm⟩ := (HW.out.below HB.out).mx; obtain ⟨⟨l1, l2, okc⟩, hcu⟩ := ex' (Lib.cut r.data.toList [10])
      have HCC : Hid (Calls Tryz.prog 36 #[.string r, .string ⟨#[10]⟩] wr fun e w' => e = .returned (.tuple #[.string ⟨l1.toArray⟩, .string ⟨l2.toArray⟩, .bool okc]) ∧ ∃ n, w' = wr.drewN n) := hd' (by
       have h := Sh.strings_Cut r ⟨#[10]⟩ m wr (by omega) hm; rw [show ((⟨#[10]⟩ : ByteArray).data.toList) = [10] from rfl, hcu] at h
       exact h)
      obtain ⟨k', rfl⟩ : ∃ k', k = k' + 1 := ⟨k - 1, by omega⟩
      have HCT : Hid ((Lib.cut r.data.toList [10]).1 = l1 ∧ (Lib.cut r.data.toList [10]).2.2 = okc ∧ (Lib.cut r.data.toList [10]).2.1 = l2) := hd' (by rw [hcu]; exact ⟨rfl, rfl, rfl⟩)
      have hl1 : l1.length ≤ r.size := by
       have h := cut_line (s := r.data.toList); rw [hcu, bt_len] at h; exact h
      obtain ⟨b1, hb1⟩ := ex' (⟨l1.toArray⟩ : ByteArray)
      obtain ⟨b2, hb2⟩ := ex' (⟨l2.toArray⟩ : ByteArray)
      rw [hb1, hb2] at HCC; have HBB : Hid (b1.data.toList = l1 ∧ b2.data.toList = l2 ∧ b1.size = l1.length ∧ b2.size = l2.length) := hd' (by rw [← hb1, ← hb2]; exact ⟨rfl, rfl, (bt_len _).symm, (bt_len _).symm⟩); have HM := hd' hm; clear hcu hb1 hb2 hm
      go_wp2_with fail
      refine HCC.out.mono ?_; rintro e w5 ⟨rfl, nd, hw5⟩; have hbV : Below wr.heap.size wr w5 := by rw [hw5]; exact (Below.refl _ _).trans ⟨rfl, rfl, rfl, Nat.le_refl _, fun _ _ => rfl⟩
      have HBV := hd' hbV; have HBw := hd' (HB.out.trans (hbV.mono HB.out.size)); clear hw5 hbV HCC q0 q1; rcases okc with _ | _
      · have HE5 : Hid (R = .inl 5) := hd' (by rw [HRD.out, readG_short hrne HCT.out.2.1]; rfl)
        go_wp2_with fail
        first | go_ret | refine bodyPost_ret (results_tmp2 rfl _ _ _) rfl ?_
        rw [HE5.out]; exact ⟨HBw.out, rfl⟩
      have hl2s : l2.length < r.size := by
       have h := cut_rest (s := r.data.toList) HCT.out.2.1; rw [HCT.out.2.2, bt_len] at h; exact h
      obtain ⟨cn, hcn⟩ := ex' (Lib.countB b1 ⟨#[32]⟩)
      obtain ⟨P, hP⟩ := ex' (Lib.splitB ⟨#[32]⟩ 0 (Lib.countB b1 ⟨#[32]⟩) b1)
      have hPL : P.length = cn + 1 := by rw [← hP, ← hcn]; exact Lib.splitB_all ⟨#[32]⟩ (by decide) 0 _ b1 rfl
      have hPS : P.map (fun b => b.data.toList) = Lib.split l1 [32] := by rw [← hP, splitB_of, HBB.out.1]
      have HSP : Hid (Calls Tryz.prog 37 #[.string b1, .string ⟨#[32]⟩] w5 fun e w' => e = .returned (.slice (some ⟨w5.heap.size, 0, none⟩) (cn + 1) (cn + 1)) ∧ w' = w5.alloc (.cells (P.map Value.string).toArray 9)) := hd' (by
       have h := Sh.strings_Split b1 ⟨#[32]⟩ m w5 (by have := HBB.out.2.2.1; omega) ((HBV.out.cell (lt_of_cell HM.out)).trans HM.out) (by decide); rw [hP, hcn] at h
       exact h)
      have hcb : cn ≤ 4000 := by
       have := Lib.countB_le ⟨#[32]⟩ (by decide) b1.size b1 lr'; have := HBB.out.2.2.1; omega
      have HPL := hd' hPL; have HPSS := hd' hPS; clear hcn hP hPL hPS
      go_wp2_with fail
      refine HSP.out.mono ?_; rintro e w6 ⟨rfl, hw6⟩; obtain ⟨BPt, hBPt⟩ := ex' w5.heap.size
      rw [hBPt]; have HW6 : Hid (Below w5.heap.size w5 w6 ∧ Blk w6 BPt 9 (P.map Value.string)) := hd' (by rw [hw6, ← hBPt]; exact ⟨(Below.refl _ _).alloc lr' _, Blk.new w5 _ _⟩); have HBw6 := hd' (HBw.out.trans (HW6.out.1.mono HBw.out.size)); have hBPge : w.heap.size ≤ BPt := by rw [← hBPt]; exact HBw.out.size
      have HO6 := hd' (own_keep (own_keep HO.out HBV.out) HW6.out.1); have HBPge := hd' hBPge; clear HSP hw6 hBPt hBPge
      by_cases h3 : cn = 2
      · subst h3
        obtain ⟨p0, p1, p2, hP3⟩ : ∃ p0 p1 p2, P = [p0, p1, p2] := by
         have := HPL.out; rcases P with _ | ⟨x, _ | ⟨y, _ | ⟨z, _ | ⟨u, r⟩⟩⟩⟩ <;> simp at this
         exact ⟨x, y, z, rfl⟩
        have HPS : Hid (∀ p ∈ P, p.size ≤ 1000000) := hd' (fun p hp => by
         have h1 : p.data.toList ∈ Lib.split l1 [32] := by rw [← HPSS.out]; exact List.mem_map_of_mem (f := fun b : ByteArray => b.data.toList) hp
         have h2 := splitK_le [32] _ l1 _ h1; rw [bt_len] at h2
         omega)
        have HLT := hd' (lineT_three HPSS.out hP3); have HPK : Hid (Blk w6 BPt 9 [.string p0, .string p1, .string p2]) := hd' (by have h := HW6.out.2; rw [hP3] at h; exact h)
        go_upto_region 12 with fail
        obtain ⟨U, hU⟩ := ex' (w6.alloc (.cells #[.int .i64 0, .int .i64 0, .int .i64 0] 81))
        rw [hU]; obtain ⟨BN, hBN⟩ := ex' w6.heap.size
        rw [hBN]; have hbU : Below w6.heap.size w6 U := by rw [← hU]; exact (Below.refl _ _).alloc lr' _
        have HBNU : Hid (Blk U BN 81 [.int .i64 0, .int .i64 0, .int .i64 0]) := hd' (by rw [← hU, ← hBN]; exact Blk.new w6 _ _); have HPU := hd' (HPK.out.keep hbU); have HOU := hd' (own_keep HO6.out hbU); have HBU := hd' (HBw6.out.trans (hbU.mono HBw6.out.size)); have HBNge : Hid (w.heap.size ≤ BN) := hd' (by rw [← hBN]; exact HBw6.out.size); have HNEP : Hid (BN ≠ BPt) := hd' (fun e => by have := HPK.out.lt; omega); have HNEO : Hid ((Value.slice A n c).ownBlock ≠ some BN) := hd' (fun e => by have := (World.ownsRow.lt HO6.out BN e).2; omega)
        have HP3 := hd' hP3; clear hU hBN hbU
        go_wp2_with fail
        go_loopg [33] 3 (fun gk2 s33 wqx => ∃ (j : Nat) (a b c' : Int), j ≤ 3 ∧ s33 = .int .i64 j ∧ Hid (Blk wqx BN 81 [.int .i64 a, .int .i64 b, .int .i64 c']) ∧ Hid (Blk wqx BPt 9 [.string p0, .string p1, .string p2]) ∧ Hid (wqx.ownsRow w.heap.size 43 3 (.slice A n c) n (edL es)) ∧ Hid ((1 ≤ j → numE p0.data.toList = some a) ∧ (2 ≤ j → numE p1.data.toList = some b) ∧ (3 ≤ j → numE p2.data.toList = some c')) ∧ Hid (Below w.heap.size w wqx) ∧ 3 - j ≤ gk2)
        case atStart => exact ⟨0, 0, 0, 0, by omega, rfl, HBNU, HPU, HOU, hd' ⟨fun h => by omega, fun h => by omega, fun h => by omega⟩, HBU, Nat.le_refl _⟩
        case round =>
        rename World => wqx
        obtain ⟨j, a, b, c', hj, rfl, HBNq, HPq, HOq, HNM, HBq, hgk2⟩ := hrel; have hjc : j = 0 ∨ j = 1 ∨ j = 2 ∨ j = 3 := by omega
        rcases hjc with rfl | rfl | rfl | rfl
        · -- part 0
          have HNU := hd' (number_any p0 (HPS.out p0 (by rw [hP3]; simp)) wqx (HW.out.below HBq.out)); have pc := HPq.out.cell 0 rfl; have pl := HPq.out.lt
          go_wp2_with fail
          refine HNU.out.mono ?_; rintro e w7 ⟨hb7, v, bo, rfl, hns, hnn⟩; have HBN7 := hd' (HBNq.out.keep hb7); have HP7 := hd' (HPq.out.keep hb7); have HO7 := hd' (own_keep HOq.out hb7); have HB7 := hd' (HBq.out.trans (hb7.mono HBq.out.size)); have n0 := HBN7.out.cell 0 rfl; have nf := HBN7.out.free 0; have nl := HBN7.out.lt; rcases hj7 : numE p0.data.toList with _ | v'
          · obtain rfl := hnn hj7; have HE4 : Hid (R = .inl 4) := hd' (by rw [HRD.out, readG_form hrne HCT.out.2.1 (by rw [HCT.out.1, HLT.out]; exact show lineT3 p0 p1 p2 = none from by unfold lineT3; rw [hj7]; rfl)]; rfl); clear hns hnn hj7 hb7 pc pl
            go_wp2_with fail
            first | go_ret | refine bodyPost_ret (results_tmp2 rfl _ _ _) rfl ?_
            rw [HE4.out]; exact ⟨HB7.out.trans (gb_to_below (gb_setCell (gb_refl w7 (some BN)) 0 _) HBNge.out HB7.out.size), rfl⟩
          · obtain ⟨rfl, rfl⟩ := hns v' hj7; have gs := gb_setCell (gb_refl w7 (some BN)) 0 (.int .i64 v); have HB8 := hd' (HB7.out.trans (gb_to_below gs HBNge.out HB7.out.size)); have HBN8 := hd' (HBN7.out.set 0 (.int .i64 v)); have HP8 := hd' (HP7.out.set_ne HNEP.out 0 (.int .i64 v)); have HO8 := hd' (own_gb HO7.out gs HNEO.out); have HJ := hd' hj7; clear hns hnn hj7 hb7 gs pc pl
            go_wp2_with fail
            go_roundg (3 - (0 + 1))
            case measure => omega
            case rel => exact ⟨0 + 1, v, b, c', by omega, (by go_num), HBN8, HP8, HO8, hd' ⟨fun _ => HJ.out, fun h => by omega, fun h => by omega⟩, HB8, Nat.le_refl _⟩
        · -- part 1
          have HNU := hd' (number_any p1 (HPS.out p1 (by rw [hP3]; simp)) wqx (HW.out.below HBq.out)); have pc := HPq.out.cell 1 rfl; have pl := HPq.out.lt
          go_wp2_with fail
          refine HNU.out.mono ?_; rintro e w7 ⟨hb7, v, bo, rfl, hns, hnn⟩; have HBN7 := hd' (HBNq.out.keep hb7); have HP7 := hd' (HPq.out.keep hb7); have HO7 := hd' (own_keep HOq.out hb7); have HB7 := hd' (HBq.out.trans (hb7.mono HBq.out.size)); have n0 := HBN7.out.cell 1 rfl; have nf := HBN7.out.free 1; have nl := HBN7.out.lt; rcases hj7 : numE p1.data.toList with _ | v'
          · obtain rfl := hnn hj7; have HE4 : Hid (R = .inl 4) := hd' (by rw [HRD.out, readG_form hrne HCT.out.2.1 (by rw [HCT.out.1, HLT.out]; exact show lineT3 p0 p1 p2 = none from by unfold lineT3; rw [HNM.out.1 (by omega), hj7]; rfl)]; rfl); clear hns hnn hj7 hb7 pc pl
            go_wp2_with fail
            first | go_ret | refine bodyPost_ret (results_tmp2 rfl _ _ _) rfl ?_
            rw [HE4.out]; exact ⟨HB7.out.trans (gb_to_below (gb_setCell (gb_refl w7 (some BN)) 1 _) HBNge.out HB7.out.size), rfl⟩
          · obtain ⟨rfl, rfl⟩ := hns v' hj7; have gs := gb_setCell (gb_refl w7 (some BN)) 1 (.int .i64 v); have HB8 := hd' (HB7.out.trans (gb_to_below gs HBNge.out HB7.out.size)); have HBN8 := hd' (HBN7.out.set 1 (.int .i64 v)); have HP8 := hd' (HP7.out.set_ne HNEP.out 1 (.int .i64 v)); have HO8 := hd' (own_gb HO7.out gs HNEO.out); have HJ := hd' hj7; clear hns hnn hj7 hb7 gs pc pl
            go_wp2_with fail
            go_roundg (3 - (1 + 1))
            case measure => omega
            case rel => exact ⟨1 + 1, a, v, c', by omega, (by go_num), HBN8, HP8, HO8, hd' ⟨fun _ => HNM.out.1 (by omega), fun _ => HJ.out, fun h => by omega⟩, HB8, Nat.le_refl _⟩
        · -- part 2
          have HNU := hd' (number_any p2 (HPS.out p2 (by rw [hP3]; simp)) wqx (HW.out.below HBq.out)); have pc := HPq.out.cell 2 rfl; have pl := HPq.out.lt
          go_wp2_with fail
          refine HNU.out.mono ?_; rintro e w7 ⟨hb7, v, bo, rfl, hns, hnn⟩; have HBN7 := hd' (HBNq.out.keep hb7); have HP7 := hd' (HPq.out.keep hb7); have HO7 := hd' (own_keep HOq.out hb7); have HB7 := hd' (HBq.out.trans (hb7.mono HBq.out.size)); have n0 := HBN7.out.cell 2 rfl; have nf := HBN7.out.free 2; have nl := HBN7.out.lt; rcases hj7 : numE p2.data.toList with _ | v'
          · obtain rfl := hnn hj7; have HE4 : Hid (R = .inl 4) := hd' (by rw [HRD.out, readG_form hrne HCT.out.2.1 (by rw [HCT.out.1, HLT.out]; exact show lineT3 p0 p1 p2 = none from by unfold lineT3; rw [HNM.out.1 (by omega), HNM.out.2.1 (by omega), hj7]; rfl)]; rfl); clear hns hnn hj7 hb7 pc pl
            go_wp2_with fail
            first | go_ret | refine bodyPost_ret (results_tmp2 rfl _ _ _) rfl ?_
            rw [HE4.out]; exact ⟨HB7.out.trans (gb_to_below (gb_setCell (gb_refl w7 (some BN)) 2 _) HBNge.out HB7.out.size), rfl⟩
          · obtain ⟨rfl, rfl⟩ := hns v' hj7; have gs := gb_setCell (gb_refl w7 (some BN)) 2 (.int .i64 v); have HB8 := hd' (HB7.out.trans (gb_to_below gs HBNge.out HB7.out.size)); have HBN8 := hd' (HBN7.out.set 2 (.int .i64 v)); have HP8 := hd' (HP7.out.set_ne HNEP.out 2 (.int .i64 v)); have HO8 := hd' (own_gb HO7.out gs HNEO.out); have HJ := hd' hj7; clear hns hnn hj7 hb7 gs pc pl
            go_wp2_with fail
            go_roundg (3 - (2 + 1))
            case measure => omega
            case rel => exact ⟨2 + 1, a, b, v, by omega, (by go_num), HBN8, HP8, HO8, hd' ⟨fun _ => HNM.out.1 (by omega), fun _ => HNM.out.2.1 (by omega), fun _ => HJ.out⟩, HB8, Nat.le_refl _⟩
        · have a0 := HBNq.out.cell 0 rfl; have a1 := HBNq.out.cell 1 rfl; have a2 := HBNq.out.cell 2 rfl; have al := HBNq.out.lt; have HLE : Hid (lineT l1 = some ⟨a, b, c'⟩) := hd' (by rw [HLT.out]; unfold lineT3; rw [HNM.out.1 (by omega), HNM.out.2.1 (by omega), HNM.out.2.2 (by omega)]; rfl); have HRN : Hid (R = preS (es ++ [⟨a, b, c'⟩]) (readG k' b2.data.toList)) := hd' (by rw [HRD.out, readG_one hrne HCT.out.2.1 (by rw [HCT.out.1]; exact HLE.out), preS_app, HCT.out.2.2, HBB.out.2.1]); have HWq : Hid (w.heap.size ≤ wqx.heap.size) := hd' HBq.out.size
          have hb2s : b2.size < r.size := by have := HBB.out.2.2.2; omega
          go_wp2_with (first | (at_builtin; refine app_one rfl _ _ 36 43 3 24 _ Tryz.underlying36 infoEdg rfl (by decide) rfl w.heap.size _ n _ rfl (World.ownsRow.alloc HOq.out _) wqx.heap.size 1 rfl [.int .i64 a, .int .i64 b, .int .i64 c'] 43 (0, 0) (heap_alloc_new wqx _) rfl (by simp [Value.oneCell']) (by omega) (by omega) (by have := HWq.out; simp; omega) (wqx.heap.size + 1) (by simp) ?a1))
          case a1 =>
           intro g9 c9 w9 ho9 hg9 _ _; have hbA : Below w.heap.size w (wqx.alloc (.cells #[.int .i64 a, .int .i64 b, .int .i64 c'] 43)) := HBq.out.alloc HBq.out.size _; have HB9 := hd' (hbA.grown hg9 hbA.size (fun q e => (World.ownsRow.lt HOq.out q e).1)); have HO9 : Hid (w9.ownsRow w.heap.size 43 3 (.slice (some ⟨g9, 0, none⟩) (n + 1) c9) (n + 1) (edL (es ++ [⟨a, b, c'⟩]))) := hd' (by unfold edL at ho9 ⊢; rw [List.flatMap_append]; exact ho9); clear ho9 hg9 hbA a0 a1 a2 al
           go_wp2_with fail
           go_roundg b2.size
           case measure => omega
           case rel => exact ⟨b2, _, n + 1, c9, k', es ++ [⟨a, b, c'⟩], rfl, rfl, hd' (by rw [List.length_append, HN.out]; rfl), HB9, HO9, HRN, by omega, by omega, Nat.le_refl _⟩
      · have q3 : ((cn : Int) + 1 == 3) = false := by simp; omega
        have q4 : ¬ (cn : Int) + 1 = 3 := by omega
        have q5 : ¬ cn = 2 := h3; have HE4 : Hid (R = .inl 4) := hd' (by rw [HRD.out, readG_form hrne HCT.out.2.1 (by rw [HCT.out.1]; exact lineT_not HPSS.out (by have := HPL.out; omega))]; rfl)
        go_wp2_with fail
        first | go_ret | refine bodyPost_ret (results_tmp2 rfl _ _ _) rfl ?_
        rw [HE4.out]; exact ⟨HBw6.out, rfl⟩
end Go.Proofs.YtcdlgjhdbmmomaaGreatDoor
