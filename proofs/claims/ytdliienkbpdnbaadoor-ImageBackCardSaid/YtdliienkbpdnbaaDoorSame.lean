/- slices.Equal at functions and at lines, slices.EqualFunc at tables, where both read alike; the keep's sameImage at two images that read alike. -/
import Derived.Test.YtdliienkbpdnbaaDoorEqI
import Derived.Test.YtdliienkbpdnbaaDoorDecT
import Derived.Test.YtdliienkbpdnbaaDoorImgE
import Derived.WalkLawsBesides
import Derived.Deep.QuietTactic
import Derived.BigQuiet
namespace Go.Proofs.YtdliienkbpdnbaaDoor
open Go.RowKit
theorem rd_none {w : World} {B : Nat} {L : List Int} (h : RdG w B none (intsV .u8 L)) : L = [] := by
  rcases L with _ | ⟨u, L⟩
  · rfl
  · obtain ⟨b, o, e, -⟩ := h (by simp [intsV])
    cases e
set_option maxHeartbeats 1000000 in
set_option maxRecDepth 100000 in
theorem eqf_same (L : List (FnD)) (A B : Option Addr) (n c d : Nat) (w : World) (hA : RdG w w.heap.size A (funcsV L)) (hB : RdG w w.heap.size B (funcsV L)) (hn : n = L.length) (hnl : n ≤ 140737488355328) :
    Calls Tryd.prog 49 #[.slice A n c, .slice B n d] w fun e w' => e = .returned (.bool true) ∧ ∃ q, w' = w.drewN q := by
  have HA := Lib.hid hA
  have HB := Lib.hid hB
  have HN := Lib.hid hn
  clear hA hB hn
  go_enter Tryd.func49, Tryd.ntmps49
  go_wp2
  go_loopw [13] (fun i wr => ∃ k : Nat, k ≤ n ∧ i = .int .i64 k ∧ ∃ q, wr = w.drewN q) (fun i _ => n - (intOf i).toNat)
  case atStart => exact ⟨0, Nat.zero_le _, rfl, 0, rfl⟩
  case round =>
    obtain ⟨k, hk, rfl, q, rfl⟩ := hrel
    by_cases hlt : k < n
    · have hx : L[k]? = some (L[k]'(by have := HN.out; omega)) := List.getElem?_eq_getElem _
      generalize L[k]'(by have := HN.out; omega) = x at hx
      obtain ⟨nm, st, sz⟩ := x
      obtain ⟨b1, o1, rfl, hb1, p0, p1, p2⟩ := HA.out.at3 hx
      obtain ⟨b2, o2, rfl, hb2, r0, r1, r2⟩ := HB.out.at3 hx
      simp only at p0 p1 p2 r0 r1 r2
      clear hx
      go_wp2
      go_quiet (fail)
      go_wp2
      go_roundw
      case rel => exact ⟨k + 1, by omega, by go_num, _, rfl⟩
      case measure => simp [intOf]; omega
    · obtain rfl : k = n := by omega
      go_wp2
      go_ret
      exact ⟨rfl, q, rfl⟩
set_option maxHeartbeats 1000000 in
set_option maxRecDepth 100000 in
theorem eql_same (L : List (Int × Int)) (A B : Option Addr) (n c d : Nat) (w : World) (hA : RdG w w.heap.size A (linesV L)) (hB : RdG w w.heap.size B (linesV L)) (hn : n = L.length) (hnl : n ≤ 140737488355328) :
    Calls Tryd.prog 50 #[.slice A n c, .slice B n d] w fun e w' => e = .returned (.bool true) ∧ ∃ q, w' = w.drewN q := by
  have HA := Lib.hid hA
  have HB := Lib.hid hB
  have HN := Lib.hid hn
  clear hA hB hn
  go_enter Tryd.func50, Tryd.ntmps50
  go_wp2
  go_loopw [13] (fun i wr => ∃ k : Nat, k ≤ n ∧ i = .int .i64 k ∧ ∃ q, wr = w.drewN q) (fun i _ => n - (intOf i).toNat)
  case atStart => exact ⟨0, Nat.zero_le _, rfl, 0, rfl⟩
  case round =>
    obtain ⟨k, hk, rfl, q, rfl⟩ := hrel
    by_cases hlt : k < n
    · have hx : L[k]? = some (L[k]'(by have := HN.out; omega)) := List.getElem?_eq_getElem _
      generalize L[k]'(by have := HN.out; omega) = x at hx
      obtain ⟨la, ln⟩ := x
      obtain ⟨b1, o1, rfl, hb1, p0, p1⟩ := HA.out.at2 hx
      obtain ⟨b2, o2, rfl, hb2, r0, r1⟩ := HB.out.at2 hx
      simp only at p0 p1 r0 r1
      clear hx
      go_wp2
      go_quiet (fail)
      go_wp2
      go_roundw
      case rel => exact ⟨k + 1, by omega, by go_num, _, rfl⟩
      case measure => simp [intOf]; omega
    · obtain rfl : k = n := by omega
      go_wp2
      go_ret
      exact ⟨rfl, q, rfl⟩
set_option maxHeartbeats 2000000 in
set_option maxRecDepth 100000 in
theorem eqt_same (ts : List (List Int)) (A B : Option Addr) (n c d : Nat) (w : World) (hA : RdT w w.heap.size A ts) (hB : RdT w w.heap.size B ts) (hn : ts.length = n) (hnl : n ≤ 140737488355328) :
    Calls Tryd.prog 51 #[.slice A n c, .slice B n d, .func (.func 31) #[] #[]] w fun e w' => e = .returned (.bool true) ∧ ∃ q, w' = w.drewN q := by
  have HA := Lib.hid hA
  have HB := Lib.hid hB
  have HN := Lib.hid hn
  clear hA hB hn
  go_enter Tryd.func51, Tryd.ntmps51
  go_wp2_with fail
  go_loopw [17] (fun i wr => ∃ k : Nat, k ≤ n ∧ i = .int .i64 k ∧ ∃ q, wr = w.drewN q) (fun i _ => n - (intOf i).toNat)
  case atStart => exact ⟨0, Nat.zero_le _, rfl, 0, rfl⟩
  case round =>
    obtain ⟨k, hk, rfl, q, rfl⟩ := hrel
    by_cases hlt : k < n
    · have hx : ts[k]? = some (ts[k]'(by have := HN.out; omega)) := List.getElem?_eq_getElem _
      obtain ⟨t, ht⟩ : ∃ t, ts[k]'(by have := HN.out; omega) = t := ⟨_, rfl⟩
      rw [ht] at hx
      obtain ⟨vs, h1, h2, h3⟩ := HA.out
      obtain ⟨us, g1, g2, g3⟩ := HB.out
      obtain ⟨a, ca, i1, i2, i3, i4, i5⟩ := h3 k t hx
      obtain ⟨a', ca', j1, j2, j3, j4, j5⟩ := g3 k t hx
      obtain ⟨b1, o1, rfl, hb1, p0⟩ := h2.at i1
      obtain ⟨b2, o2, rfl, hb2, r0⟩ := g2.at j1
      obtain ⟨TL, hTL⟩ : ∃ z, t.length = z := ⟨_, rfl⟩
      have HEQ := Lib.hid (fun (W : World) (h : Below w.heap.size w W) => eqi_same t a a' TL ca TL ca' W ((i5.below h).more h.size) ((j5.below h).more h.size) hTL.symm hTL.symm (by omega))
      rw [hTL] at p0 r0
      clear hx ht h1 h2 h3 g1 g2 g3 i1 i2 i3 i4 i5 j1 j2 j3 j4 j5 hTL
      go_wp2_with fail
      refine (HEQ.out _ (below_drewN (Below.refl _ _) _)).mono ?_
      rintro e w2 ⟨rfl, q2, rfl⟩
      go_wp2_with fail
      go_roundw
      case rel => exact ⟨k + 1, by omega, by go_num, _, rfl⟩
      case measure => simp [intOf]; omega
    · obtain rfl : k = n := by omega
      go_wp2_with fail
      go_ret
      exact ⟨rfl, q, rfl⟩
set_option maxHeartbeats 4000000 in
set_option maxRecDepth 100000 in
theorem same_image (m : Img) (v v2 : ImgV) (w : World) (hI : ImgRd w w.heap.size m v) (hO : ImgOk m v) (hI2 : ImgRd w w.heap.size m v2) :
    Calls Tryd.prog 21 #[.agg (m.val v), .agg (m.val v2)] w fun e w' => e = .returned (.bool true) ∧ Below w.heap.size w w' := by
  obtain ⟨tA, tc, fA, fc, bA, bc, dA, dc, lA, lc⟩ := v
  obtain ⟨ta, tk, fa, fk, ba, bk, da, dk, la, lk⟩ := v2
  have htl := hO.tl
  have hfl := hO.fl
  have hbl := hO.bl
  have hdl := hO.dl
  have hll := hO.ll
  unfold Img.val
  obtain ⟨T, hT⟩ : ∃ T, m.text.length = T := ⟨_, rfl⟩
  obtain ⟨NF, hNF⟩ : ∃ T, m.funcs.length = T := ⟨_, rfl⟩
  obtain ⟨NB, hNB⟩ : ∃ T, m.tables.length = T := ⟨_, rfl⟩
  obtain ⟨ND, hND⟩ : ∃ T, m.data.length = T := ⟨_, rfl⟩
  obtain ⟨NL, hNL⟩ : ∃ T, m.lines.length = T := ⟨_, rfl⟩
  obtain ⟨EN, hEN⟩ : ∃ T, m.entry = T := ⟨_, rfl⟩
  have HT1 := Lib.hid (fun (W : World) (h : Below w.heap.size w W) => (conv_str (hI.text.below h) hO.tb (fun e => by have h0 := hI.text; simp only at e h0; subst e; exact rd_none h0) hT : (convert 23 9 (.slice tA T tc)).run Tryd.prog W = .ok (.string (strOf m.text)) W))
  have HT2 := Lib.hid (fun (W : World) (h : Below w.heap.size w W) => (conv_str (hI2.text.below h) hO.tb (fun e => by have h0 := hI2.text; simp only at e h0; subst e; exact rd_none h0) hT : (convert 23 9 (.slice ta T tk)).run Tryd.prog W = .ok (.string (strOf m.text)) W))
  have HF := Lib.hid (fun (W : World) (h : Below w.heap.size w W) => eqf_same m.funcs fA fa NF fc fk W ((hI.funcs.below h).more h.size) ((hI2.funcs.below h).more h.size) hNF.symm (by omega))
  have HL := Lib.hid (fun (W : World) (h : Below w.heap.size w W) => eql_same m.lines lA la NL lc lk W ((hI.lines.below h).more h.size) ((hI2.lines.below h).more h.size) hNL.symm (by omega))
  have HD := Lib.hid (fun (W : World) (h : Below w.heap.size w W) => eqi_same m.data dA da ND dc ND dk W ((hI.data.below h).more h.size) ((hI2.data.below h).more h.size) hND.symm hND.symm (by omega))
  have HB := Lib.hid (fun (W : World) (h : Below w.heap.size w W) => eqt_same m.tables bA ba NB bc bk W ((hI.tables.keep h).more h.size) ((hI2.tables.keep h).more h.size) hNB (by omega))
  simp only [hT, hNF, hNB, hND, hNL, hEN]
  clear hI hO hI2 htl hfl hbl hdl hll hT hNF hNB hND hNL hEN
  go_enter Tryd.func21, Tryd.ntmps21
  go_upto_region 1 with fail
  obtain ⟨W1, hW1⟩ : ∃ z, (w.alloc (.cells #[.slice tA T tc, .slice fA NF fc, .slice bA NB bc, .slice dA ND dc, .slice lA NL lc, .int .i64 EN] 29)).alloc (.cells #[.slice ta T tk, .slice fa NF fk, .slice ba NB bk, .slice da ND dk, .slice la NL lk, .int .i64 EN] 29) = z := ⟨_, rfl⟩
  rw [hW1]
  have hb1 : Below w.heap.size w W1 := by rw [← hW1]; exact ((Below.refl _ _).alloc (Nat.le_refl _) _).alloc (by simp) _
  have ha : Blk W1 w.heap.size 29 [.slice tA T tc, .slice fA NF fc, .slice bA NB bc, .slice dA ND dc, .slice lA NL lc, .int .i64 EN] := by rw [← hW1]; exact (Blk.new w _ _).alloc _
  have hb : Blk W1 (w.heap.size + 1) 29 [.slice ta T tk, .slice fa NF fk, .slice ba NB bk, .slice da ND dk, .slice la NL lk, .int .i64 EN] := by rw [← hW1]; exact Blk.new2 w _ _ _
  have a0 := ha.cell 0 rfl
  have b0 := hb.cell 0 rfl
  have a1 := ha.cell 1 rfl
  have b1 := hb.cell 1 rfl
  have a2 := ha.cell 2 rfl
  have b2 := hb.cell 2 rfl
  have a3 := ha.cell 3 rfl
  have b3 := hb.cell 3 rfl
  have a4 := ha.cell 4 rfl
  have b4 := hb.cell 4 rfl
  have a5 := ha.cell 5 rfl
  have b5 := hb.cell 5 rfl
  have al := ha.lt
  have bl := hb.lt
  have hc1 := HT1.out W1 hb1
  have hc2 := HT2.out W1 hb1
  have HB1 := Lib.hid hb1
  clear hW1 ha hb hb1
  go_wp2_with (first | (go_at_call 49; refine (HF.out _ HB1.out).mono ?_; rintro e w2 ⟨rfl, q2, rfl⟩) | (go_at_call 50; refine (HL.out _ (below_drewN HB1.out _)).mono ?_; rintro e w3 ⟨rfl, q3, rfl⟩) | (go_at_call 31; refine (HD.out _ (below_drewN HB1.out _)).mono ?_; rintro e w4 ⟨rfl, q4, rfl⟩) | (go_at_call 51; refine (HB.out _ (below_drewN HB1.out _)).mono ?_; rintro e w5 ⟨rfl, q5, rfl⟩))
  go_ret
  exact ⟨by simp, below_drewN HB1.out _⟩
end Go.Proofs.YtdliienkbpdnbaaDoor
