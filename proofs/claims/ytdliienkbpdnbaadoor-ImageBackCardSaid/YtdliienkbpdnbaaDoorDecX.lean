/- image.Decode, walked. -/
import Derived.Test.YtdliienkbpdnbaaDoorDecT
import Derived.Test.YtdliienkbpdnbaaDoorRegX
import Derived.Lib.Strings
import Derived.OwnWalk
namespace Go.Proofs.YtdliienkbpdnbaaDoor
open Go.RowKit
def DecPost (w : World) (b : List Int) (e : Ending) (w' : World) : Prop :=
  Below w.heap.size w w' ∧ ∃ v : ImgV, e = .returned (.tuple #[.agg ((decF b).1.val v), .int .i64 (decF b).2]) ∧ ImgRd w' w'.heap.size (decF b).1 v ∧ ImgOk (decF b).1 v
def zeroV : ImgV := ⟨none, 0, none, 0, none, 0, none, 0, none, 0⟩
theorem zero_rd (w : World) (B : Nat) : ImgRd w B Img.zero zeroV :=
  ⟨RdG.nil _ _ _, RdG.nil _ _ _, ⟨[], rfl, RdG.nil _ _ _, fun j t h => by simp [Img.zero] at h⟩, RdG.nil _ _ _, RdG.nil _ _ _⟩
theorem zero_ok : ImgOk Img.zero zeroV := by
  refine ⟨?_, ?_, ?_, ?_, ?_, ?_, ?_, ?_, ?_, ?_, ?_, ?_, ?_, ?_, ?_, ?_⟩ <;> simp [Img.zero, zeroV, N64]
theorem dec_bad {w w' : World} {b : List Int} {k : Int} (hb : Below w.heap.size w w') (hk : decF b = (Img.zero, k)) :
    DecPost w b (.returned (.tuple #[.agg #[.slice none 0 0, .slice none 0 0, .slice none 0 0, .slice none 0 0, .slice none 0 0, .int .i64 0], .int .i64 k])) w' :=
  ⟨hb, zeroV, by rw [hk]; rfl, by rw [hk]; exact zero_rd _ _, by rw [hk]; exact zero_ok⟩
theorem toListD (b : ByteArray) : b.toList = b.data.toList := Lib.toList_data b
theorem mag_eq (l : List Int) (hb : ByteL l) (k : Nat) (hk : k ≤ 4) : ((strOf l).toList == ((⟨#[98, 104, 49, 10]⟩ : ByteArray).extract 0 k).toList) = decide (l = magicL.take k) := by
  have e : ((⟨#[98, 104, 49, 10]⟩ : ByteArray).extract 0 k).toList = (strOf (magicL.take k)).toList := by
    have h : k = 0 ∨ k = 1 ∨ k = 2 ∨ k = 3 ∨ k = 4 := by omega
    rcases h with rfl | rfl | rfl | rfl | rfl <;> (rw [toListD, toListD]; decide)
  rw [e]
  have hm : ByteL (magicL.take k) := fun x hx => by
    have := List.mem_of_mem_take hx
    simp only [magicL, List.mem_cons, List.not_mem_nil, or_false] at this
    omega
  by_cases h : l = magicL.take k
  · rw [h]; simp
  · have : ¬ (strOf l).toList = (strOf (magicL.take k)).toList := by
      intro h2
      apply h
      rw [toListD, toListD] at h2
      have h3 : strOf l = strOf (magicL.take k) := by
        cases hA : strOf l
        cases hB : strOf (magicL.take k)
        rw [hA, hB] at h2
        simp only at h2
        rw [Array.toList_inj.1 h2]
      rw [← strL_of hb, ← strL_of hm, h3]
    simp [h, this]
theorem set6z {w : World} {R : Nat} {t : TypeId} {a0 a1 a2 a3 a4 a5 : Value} (h : Blk w R t [a0, a1, a2, a3, a4, a5]) (b0 b1 b2 b3 b4 b5 : Value) :
    Blk ((((((w.setCell ⟨R, 0, none⟩ b0).setCell ⟨R, 1, none⟩ b1).setCell ⟨R, 2, none⟩ b2).setCell ⟨R, 3, none⟩ b3).setCell ⟨R, 4, none⟩ b4).setCell ⟨R, 5, none⟩ b5) R t [b0, b1, b2, b3, b4, b5] ∧
    w.grownBy ((((((w.setCell ⟨R, 0, none⟩ b0).setCell ⟨R, 1, none⟩ b1).setCell ⟨R, 2, none⟩ b2).setCell ⟨R, 3, none⟩ b3).setCell ⟨R, 4, none⟩ b4).setCell ⟨R, 5, none⟩ b5) (some R) :=
  ⟨(((((h.set 0 b0).set 1 b1).set 2 b2).set 3 b3).set 4 b4).set 5 b5, gb_setCell (gb_setCell (gb_setCell (gb_setCell (gb_setCell (gb_setCell (gb_refl _ _) _ _) _ _) _ _) _ _) _ _) _ _⟩
/-- the beginning: the text has been read -/
theorem DecSt.init {W0 w : World} {B R X n c : Nat} {s : RS} {tx : List Int} {A : Option Addr} (hbel : Below B W0 w) (hr : RdrSt w B X s) (hb : ByteL s.inp) (hres : Blk w R 29 [.slice none 0 0, .slice none 0 0, .slice none 0 0, .slice none 0 0, .slice none 0 0, .int .i64 0]) (hBR : B ≤ R) (hn : tx.length = n)
    (ht : w.ownsRow B 5 1 (.slice A n c) n (intsV .u8 tx)) :
    DecSt W0 (w.alloc (.cells #[.slice A n c, .slice none 0 0, .slice none 0 0, .slice none 0 0, .slice none 0 0, .int .i64 0] 29)) B R X w.heap.size (w.heap.size + 1) (w.heap.size + 1) s ⟨tx, [], [], [], [], 0⟩ ⟨A, c, none, 0, none, 0, none, 0, none, 0⟩ := by
  subst hn
  have hR := hres.lt
  have hX : X < w.heap.size := by obtain ⟨_, _, r1, _⟩ := hr; exact r1.lt
  have hbw : Below w.heap.size w (w.alloc (.cells #[.slice A tx.length c, .slice none 0 0, .slice none 0 0, .slice none 0 0, .slice none 0 0, .int .i64 0] 29)) := (Below.refl _ _).alloc (Nat.le_refl _) _
  refine ⟨hbel.alloc (by omega) _, hr.keep hbw, hb, hres.keep hbw, Blk.new w _ _, ⟨hBR, by omega, by omega⟩, ⟨by omega, by omega, by omega, by simp⟩, own_keep ht hbw, fun g hg => by have := (World.ownsRow.lt ht g hg).2; omega, ⟨rfl, .inl ⟨rfl, rfl⟩⟩, fun g hg => (by cases hg),
    ⟨[], rfl, ⟨rfl, .inl ⟨rfl, rfl⟩⟩, fun g hg => (by cases hg), fun j t hj => by simp at hj⟩, ⟨rfl, .inl ⟨rfl, rfl⟩⟩, fun g hg => (by cases hg), ⟨rfl, .inl ⟨rfl, rfl⟩⟩, fun g hg => (by cases hg), by omega, Nat.le_refl _⟩
theorem RdrSt.blk {w : World} {B X : Nat} {s : RS} (h : RdrSt w B X s) : ∃ A c, Blk w X 96 [.slice A s.inp.length c, .bool s.sh] := by obtain ⟨A, c, h1, _⟩ := h; exact ⟨A, c, h1⟩
/-- the answer lies in a block of its own -/
theorem decs_fin {W0 w w' : World} {B R X M D H : Nat} {s : RS} {m : Img} {v : ImgV} (h : DecSt W0 w B R X M D H s m v) (hB : ImgB m) (hg : w.grownBy w' (some R)) : ImgRd w' w'.heap.size m v ∧ ImgOk m v := by
  have htR : ∀ q, some R = some q → TypB w q 29 := fun q e => by injection e with e; subst e; exact h.res.typ
  have hI := (h.img hB).2
  obtain ⟨t1, t2, -⟩ := own_rdgD (own_keepT h.tx hg htR (by decide))
  obtain ⟨f1, f2, -⟩ := own_rdgD (own_keepT h.fn hg htR (by decide))
  obtain ⟨d1, d2, -⟩ := own_rdgD (own_keepT h.dt hg htR (by decide))
  obtain ⟨l1, l2, -⟩ := own_rdgD (own_keepT h.ln hg htR (by decide))
  obtain ⟨vs, k1, k2, k3, k4⟩ := h.tb.keepT hg htR (by decide) (by decide)
  obtain ⟨b1, b2, -⟩ := own_rdgD k2
  refine ⟨⟨t1, f1, ⟨vs, k1, b1, fun j t hj => ?_⟩, d1, l1⟩, hI⟩
  obtain ⟨a, ca, i1, i2, i3⟩ := k4 j t hj
  obtain ⟨r1, r2, r3⟩ := own_rdgD i2
  have := (hB.bb t (List.mem_of_getElem? hj)).1
  exact ⟨a, ca, i1, r2, r3, by omega, r1⟩
theorem infoFn3 : (Tryd.prog.info? 36).map (fun i => (i.zero, i.size, i.bytes)) = some (some (.agg #[.string ⟨#[]⟩, .int .i64 0, .int .i64 0]), 3, 32) := by kernel_rfl
theorem infoLn2 : (Tryd.prog.info? 76).map (fun i => (i.zero, i.size, i.bytes)) = some (some (.agg #[.int .i64 0, .int .i64 0]), 2, 16) := by kernel_rfl
theorem infoI1 : (Tryd.prog.info? 3).map (fun i => (i.zero, i.size, i.bytes)) = some (some (.int .i64 0), 1, 8) := by kernel_rfl
theorem infoSl1 : (Tryd.prog.info? 26).map (fun i => (i.zero, i.size, i.bytes)) = some (some (.slice none 0 0), 1, 24) := by kernel_rfl
theorem own_nil {w : World} {b n c : Nat} {e : TypeId} {A : Option Addr} {nb : List Int} {xs : List Value} (h : w.ownsRow b e 1 (.slice A n c) n xs) (e1 : A = none) (hn : nb.length = n) : nb = [] := by
  subst e1
  rcases h.2 with ⟨_, e2⟩ | ⟨g, cap, cur, hv, -⟩
  · exact List.eq_nil_of_length_eq_zero (by rw [hn]; exact e2)
  · cases hv
theorem dec_fn14 {W0 w : World} {B R X M D H Y : Nat} {s : RS} {m : Img} {v : ImgV} {t : TypeId} {a0 a1 a2 b0 b1 b2 : Value} (h : DecSt W0 w B R X M D H s m v) (zb : Blk w Y t [a0, a1, a2]) (hY : H ≤ Y) :
    DecSt W0 (((w.setCell ⟨Y, 0, none⟩ b0).setCell ⟨Y, 1, none⟩ b1).setCell ⟨Y, 2, none⟩ b2) B R X M D H s m v ∧ Blk (((w.setCell ⟨Y, 0, none⟩ b0).setCell ⟨Y, 1, none⟩ b1).setCell ⟨Y, 2, none⟩ b2) Y t [b0, b1, b2] := by
  have hg : w.grownBy (((w.setCell ⟨Y, 0, none⟩ b0).setCell ⟨Y, 1, none⟩ b1).setCell ⟨Y, 2, none⟩ b2) (some Y) := gb_setCell (gb_setCell (gb_setCell (gb_refl _ _) _ _) _ _) _ _
  exact ⟨h.below (gb_to_below hg hY h.lt.2.2.2), ((zb.set 0 b0).set 1 b1).set 2 b2⟩
theorem decF_head {b : List Int} (h1 : ¬ 100000 < b.length) (h : b.take 4 ≠ magicL.take b.length) : decF b = (Img.zero, 4) := by unfold decF; rw [if_neg h1, if_pos h]
theorem decF_short {b : List Int} (h1 : ¬ 100000 < b.length) (h : b.take 4 = magicL.take b.length) (h2 : b.length < 4) : decF b = (Img.zero, 5) := by unfold decF; rw [if_neg h1, if_neg (by simp [h]), if_pos h2]
theorem decF_body {b : List Int} (h1 : ¬ 100000 < b.length) (h : b.take 4 = magicL.take b.length) (h2 : ¬ b.length < 4) : decF b = if (bodyR ⟨b.drop 4, false⟩).2.sh = true then (Img.zero, 5) else if (bodyR ⟨b.drop 4, false⟩).2.inp ≠ [] then (Img.zero, 4)
    else if checkE (bodyR ⟨b.drop 4, false⟩).1 ≠ 0 then (Img.zero, checkE (bodyR ⟨b.drop 4, false⟩).1) else ((bodyR ⟨b.drop 4, false⟩).1, 0) := by unfold decF; rw [if_neg h1, if_neg (by simp [h]), if_neg h2]
set_option maxHeartbeats 16000000 in
set_option maxRecDepth 100000 in
theorem imgDecode_any (b : List Int) (A : Option Addr) (n c : Nat) (w : World) (hn : b.length = n) (hb : ByteL b) (hA : A = none → b = []) (hc : n ≤ c) (hR : RdG w w.heap.size A (intsV .u8 b)) (hl : n ≤ 140737488355328) : Calls Tryd.prog 17 #[.slice A n c] w (DecPost w b) := by
  by_cases h1 : 100000 < n
  · have HB := Lib.hid (fun (w' : World) (h : Below w.heap.size w w') => dec_bad h (show decF b = (Img.zero, 1) by unfold decF; rw [if_pos (by omega)]))
    have h1I : (100000 : Int) < (n : Int) := by omega
    clear hR hb hA
    go_enter Tryd.func17, Tryd.ntmps17
    go_wp2
    refine bodyPost_ret (v := .tuple #[.agg #[.slice none 0 0, .slice none 0 0, .slice none 0 0, .slice none 0 0, .slice none 0 0, .int .i64 0], .int .i64 1]) (by simp [results, Tryd.results17, go_sem]) rfl (HB.out _ ((Below.refl _ _).alloc (Nat.le_refl _) _))
  have h1I : ¬ (100000 : Int) < (n : Int) := by omega
  obtain ⟨W1, hW1⟩ : ∃ W1, (w.alloc (.cells #[.slice none 0 0, .slice none 0 0, .slice none 0 0, .slice none 0 0, .slice none 0 0, .int .i64 0] 29)).alloc (.cells #[.slice A n c, .bool false] 96) = W1 := ⟨_, rfl⟩
  have hB1 : Below w.heap.size w W1 := by rw [← hW1]; exact ((Below.refl _ _).alloc (Nat.le_refl _) _).alloc (by simp) _
  have hR1 : Blk W1 w.heap.size 29 [.slice none 0 0, .slice none 0 0, .slice none 0 0, .slice none 0 0, .slice none 0 0, .int .i64 0] := by rw [← hW1]; exact (Blk.new w _ _).alloc _
  have hX1 : RdrSt W1 w.heap.size (w.heap.size + 1) ⟨b, false⟩ := by
    refine ⟨A, c, ?_, hR.below hB1, hA, by rw [hn]; exact hc, by rw [hn]; omega, by omega⟩
    rw [← hW1, hn]
    exact Blk.new2 w _ _ _
  have hzW : w.heap.size < W1.heap.size := by rw [← hW1]; simp; omega
  have HB1 := Lib.hid hB1
  have HR1 := Lib.hid hR1
  have HX1 := Lib.hid hX1
  have HBY := Lib.hid hb
  have HN := Lib.hid hn
  clear hB1 hR1 hX1 hR hb hA hn
  by_cases h4 : n < 4
  · have h4I : (n : Int) < 4 := by omega
    have hL4 : b.length < 4 := by rw [HN.out]; exact h4
    have hL1 : ¬ 100000 < b.length := by omega
    have hT4 : b.take 4 = b := List.take_of_length_le (by omega)
    have HCODE : Hid (∀ mc : Bool, decide (b = magicL.take n) = mc → decF b = (Img.zero, if mc = true then 5 else 4)) := Lib.hid fun mc h => by
      have hm : magicL.take n = magicL.take b.length := by rw [HN.out]
      cases mc
      · exact decF_head hL1 (by rw [hT4, ← hm]; simpa using h)
      · exact decF_short hL1 (by rw [hT4, ← hm]; simpa using h) hL4
    clear hL1 hT4 hL4
    rcases Nat.eq_zero_or_pos n with hn0 | hn0
    · subst hn0
      obtain rfl : b = [] := List.eq_nil_of_length_eq_zero HN.out
      have HC0 : Hid (decF [] = (Img.zero, 5)) := Lib.hid (HCODE.out true rfl)
      have HT : Hid (takeR ⟨([] : List Int), false⟩ 0 = (([] : List Int), ⟨[], false⟩)) := Lib.hid (by unfold takeR; rw [if_neg (by simp)]; rfl)
      go_enter Tryd.func17, Tryd.ntmps17
      go_wp2_with fail
      clear hW1
      refine (take_any w.heap.size (w.heap.size + 1) ⟨([] : List Int), false⟩ 0 W1 (by omega) HX1.out).mono ?_
      rw [HT.out]
      rintro e w3 ⟨A3, c3, rfl, ho3, hg3, hr3⟩
      have hl4 : (([] : List Int)).length = 0 := by rfl
      simp only [hl4] at ho3 ⊢
      obtain ⟨r3, r4, -⟩ := own_rdgD ho3
      obtain ⟨hs, hhs⟩ : ∃ z, strOf (([] : List Int)) = z := ⟨_, rfl⟩
      have hlb : ByteL (([] : List Int)) := HBY.out
      have hcv : (convert 23 9 (.slice A3 0 c3)).run Tryd.prog w3.drew = .ok (.string hs) w3.drew := by
        rw [← hhs]
        refine conv_str (w := w3.drew) r3 hlb (fun e => ?_) hl4
        subst e
        rcases ho3.2 with ⟨e1, e2⟩ | ⟨g, cap, cur, hv, -⟩
        · exact List.eq_nil_of_length_eq_zero (hl4.trans e2)
        · cases hv
      have hR3 : Blk w3 w.heap.size 29 [.slice none 0 0, .slice none 0 0, .slice none 0 0, .slice none 0 0, .slice none 0 0, .int .i64 0] := HR1.out.gb hg3 (by simp)
      have hmq := mag_eq (([] : List Int)) hlb 0 (by omega)
      rw [hhs] at hmq
      obtain ⟨mc, hmc⟩ : ∃ z, decide (([] : List Int) = magicL.take 0) = z := ⟨_, rfl⟩
      rw [hmc] at hmq
      obtain rfl : hs = ⟨#[]⟩ := by rw [← hhs]; rfl
      have x0 := hR3.cell 0 rfl
      have x1 := hR3.cell 1 rfl
      have x2 := hR3.cell 2 rfl
      have x3 := hR3.cell 3 rfl
      have x4 := hR3.cell 4 rfl
      have x5 := hR3.cell 5 rfl
      have f0 := hR3.free 0
      have f1 := hR3.free 1
      have f2 := hR3.free 2
      have f3 := hR3.free 3
      have f4 := hR3.free 4
      have f5 := hR3.free 5
      have xl := hR3.lt
      have HR3 := Lib.hid hR3
      have HMC := Lib.hid hmc
      have HB3 : Hid (Below w.heap.size w w3) := Lib.hid (HB1.out.trans (gb_to_below hg3 (by omega) HB1.out.size))
      have HX3 := Lib.hid hr3
      have hz3 : w.heap.size < w3.heap.size := xl
      clear hR3 hmc hhs ho3 r3 hg3 hr3
      go_upto_region 5 with fail
      clear hmq HMC
      go_region_law (fail)
      all_goals (go_wp2_with fail)
      have hz := set6z HR3.out (.slice none 0 0) (.slice none 0 0) (.slice none 0 0) (.slice none 0 0) (.slice none 0 0) (.int .i64 0)
      have hzb := hz.1.drew
      have z0 := hzb.cell 0 rfl
      have z1 := hzb.cell 1 rfl
      have z2 := hzb.cell 2 rfl
      have z3 := hzb.cell 3 rfl
      have z4 := hzb.cell 4 rfl
      have z5 := hzb.cell 5 rfl
      refine bodyPost_ret (v := .tuple #[.agg #[.slice none 0 0, .slice none 0 0, .slice none 0 0, .slice none 0 0, .slice none 0 0, .int .i64 0], .int .i64 5]) (by simp [results, Tryd.results17, go_sem, z0, z1, z2, z3, z4, z5]) rfl (dec_bad (HB3.out.trans (gb_to_below hz.2 (by omega) (by have := HB3.out.size; omega)).drew) HC0.out)
    have HT : Hid (takeR ⟨b, false⟩ (n : Int) = (b, ⟨[], false⟩)) := Lib.hid (by unfold takeR; rw [if_neg (by have := HN.out; simp; omega)]; have := HN.out; simp [← this])
    go_enter Tryd.func17, Tryd.ntmps17
    go_wp2_with fail
    clear hW1
    refine (take_any w.heap.size (w.heap.size + 1) ⟨b, false⟩ (n : Int) W1 (by omega) HX1.out).mono ?_
    rw [HT.out]
    rintro e w3 ⟨A3, c3, rfl, ho3, hg3, hr3⟩
    have hl4 : (b).length = n := by exact HN.out
    simp only [hl4] at ho3 ⊢
    obtain ⟨r3, r4, -⟩ := own_rdgD ho3
    obtain ⟨hs, hhs⟩ : ∃ z, strOf (b) = z := ⟨_, rfl⟩
    have hlb : ByteL (b) := HBY.out
    have hcv : (convert 23 9 (.slice A3 n c3)).run Tryd.prog w3.drew = .ok (.string hs) w3.drew := by
      rw [← hhs]
      refine conv_str (w := w3.drew) r3 hlb (fun e => ?_) hl4
      subst e
      rcases ho3.2 with ⟨e1, e2⟩ | ⟨g, cap, cur, hv, -⟩
      · exact List.eq_nil_of_length_eq_zero (hl4.trans e2)
      · cases hv
    have hR3 : Blk w3 w.heap.size 29 [.slice none 0 0, .slice none 0 0, .slice none 0 0, .slice none 0 0, .slice none 0 0, .int .i64 0] := HR1.out.gb hg3 (by simp)
    have hmq := mag_eq (b) hlb n (by omega)
    rw [hhs] at hmq
    obtain ⟨mc, hmc⟩ : ∃ z, decide (b = magicL.take n) = z := ⟨_, rfl⟩
    rw [hmc] at hmq
    have x0 := hR3.cell 0 rfl
    have x1 := hR3.cell 1 rfl
    have x2 := hR3.cell 2 rfl
    have x3 := hR3.cell 3 rfl
    have x4 := hR3.cell 4 rfl
    have x5 := hR3.cell 5 rfl
    have f0 := hR3.free 0
    have f1 := hR3.free 1
    have f2 := hR3.free 2
    have f3 := hR3.free 3
    have f4 := hR3.free 4
    have f5 := hR3.free 5
    have xl := hR3.lt
    have HR3 := Lib.hid hR3
    have HMC := Lib.hid hmc
    have HB3 : Hid (Below w.heap.size w w3) := Lib.hid (HB1.out.trans (gb_to_below hg3 (by omega) HB1.out.size))
    have HX3 := Lib.hid hr3
    have hz3 : w.heap.size < w3.heap.size := xl
    clear hR3 hmc hhs ho3 r3 hg3 hr3
    go_upto_region 5 with fail
    have h4c : n = 1 ∨ n = 2 ∨ n = 3 := by omega
    rcases mc with _ | _
    · rcases h4c with rfl | rfl | rfl
      all_goals go_region_law (fail)
      all_goals (go_wp2_with fail)
      all_goals
        have hz := set6z HR3.out (.slice none 0 0) (.slice none 0 0) (.slice none 0 0) (.slice none 0 0) (.slice none 0 0) (.int .i64 0)
        have hzb := hz.1.drew
        have z0 := hzb.cell 0 rfl
        have z1 := hzb.cell 1 rfl
        have z2 := hzb.cell 2 rfl
        have z3 := hzb.cell 3 rfl
        have z4 := hzb.cell 4 rfl
        have z5 := hzb.cell 5 rfl
        refine bodyPost_ret (v := .tuple #[.agg #[.slice none 0 0, .slice none 0 0, .slice none 0 0, .slice none 0 0, .slice none 0 0, .int .i64 0], .int .i64 4]) (by simp [results, Tryd.results17, go_sem, z0, z1, z2, z3, z4, z5]) rfl (dec_bad (HB3.out.trans (gb_to_below hz.2 (by omega) (by have := HB3.out.size; omega)).drew) (HCODE.out _ HMC.out))
    · rcases h4c with rfl | rfl | rfl
      all_goals go_region_law (fail)
      all_goals (go_wp2_with fail)
      all_goals
        have hz := set6z HR3.out (.slice none 0 0) (.slice none 0 0) (.slice none 0 0) (.slice none 0 0) (.slice none 0 0) (.int .i64 0)
        have hzb := hz.1.drew
        have z0 := hzb.cell 0 rfl
        have z1 := hzb.cell 1 rfl
        have z2 := hzb.cell 2 rfl
        have z3 := hzb.cell 3 rfl
        have z4 := hzb.cell 4 rfl
        have z5 := hzb.cell 5 rfl
        refine bodyPost_ret (v := .tuple #[.agg #[.slice none 0 0, .slice none 0 0, .slice none 0 0, .slice none 0 0, .slice none 0 0, .int .i64 0], .int .i64 5]) (by simp [results, Tryd.results17, go_sem, z0, z1, z2, z3, z4, z5]) rfl (dec_bad (HB3.out.trans (gb_to_below hz.2 (by omega) (by have := HB3.out.size; omega)).drew) (HCODE.out _ HMC.out))
  have h4I : ¬ (n : Int) < 4 := by omega
  have HCODE : Hid (decide (b.take 4 = magicL.take 4) = false → decF b = (Img.zero, 4)) := Lib.hid fun h => decF_head (by rw [HN.out]; exact h1) (by
    rw [List.take_of_length_le (l := magicL) (by rw [HN.out]; simp [magicL]; omega)]
    simpa [magicL] using h)
  have HBODY : Hid (decide (b.take 4 = magicL.take 4) = true → decF b = if (bodyR ⟨b.drop 4, false⟩).2.sh = true then (Img.zero, 5) else if (bodyR ⟨b.drop 4, false⟩).2.inp ≠ [] then (Img.zero, 4)
      else if checkE (bodyR ⟨b.drop 4, false⟩).1 ≠ 0 then (Img.zero, checkE (bodyR ⟨b.drop 4, false⟩).1) else ((bodyR ⟨b.drop 4, false⟩).1, 0)) := Lib.hid fun h => decF_body (by rw [HN.out]; exact h1) (by
    rw [List.take_of_length_le (l := magicL) (by rw [HN.out]; simp [magicL]; omega)]
    simpa [magicL] using h) (by rw [HN.out]; exact h4)
  have HT : Hid (takeR ⟨b, false⟩ 4 = (b.take 4, ⟨b.drop 4, false⟩)) := Lib.hid (by unfold takeR; rw [if_neg (by have := HN.out; simp; omega)]; rfl)
  go_enter Tryd.func17, Tryd.ntmps17
  go_wp2_with fail
  clear hW1
  refine (take_any w.heap.size (w.heap.size + 1) ⟨b, false⟩ 4 W1 (by omega) HX1.out).mono ?_
  rw [HT.out]
  rintro e w3 ⟨A3, c3, rfl, ho3, hg3, hr3⟩
  have hl4 : (b.take 4).length = 4 := by rw [List.length_take, HN.out]; omega
  simp only [hl4] at ho3 ⊢
  obtain ⟨r3, r4, -⟩ := own_rdgD ho3
  obtain ⟨hs, hhs⟩ : ∃ z, strOf (b.take 4) = z := ⟨_, rfl⟩
  have hlb : ByteL (b.take 4) := fun x hx => HBY.out x (List.mem_of_mem_take hx)
  have hcv : (convert 23 9 (.slice A3 4 c3)).run Tryd.prog w3.drew = .ok (.string hs) w3.drew := by
    rw [← hhs]
    refine conv_str (w := w3.drew) r3 hlb (fun e => ?_) hl4
    subst e
    rcases ho3.2 with ⟨e1, e2⟩ | ⟨g, cap, cur, hv, -⟩
    · exact List.eq_nil_of_length_eq_zero (hl4.trans e2)
    · cases hv
  have hR3 : Blk w3 w.heap.size 29 [.slice none 0 0, .slice none 0 0, .slice none 0 0, .slice none 0 0, .slice none 0 0, .int .i64 0] := HR1.out.gb hg3 (by simp)
  have hmq := mag_eq (b.take 4) hlb 4 (by omega)
  rw [hhs] at hmq
  obtain ⟨mc, hmc⟩ : ∃ z, decide (b.take 4 = magicL.take 4) = z := ⟨_, rfl⟩
  rw [hmc] at hmq
  have x0 := hR3.cell 0 rfl
  have x1 := hR3.cell 1 rfl
  have x2 := hR3.cell 2 rfl
  have x3 := hR3.cell 3 rfl
  have x4 := hR3.cell 4 rfl
  have x5 := hR3.cell 5 rfl
  have f0 := hR3.free 0
  have f1 := hR3.free 1
  have f2 := hR3.free 2
  have f3 := hR3.free 3
  have f4 := hR3.free 4
  have f5 := hR3.free 5
  have xl := hR3.lt
  have HR3 := Lib.hid hR3
  have HMC := Lib.hid hmc
  have HB3 : Hid (Below w.heap.size w w3) := Lib.hid (HB1.out.trans (gb_to_below hg3 (by omega) HB1.out.size))
  have HX3 := Lib.hid hr3
  have hz3 : w.heap.size < w3.heap.size := xl
  clear hR3 hmc hhs ho3 r3 hg3 hr3
  go_upto_region 5 with fail
  rcases mc with _ | _
  · go_region_law (fail)
    all_goals (go_wp2_with fail)
    have hz := set6z HR3.out (.slice none 0 0) (.slice none 0 0) (.slice none 0 0) (.slice none 0 0) (.slice none 0 0) (.int .i64 0)
    have hzb := hz.1.drew
    have z0 := hzb.cell 0 rfl
    have z1 := hzb.cell 1 rfl
    have z2 := hzb.cell 2 rfl
    have z3 := hzb.cell 3 rfl
    have z4 := hzb.cell 4 rfl
    have z5 := hzb.cell 5 rfl
    refine bodyPost_ret (v := .tuple #[.agg #[.slice none 0 0, .slice none 0 0, .slice none 0 0, .slice none 0 0, .slice none 0 0, .int .i64 0], .int .i64 4]) (by simp [results, Tryd.results17, go_sem, z0, z1, z2, z3, z4, z5]) rfl (dec_bad (HB3.out.trans (gb_to_below hz.2 (by omega) (by have := HB3.out.size; omega)).drew) (HCODE.out HMC.out))
  go_cut [34] (fun s34 wx => s34 = .bool false ∧ wx = w3.drew)
  case first =>
    go_region_law (fail)
    all_goals (go_wp2; go_meet)
    all_goals exact ⟨rfl, rfl⟩
  case rest =>
    obtain ⟨rfl, rfl⟩ := hcut
    obtain ⟨⟨n0, s1⟩, hs1⟩ : ∃ z, numR ⟨b.drop 4, false⟩ 2 = z := ⟨_, rfl⟩
    obtain ⟨⟨tx, s2⟩, hs2⟩ : ∃ z, takeR s1 n0 = z := ⟨_, rfl⟩
    obtain ⟨⟨FS, s3⟩, hs3⟩ : ∃ z, fnsR s2 = z := ⟨_, rfl⟩
    obtain ⟨⟨EN, s4⟩, hs4⟩ : ∃ z, numR s3 1 = z := ⟨_, rfl⟩
    obtain ⟨⟨TS, s5⟩, hs5⟩ : ∃ z, tbsR s4 = z := ⟨_, rfl⟩
    obtain ⟨⟨DS, s6⟩, hs6⟩ : ∃ z, dtaR s5 = z := ⟨_, rfl⟩
    obtain ⟨⟨LS, s7⟩, hs7⟩ : ∃ z, lnsR s6 = z := ⟨_, rfl⟩
    have htx : textR ⟨b.drop 4, false⟩ = (tx, s2) := by unfold textR; rw [hs1]; exact hs2
    have HBR : Hid (bodyR ⟨b.drop 4, false⟩ = (⟨tx, FS, TS, DS, LS, EN⟩, s7)) := Lib.hid (by unfold bodyR; simp only [htx, hs3, hs4, hs5, hs6, hs7])
    have hbd : ByteL (b.drop 4) := fun x hx => HBY.out x (List.mem_of_mem_drop hx)
    have hbl : (b.drop 4).length ≤ 1000000 := by rw [List.length_drop, HN.out]; omega
    have hn0 := numR_bd2 (s := ⟨b.drop 4, false⟩) hbd
    have hsb1 := (numR_reads2.bytes ⟨b.drop 4, false⟩ hbd)
    have hsb2 := (takeR_bytes n0 (s := s1) (by rw [hs1] at hsb1; exact hsb1)).1
    simp only [hs1] at hn0 hsb1
    rw [hs2] at hsb2
    have HIB : Hid (ImgB ⟨tx, FS, TS, DS, LS, EN⟩) := Lib.hid (by have h := bodyR_bd ⟨b.drop 4, false⟩ hbd hbl; rw [HBR.out] at h; exact h)
    have HS1 := Lib.hid hs1
    have HS2 := Lib.hid hs2
    have HS3 := Lib.hid hs3
    have HS4 := Lib.hid hs4
    have HS5 := Lib.hid hs5
    have HS6 := Lib.hid hs6
    have HS7 := Lib.hid hs7
    have HSB2 : Hid (ByteL s2.inp) := Lib.hid hsb2
    have HBD := Lib.hid hbd
    clear hs1 hs2 hs3 hs4 hs5 hs6 hs7 htx hbl hsb2 hsb1 hbd hcv x0 x1 x2 x3 x4 x5 f0 f1 f2 f3 f4 f5 hlb
    go_wp2_with fail
    clear hmq
    refine (rnum_any w.heap.size (w.heap.size + 1) ⟨b.drop 4, false⟩ 2 w3.drew (by decide) HBD.out HX3.out).mono ?_
    rw [HS1.out]
    rintro e w4 ⟨rfl, hg4, hr4⟩
    simp only at hr4 ⊢
    have HR4 := Lib.hid hr4
    have HG4 := Lib.hid hg4
    clear hr4 hg4
    go_wp2_with fail
    refine (take_any w.heap.size (w.heap.size + 1) s1 n0 w4 hn0.1 HR4.out).mono ?_
    rw [HS2.out]
    rintro e w5 ⟨A5, c5, rfl, ho5, hg5, hr5⟩
    simp only at ho5 hr5 ⊢
    obtain ⟨TL, hTL⟩ : ∃ z, tx.length = z := ⟨_, rfl⟩
    rw [hTL] at ho5 ⊢
    have hgg := gb_trans (a := w3.drew) HG4.out hg5
    have hb5 : Below w.heap.size w w5 := HB3.out.trans ((Below.refl w.heap.size w3).drew.trans (gb_to_below hgg (by omega) (by have := HB3.out.size; exact this)))
    have hR5 : Blk w5 w.heap.size 29 [.slice none 0 0, .slice none 0 0, .slice none 0 0, .slice none 0 0, .slice none 0 0, .int .i64 0] := Blk.gb (w := w3.drew) HR3.out hgg (by simp)
    have hst := DecSt.init hb5 hr5 HSB2.out hR5 (Nat.le_refl _) hTL (own_more ho5 (by have := hb5.size; have := HG4.out.size; have := HB3.out.size; have h7 : w3.drew.heap.size = w3.heap.size := rfl; omega))
    obtain ⟨w6, hw6⟩ : ∃ z, w5.alloc (.cells #[.slice A5 TL c5, .slice none 0 0, .slice none 0 0, .slice none 0 0, .slice none 0 0, .int .i64 0] 29) = z := ⟨_, rfl⟩
    rw [hw6] at hst
    obtain ⟨M, hM⟩ : ∃ z, w5.heap.size = z := ⟨_, rfl⟩
    rw [hM] at hst
    obtain ⟨D0, hD0⟩ : ∃ z, M + 1 = z := ⟨_, rfl⟩
    rw [hD0] at hst
    have HST := Lib.hid hst
    have HTL := Lib.hid hTL
    have HW6 := Lib.hid hw6
    have HM := Lib.hid hM
    clear hw6 hM hD0
    clear hst hr5 hg5 ho5 hgg hb5 hR5 HR4 HG4 HR3 HB3 HX3 HB1 HR1 HX1 hTL
    go_wp2_with fail
    rw [HW6.out, HM.out]
    clear HW6 HM
    refine (HST.out.num 1 (by decide)).mono ?_
    rintro e wr ⟨rfl, hgn, hst⟩
    have hk0 := numR_bd1 HSB2.out
    clear hgn
    obtain ⟨⟨k0, sa⟩, hka⟩ : ∃ z, numR s2 1 = z := ⟨_, rfl⟩
    rw [hka] at hst hk0 ⊢
    simp only at hst hk0 ⊢
    obtain ⟨K0, rfl⟩ := Int.eq_ofNat_of_zero_le hk0.1
    have HF0 : Hid (([] : List FnD) ++ (funcsR K0 sa 0).1 = FS ∧ (funcsR K0 sa 0).2 = s3) := Lib.hid (by
      have h := HS3.out
      unfold fnsR at h
      rw [hka] at h
      simp only [Int.toNat_natCast] at h
      rw [h]
      exact ⟨rfl, rfl⟩)
    have HST0 := Lib.hid hst
    have hK0 : K0 ≤ 255 := by omega
    clear hst hka HST hk0
    go_upto_block 0 with fail
    go_cut [] (fun wx => ∃ (fA : Option Addr) (fc D H : Nat), Hid (DecSt w wx w.heap.size w.heap.size (w.heap.size + 1) M D H s3 ⟨tx, FS, [], [], [], 0⟩ ⟨A5, c5, fA, fc, none, 0, none, 0, none, 0⟩))
    case first =>
      go_wp2_with fail
      go_loopg [7, 8] K0 (fun gk v7 v8 wr => ∃ (k : Nat) (p : Int) (acc : List FnD) (s : RS) (fA : Option Addr) (fc D H : Nat), v7 = .int .i64 p ∧ v8 = .int .i64 (k : Int) ∧ Hid (DecSt w wr w.heap.size w.heap.size (w.heap.size + 1) M D H s ⟨tx, acc, [], [], [], 0⟩ ⟨A5, c5, fA, fc, none, 0, none, 0, none, 0⟩) ∧ 0 ≤ p ∧ p + 65536 * k ≤ 65536 * 256 ∧ acc.length + k ≤ 255 ∧ Hid (acc ++ (funcsR k s p).1 = FS ∧ (funcsR k s p).2 = s3) ∧ k ≤ gk)
      case atStart => exact ⟨K0, 0, [], sa, none, 0, D0, D0, rfl, rfl, HST0, by omega, by omega, by simp; omega, HF0, Nat.le_refl _⟩
      case round =>
        clear HST0 HF0
        obtain ⟨k, p, acc, s, fA, fc, D, H, rfl, rfl, HD, hp0, hpb, hal, HF, hgk⟩ := hrel
        obtain ⟨Ar, cr, hbr⟩ := HD.out.rdr.blk
        have y1 := hbr.cell 1 rfl
        have yl := hbr.lt
        clear hbr
        obtain ⟨sh, hsh⟩ : ∃ z, s.sh = z := ⟨_, rfl⟩
        rw [hsh] at y1
        have HSH := Lib.hid hsh
        clear hsh
        rcases k with _ | k
        case zero =>
          have HE : Hid (acc = FS ∧ s = s3) := Lib.hid (by have h := HF.out; simpa [funcsR] using h)
          go_wp2
          go_meet
          obtain ⟨rfl, rfl⟩ := HE.out
          exact ⟨fA, fc, D, H, HD⟩
        rcases sh with _ | _
        case true =>
          have HE : Hid (acc = FS ∧ s = s3) := Lib.hid (by have h := HF.out; simp only [funcsR] at h; rw [if_pos HSH.out] at h; simpa using h)
          go_wp2
          go_meet
          obtain ⟨rfl, rfl⟩ := HE.out
          exact ⟨fA, fc, D, H, HD⟩
        case false =>
          obtain ⟨⟨a1, sb⟩, hA1⟩ : ∃ z, numR s 1 = z := ⟨_, rfl⟩
          obtain ⟨⟨nb, sc⟩, hA2⟩ : ∃ z, takeR sb a1 = z := ⟨_, rfl⟩
          obtain ⟨⟨z1, sd⟩, hA3⟩ : ∃ z, numR sc 2 = z := ⟨_, rfl⟩
          have hbs := HD.out.byt
          have ha1 := numR_bd1 hbs
          have hbb := numR_reads1.bytes s hbs
          simp only [hA1] at ha1 hbb
          have hbc := takeR_bytes a1 hbb
          simp only [hA2] at hbc
          have hz1 := numR_bd2 hbc.1
          simp only [hA3] at hz1
          obtain ⟨NBL, hNBL⟩ : ∃ z, nb.length = z := ⟨_, rfl⟩
          obtain ⟨nm, hnm⟩ : ∃ z, strOf nb = z := ⟨_, rfl⟩
          have HF2 : Hid ((acc ++ [⟨nm, p, z1⟩]) ++ (funcsR k sd (p + z1)).1 = FS ∧ (funcsR k sd (p + z1)).2 = s3) := Lib.hid (by
            have h := HF.out
            simp only [funcsR] at h
            rw [if_neg (by rw [HSH.out]; decide)] at h
            simp only [hA1, hA2, hA3, hnm] at h
            rw [List.append_assoc]
            exact h)
          have HA1 := Lib.hid hA1
          have HA2 := Lib.hid hA2
          have HA3 := Lib.hid hA3
          have HNB := Lib.hid (And.intro hNBL (And.intro hnm hbc.2))
          have ha10 : 0 ≤ a1 := ha1.1
          clear hA1 hA2 hA3 hNBL hnm hbc hbb hbs HF ha1
          go_upto_region 14 with fail
          clear y1 yl
          go_cut [9] (fun v9 wx => ∃ Y, v9 = .pointer (some ⟨Y, 0, none⟩) ∧ Hid (DecSt w wx w.heap.size w.heap.size (w.heap.size + 1) M D H sd ⟨tx, acc, [], [], [], 0⟩ ⟨A5, c5, fA, fc, none, 0, none, 0, none, 0⟩ ∧ Blk wx Y 36 [.string nm, .int .i64 p, .int .i64 z1]))
          case first =>
            refine wp_region_W (fun _ => True) 11 (by kernel_rfl) trivial (fun hHeld => ?_)
            have hd0 := HD.out.keep (Below.refl wr.heap.size wr).drew
            refine wpW_take 0 (v := ?_) rfl (by kernel_rfl) (by kernel_rfl) (by kernel_rfl) (by kernel_rfl) (fun _ _ _ h => h) (Or.inl ⟨by rfl, ?_⟩) hHeld ?_
            rotate_left
            · intro w hSw
              try dsimp only at hSw
              go_simp
              try with_reducible rfl
            try simp only [Act.put, List.setIfInBounds_toArray, List.set_cons_zero, List.set_cons_succ]
            refine wpW_take 1 (v := ?_) rfl (by kernel_rfl) (by kernel_rfl) (by kernel_rfl) (by kernel_rfl) (fun _ _ _ h => h) (Or.inl ⟨by rfl, ?_⟩) hHeld ?_
            rotate_left
            · intro w hSw
              try dsimp only at hSw
              go_simp
              try with_reducible rfl
            try simp only [Act.put, List.setIfInBounds_toArray, List.set_cons_zero, List.set_cons_succ]
            refine wpW_take 5 (v := ?_) rfl (by kernel_rfl) (by kernel_rfl) (by kernel_rfl) (by kernel_rfl) (fun _ _ _ h => h) (Or.inl ⟨by rfl, ?_⟩) hHeld ?_
            rotate_left
            · intro w hSw
              try dsimp only at hSw
              go_simp
              try with_reducible rfl
            try simp only [Act.put, List.setIfInBounds_toArray, List.set_cons_zero, List.set_cons_succ]
            refine wpW_take 6 (v := ?_) rfl (by kernel_rfl) (by kernel_rfl) (by kernel_rfl) (by kernel_rfl) (fun _ _ _ h => h) (Or.inl ⟨by rfl, ?_⟩) hHeld ?_
            rotate_left
            · intro w hSw
              try dsimp only at hSw
              go_simp
              try with_reducible rfl
            try simp only [Act.put, List.setIfInBounds_toArray, List.set_cons_zero, List.set_cons_succ]
            refine wpW_all [2, 9] (by kernel_rfl) (by simp) ?_
            refine AllW.cons (i := 2) rfl (fun K hK => ?_) ?_
            · skip
              go_simp
              refine (hd0.num 1 (by decide)).mono ?_
              rw [HA1.out]
              rintro e w1 ⟨rfl, hg1, hd1⟩
              simp only at hd1 ⊢
              refine hK.out _ _ (by trivial) (fun hHeld => ?_)
              clear hK K
              try simp only [Act.put, List.setIfInBounds_toArray, List.set_cons_zero, List.set_cons_succ]
              refine wpW_all [3, 9] (by kernel_rfl) (by simp) ?_
              refine AllW.cons (i := 3) rfl (fun K hK => ?_) ?_
              · skip
                go_simp
                refine (hd1.take a1 ha10).mono ?_
                rw [HA2.out]
                rintro e w2 ⟨At, ct, rfl, ro2, hg2, hd2⟩
                simp only at hd2 ro2 ⊢
                rw [HNB.out.1] at ro2 ⊢
                refine hK.out _ _ (by trivial) (fun hHeld => ?_)
                clear hK K
                try simp only [Act.put, List.setIfInBounds_toArray, List.set_cons_zero, List.set_cons_succ]
                refine wpW_all [4, 7, 9] (by kernel_rfl) (by simp) ?_
                refine AllW.cons (i := 4) rfl (fun K hK => ?_) ?_
                · skip
                  have hcv3 : (convert 23 9 (.slice At NBL ct)).run Tryd.prog w2 = .ok (.string nm) w2 := by rw [← HNB.out.2.1]; exact conv_str (own_rdgD ro2).1 HNB.out.2.2 (fun e => own_nil ro2 e HNB.out.1) HNB.out.1
                  go_simp
                  clear hcv3
                  refine hK.out _ _ (by trivial) (fun hHeld => ?_)
                  clear hK K
                  try simp only [Act.put, List.setIfInBounds_toArray, List.set_cons_zero, List.set_cons_succ]
                  refine wpW_all [7, 9] (by kernel_rfl) (by simp) ?_
                  refine AllW.cons (i := 7) rfl (fun K hK => ?_) ?_
                  · skip
                    go_simp
                    refine (hd2.num 2 (by decide)).mono ?_
                    rw [HA3.out]
                    rintro e w4 ⟨rfl, hg4, hd4⟩
                    simp only at hd4 ⊢
                    have ro4 := own_keepT ro2 hg4 (fun q e => by injection e with e; subst e; exact hd2.rdr.typ) (by decide)
                    refine hK.out _ _ (by trivial) (fun hHeld => ?_)
                    clear hK K
                    try simp only [Act.put, List.setIfInBounds_toArray, List.set_cons_zero, List.set_cons_succ]
                    refine wpW_take 8 (v := ?_) rfl (by kernel_rfl) (by kernel_rfl) (by kernel_rfl) (by kernel_rfl) (fun _ _ _ h => h) (Or.inl ⟨by rfl, ?_⟩) hHeld ?_
                    rotate_left
                    · intro w hSw
                      try dsimp only at hSw
                      go_simp
                      try with_reducible rfl
                    try simp only [Act.put, List.setIfInBounds_toArray, List.set_cons_zero, List.set_cons_succ]
                    refine wpW_one 9 rfl (by kernel_rfl) (fun K hK => ?_)
                    go_simp
                    have hd5 := hd4.keep ((Below.refl w4.heap.size w4).alloc (Nat.le_refl _) (.cells #[.string ⟨#[]⟩, .int .i64 0, .int .i64 0] 36))
                    have zb5 : Blk (w4.alloc (.cells #[.string ⟨#[]⟩, .int .i64 0, .int .i64 0] 36)) (w4.heap.size) 36 [.string ⟨#[]⟩, .int .i64 0, .int .i64 0] := Blk.new w4 _ _
                    have hY5 : H ≤ w4.heap.size := hd4.lt.2.2.2
                    have ro5 := World.ownsRow.alloc ro4 (.cells #[.string ⟨#[]⟩, .int .i64 0, .int .i64 0] 36)
                    have zl5 := zb5.lt
                    have zc5_0 := zb5.cell 0 rfl
                    have zc5_1 := zb5.cell 1 rfl
                    have zc5_2 := zb5.cell 2 rfl
                    have zf5_0 := zb5.free 0
                    have zf5_1 := zb5.free 1
                    have zf5_2 := zb5.free 2
                    refine hK.out _ _ (by trivial) (fun hHeld => ?_)
                    clear hK K
                    try simp only [Act.put, List.setIfInBounds_toArray, List.set_cons_zero, List.set_cons_succ]
                    refine wpW_one 10 rfl (by kernel_rfl) (fun K hK => ?_)
                    go_simp
                    refine hK.out _ _ (by trivial) (fun hHeld => ?_)
                    clear hK K
                    try simp only [Act.put, List.setIfInBounds_toArray, List.set_cons_zero, List.set_cons_succ]
                    refine wpW_done (by kernel_rfl) ?_ _
                    go_wp2
                    go_meet
                    exact ⟨_, rfl, Lib.hid ⟨hd4.keep ((Below.refl _ _).alloc (Nat.le_refl _) _), Blk.new _ _ _⟩⟩
                  refine AllW.cons (i := 9) rfl (fun K hK => ?_) AllW.nil
                  go_simp
                  have hd7 := hd2.keep ((Below.refl w2.heap.size w2).alloc (Nat.le_refl _) (.cells #[.string ⟨#[]⟩, .int .i64 0, .int .i64 0] 36))
                  have zb7 : Blk (w2.alloc (.cells #[.string ⟨#[]⟩, .int .i64 0, .int .i64 0] 36)) (w2.heap.size) 36 [.string ⟨#[]⟩, .int .i64 0, .int .i64 0] := Blk.new w2 _ _
                  have hY7 : H ≤ w2.heap.size := hd2.lt.2.2.2
                  have ro7 := World.ownsRow.alloc ro2 (.cells #[.string ⟨#[]⟩, .int .i64 0, .int .i64 0] 36)
                  have zl7 := zb7.lt
                  have zc7_0 := zb7.cell 0 rfl
                  have zc7_1 := zb7.cell 1 rfl
                  have zc7_2 := zb7.cell 2 rfl
                  have zf7_0 := zb7.free 0
                  have zf7_1 := zb7.free 1
                  have zf7_2 := zb7.free 2
                  refine hK.out _ _ (by trivial) (fun hHeld => ?_)
                  clear hK K
                  try simp only [Act.put, List.setIfInBounds_toArray, List.set_cons_zero, List.set_cons_succ]
                  refine wpW_one 7 rfl (by kernel_rfl) (fun K hK => ?_)
                  go_simp
                  refine (hd7.num 2 (by decide)).mono ?_
                  rw [HA3.out]
                  rintro e w8 ⟨rfl, hg8, hd8⟩
                  simp only at hd8 ⊢
                  have ro8 := own_keepT ro7 hg8 (fun q e => by injection e with e; subst e; exact hd7.rdr.typ) (by decide)
                  have zb8 := zb7.keepT hg8 (fun q e => by injection e with e; subst e; exact hd7.rdr.typ) (by decide)
                  have zl8 := zb8.lt
                  have zc8_0 := zb8.cell 0 rfl
                  have zc8_1 := zb8.cell 1 rfl
                  have zc8_2 := zb8.cell 2 rfl
                  have zf8_0 := zb8.free 0
                  have zf8_1 := zb8.free 1
                  have zf8_2 := zb8.free 2
                  refine hK.out _ _ (by trivial) (fun hHeld => ?_)
                  clear hK K
                  try simp only [Act.put, List.setIfInBounds_toArray, List.set_cons_zero, List.set_cons_succ]
                  refine wpW_take 8 (v := ?_) rfl (by kernel_rfl) (by kernel_rfl) (by kernel_rfl) (by kernel_rfl) (fun _ _ _ h => h) (Or.inl ⟨by rfl, ?_⟩) hHeld ?_
                  rotate_left
                  · intro w hSw
                    try dsimp only at hSw
                    go_simp
                    try with_reducible rfl
                  try simp only [Act.put, List.setIfInBounds_toArray, List.set_cons_zero, List.set_cons_succ]
                  refine wpW_one 10 rfl (by kernel_rfl) (fun K hK => ?_)
                  go_simp
                  refine hK.out _ _ (by trivial) (fun hHeld => ?_)
                  clear hK K
                  try simp only [Act.put, List.setIfInBounds_toArray, List.set_cons_zero, List.set_cons_succ]
                  refine wpW_done (by kernel_rfl) ?_ _
                  go_wp2
                  go_meet
                  exact ⟨_, rfl, Lib.hid (dec_fn14 hd8 zb8 hY7)⟩
                refine AllW.cons (i := 7) rfl (fun K hK => ?_) ?_
                · skip
                  go_simp
                  refine (hd2.num 2 (by decide)).mono ?_
                  rw [HA3.out]
                  rintro e w10 ⟨rfl, hg10, hd10⟩
                  simp only at hd10 ⊢
                  have ro10 := own_keepT ro2 hg10 (fun q e => by injection e with e; subst e; exact hd2.rdr.typ) (by decide)
                  refine hK.out _ _ (by trivial) (fun hHeld => ?_)
                  clear hK K
                  try simp only [Act.put, List.setIfInBounds_toArray, List.set_cons_zero, List.set_cons_succ]
                  refine wpW_all [4, 9] (by kernel_rfl) (by simp) ?_
                  refine AllW.cons (i := 4) rfl (fun K hK => ?_) ?_
                  · skip
                    have hcv11 : (convert 23 9 (.slice At NBL ct)).run Tryd.prog w10 = .ok (.string nm) w10 := by rw [← HNB.out.2.1]; exact conv_str (own_rdgD ro10).1 HNB.out.2.2 (fun e => own_nil ro10 e HNB.out.1) HNB.out.1
                    go_simp
                    clear hcv11
                    refine hK.out _ _ (by trivial) (fun hHeld => ?_)
                    clear hK K
                    try simp only [Act.put, List.setIfInBounds_toArray, List.set_cons_zero, List.set_cons_succ]
                    refine wpW_take 8 (v := ?_) rfl (by kernel_rfl) (by kernel_rfl) (by kernel_rfl) (by kernel_rfl) (fun _ _ _ h => h) (Or.inl ⟨by rfl, ?_⟩) hHeld ?_
                    rotate_left
                    · intro w hSw
                      try dsimp only at hSw
                      go_simp
                      try with_reducible rfl
                    try simp only [Act.put, List.setIfInBounds_toArray, List.set_cons_zero, List.set_cons_succ]
                    refine wpW_one 9 rfl (by kernel_rfl) (fun K hK => ?_)
                    go_simp
                    have hd12 := hd10.keep ((Below.refl w10.heap.size w10).alloc (Nat.le_refl _) (.cells #[.string ⟨#[]⟩, .int .i64 0, .int .i64 0] 36))
                    have zb12 : Blk (w10.alloc (.cells #[.string ⟨#[]⟩, .int .i64 0, .int .i64 0] 36)) (w10.heap.size) 36 [.string ⟨#[]⟩, .int .i64 0, .int .i64 0] := Blk.new w10 _ _
                    have hY12 : H ≤ w10.heap.size := hd10.lt.2.2.2
                    have ro12 := World.ownsRow.alloc ro10 (.cells #[.string ⟨#[]⟩, .int .i64 0, .int .i64 0] 36)
                    have zl12 := zb12.lt
                    have zc12_0 := zb12.cell 0 rfl
                    have zc12_1 := zb12.cell 1 rfl
                    have zc12_2 := zb12.cell 2 rfl
                    have zf12_0 := zb12.free 0
                    have zf12_1 := zb12.free 1
                    have zf12_2 := zb12.free 2
                    refine hK.out _ _ (by trivial) (fun hHeld => ?_)
                    clear hK K
                    try simp only [Act.put, List.setIfInBounds_toArray, List.set_cons_zero, List.set_cons_succ]
                    refine wpW_one 10 rfl (by kernel_rfl) (fun K hK => ?_)
                    go_simp
                    refine hK.out _ _ (by trivial) (fun hHeld => ?_)
                    clear hK K
                    try simp only [Act.put, List.setIfInBounds_toArray, List.set_cons_zero, List.set_cons_succ]
                    refine wpW_done (by kernel_rfl) ?_ _
                    go_wp2
                    go_meet
                    exact ⟨_, rfl, Lib.hid ⟨hd10.keep ((Below.refl _ _).alloc (Nat.le_refl _) _), Blk.new _ _ _⟩⟩
                  refine AllW.cons (i := 9) rfl (fun K hK => ?_) AllW.nil
                  go_simp
                  have hd14 := hd10.keep ((Below.refl w10.heap.size w10).alloc (Nat.le_refl _) (.cells #[.string ⟨#[]⟩, .int .i64 0, .int .i64 0] 36))
                  have zb14 : Blk (w10.alloc (.cells #[.string ⟨#[]⟩, .int .i64 0, .int .i64 0] 36)) (w10.heap.size) 36 [.string ⟨#[]⟩, .int .i64 0, .int .i64 0] := Blk.new w10 _ _
                  have hY14 : H ≤ w10.heap.size := hd10.lt.2.2.2
                  have ro14 := World.ownsRow.alloc ro10 (.cells #[.string ⟨#[]⟩, .int .i64 0, .int .i64 0] 36)
                  have zl14 := zb14.lt
                  have zc14_0 := zb14.cell 0 rfl
                  have zc14_1 := zb14.cell 1 rfl
                  have zc14_2 := zb14.cell 2 rfl
                  have zf14_0 := zb14.free 0
                  have zf14_1 := zb14.free 1
                  have zf14_2 := zb14.free 2
                  refine hK.out _ _ (by trivial) (fun hHeld => ?_)
                  clear hK K
                  try simp only [Act.put, List.setIfInBounds_toArray, List.set_cons_zero, List.set_cons_succ]
                  refine wpW_one 4 rfl (by kernel_rfl) (fun K hK => ?_)
                  have hcv15 : (convert 23 9 (.slice At NBL ct)).run Tryd.prog (w10.alloc (.cells #[.string ⟨#[]⟩, .int .i64 0, .int .i64 0] 36)) = .ok (.string nm) (w10.alloc (.cells #[.string ⟨#[]⟩, .int .i64 0, .int .i64 0] 36)) := by rw [← HNB.out.2.1]; exact conv_str (own_rdgD ro14).1 HNB.out.2.2 (fun e => own_nil ro14 e HNB.out.1) HNB.out.1
                  go_simp
                  clear hcv15
                  refine hK.out _ _ (by trivial) (fun hHeld => ?_)
                  clear hK K
                  try simp only [Act.put, List.setIfInBounds_toArray, List.set_cons_zero, List.set_cons_succ]
                  refine wpW_take 8 (v := ?_) rfl (by kernel_rfl) (by kernel_rfl) (by kernel_rfl) (by kernel_rfl) (fun _ _ _ h => h) (Or.inl ⟨by rfl, ?_⟩) hHeld ?_
                  rotate_left
                  · intro w hSw
                    try dsimp only at hSw
                    go_simp
                    try with_reducible rfl
                  try simp only [Act.put, List.setIfInBounds_toArray, List.set_cons_zero, List.set_cons_succ]
                  refine wpW_one 10 rfl (by kernel_rfl) (fun K hK => ?_)
                  go_simp
                  refine hK.out _ _ (by trivial) (fun hHeld => ?_)
                  clear hK K
                  try simp only [Act.put, List.setIfInBounds_toArray, List.set_cons_zero, List.set_cons_succ]
                  refine wpW_done (by kernel_rfl) ?_ _
                  go_wp2
                  go_meet
                  exact ⟨_, rfl, Lib.hid ⟨hd10.keep ((Below.refl _ _).alloc (Nat.le_refl _) _), Blk.new _ _ _⟩⟩
                refine AllW.cons (i := 9) rfl (fun K hK => ?_) AllW.nil
                go_simp
                have hd17 := hd2.keep ((Below.refl w2.heap.size w2).alloc (Nat.le_refl _) (.cells #[.string ⟨#[]⟩, .int .i64 0, .int .i64 0] 36))
                have zb17 : Blk (w2.alloc (.cells #[.string ⟨#[]⟩, .int .i64 0, .int .i64 0] 36)) (w2.heap.size) 36 [.string ⟨#[]⟩, .int .i64 0, .int .i64 0] := Blk.new w2 _ _
                have hY17 : H ≤ w2.heap.size := hd2.lt.2.2.2
                have ro17 := World.ownsRow.alloc ro2 (.cells #[.string ⟨#[]⟩, .int .i64 0, .int .i64 0] 36)
                have zl17 := zb17.lt
                have zc17_0 := zb17.cell 0 rfl
                have zc17_1 := zb17.cell 1 rfl
                have zc17_2 := zb17.cell 2 rfl
                have zf17_0 := zb17.free 0
                have zf17_1 := zb17.free 1
                have zf17_2 := zb17.free 2
                refine hK.out _ _ (by trivial) (fun hHeld => ?_)
                clear hK K
                try simp only [Act.put, List.setIfInBounds_toArray, List.set_cons_zero, List.set_cons_succ]
                refine wpW_all [4, 7] (by kernel_rfl) (by simp) ?_
                refine AllW.cons (i := 4) rfl (fun K hK => ?_) ?_
                · skip
                  have hcv18 : (convert 23 9 (.slice At NBL ct)).run Tryd.prog (w2.alloc (.cells #[.string ⟨#[]⟩, .int .i64 0, .int .i64 0] 36)) = .ok (.string nm) (w2.alloc (.cells #[.string ⟨#[]⟩, .int .i64 0, .int .i64 0] 36)) := by rw [← HNB.out.2.1]; exact conv_str (own_rdgD ro17).1 HNB.out.2.2 (fun e => own_nil ro17 e HNB.out.1) HNB.out.1
                  go_simp
                  clear hcv18
                  refine hK.out _ _ (by trivial) (fun hHeld => ?_)
                  clear hK K
                  try simp only [Act.put, List.setIfInBounds_toArray, List.set_cons_zero, List.set_cons_succ]
                  refine wpW_one 7 rfl (by kernel_rfl) (fun K hK => ?_)
                  go_simp
                  refine (hd17.num 2 (by decide)).mono ?_
                  rw [HA3.out]
                  rintro e w19 ⟨rfl, hg19, hd19⟩
                  simp only at hd19 ⊢
                  have ro19 := own_keepT ro17 hg19 (fun q e => by injection e with e; subst e; exact hd17.rdr.typ) (by decide)
                  have zb19 := zb17.keepT hg19 (fun q e => by injection e with e; subst e; exact hd17.rdr.typ) (by decide)
                  have zl19 := zb19.lt
                  have zc19_0 := zb19.cell 0 rfl
                  have zc19_1 := zb19.cell 1 rfl
                  have zc19_2 := zb19.cell 2 rfl
                  have zf19_0 := zb19.free 0
                  have zf19_1 := zb19.free 1
                  have zf19_2 := zb19.free 2
                  refine hK.out _ _ (by trivial) (fun hHeld => ?_)
                  clear hK K
                  try simp only [Act.put, List.setIfInBounds_toArray, List.set_cons_zero, List.set_cons_succ]
                  refine wpW_take 8 (v := ?_) rfl (by kernel_rfl) (by kernel_rfl) (by kernel_rfl) (by kernel_rfl) (fun _ _ _ h => h) (Or.inl ⟨by rfl, ?_⟩) hHeld ?_
                  rotate_left
                  · intro w hSw
                    try dsimp only at hSw
                    go_simp
                    try with_reducible rfl
                  try simp only [Act.put, List.setIfInBounds_toArray, List.set_cons_zero, List.set_cons_succ]
                  refine wpW_one 10 rfl (by kernel_rfl) (fun K hK => ?_)
                  go_simp
                  refine hK.out _ _ (by trivial) (fun hHeld => ?_)
                  clear hK K
                  try simp only [Act.put, List.setIfInBounds_toArray, List.set_cons_zero, List.set_cons_succ]
                  refine wpW_done (by kernel_rfl) ?_ _
                  go_wp2
                  go_meet
                  exact ⟨_, rfl, Lib.hid (dec_fn14 hd19 zb19 hY17)⟩
                refine AllW.cons (i := 7) rfl (fun K hK => ?_) AllW.nil
                go_simp
                refine (hd17.num 2 (by decide)).mono ?_
                rw [HA3.out]
                rintro e w21 ⟨rfl, hg21, hd21⟩
                simp only at hd21 ⊢
                have ro21 := own_keepT ro17 hg21 (fun q e => by injection e with e; subst e; exact hd17.rdr.typ) (by decide)
                have zb21 := zb17.keepT hg21 (fun q e => by injection e with e; subst e; exact hd17.rdr.typ) (by decide)
                have zl21 := zb21.lt
                have zc21_0 := zb21.cell 0 rfl
                have zc21_1 := zb21.cell 1 rfl
                have zc21_2 := zb21.cell 2 rfl
                have zf21_0 := zb21.free 0
                have zf21_1 := zb21.free 1
                have zf21_2 := zb21.free 2
                refine hK.out _ _ (by trivial) (fun hHeld => ?_)
                clear hK K
                try simp only [Act.put, List.setIfInBounds_toArray, List.set_cons_zero, List.set_cons_succ]
                refine wpW_one 4 rfl (by kernel_rfl) (fun K hK => ?_)
                have hcv22 : (convert 23 9 (.slice At NBL ct)).run Tryd.prog w21 = .ok (.string nm) w21 := by rw [← HNB.out.2.1]; exact conv_str (own_rdgD ro21).1 HNB.out.2.2 (fun e => own_nil ro21 e HNB.out.1) HNB.out.1
                go_simp
                clear hcv22
                refine hK.out _ _ (by trivial) (fun hHeld => ?_)
                clear hK K
                try simp only [Act.put, List.setIfInBounds_toArray, List.set_cons_zero, List.set_cons_succ]
                refine wpW_take 8 (v := ?_) rfl (by kernel_rfl) (by kernel_rfl) (by kernel_rfl) (by kernel_rfl) (fun _ _ _ h => h) (Or.inl ⟨by rfl, ?_⟩) hHeld ?_
                rotate_left
                · intro w hSw
                  try dsimp only at hSw
                  go_simp
                  try with_reducible rfl
                try simp only [Act.put, List.setIfInBounds_toArray, List.set_cons_zero, List.set_cons_succ]
                refine wpW_one 10 rfl (by kernel_rfl) (fun K hK => ?_)
                go_simp
                refine hK.out _ _ (by trivial) (fun hHeld => ?_)
                clear hK K
                try simp only [Act.put, List.setIfInBounds_toArray, List.set_cons_zero, List.set_cons_succ]
                refine wpW_done (by kernel_rfl) ?_ _
                go_wp2
                go_meet
                exact ⟨_, rfl, Lib.hid (dec_fn14 hd21 zb21 hY17)⟩
              refine AllW.cons (i := 9) rfl (fun K hK => ?_) AllW.nil
              go_simp
              have hd24 := hd1.keep ((Below.refl w1.heap.size w1).alloc (Nat.le_refl _) (.cells #[.string ⟨#[]⟩, .int .i64 0, .int .i64 0] 36))
              have zb24 : Blk (w1.alloc (.cells #[.string ⟨#[]⟩, .int .i64 0, .int .i64 0] 36)) (w1.heap.size) 36 [.string ⟨#[]⟩, .int .i64 0, .int .i64 0] := Blk.new w1 _ _
              have hY24 : H ≤ w1.heap.size := hd1.lt.2.2.2
              have zl24 := zb24.lt
              have zc24_0 := zb24.cell 0 rfl
              have zc24_1 := zb24.cell 1 rfl
              have zc24_2 := zb24.cell 2 rfl
              have zf24_0 := zb24.free 0
              have zf24_1 := zb24.free 1
              have zf24_2 := zb24.free 2
              refine hK.out _ _ (by trivial) (fun hHeld => ?_)
              clear hK K
              try simp only [Act.put, List.setIfInBounds_toArray, List.set_cons_zero, List.set_cons_succ]
              refine wpW_one 3 rfl (by kernel_rfl) (fun K hK => ?_)
              go_simp
              refine (hd24.take a1 ha10).mono ?_
              rw [HA2.out]
              rintro e w25 ⟨At, ct, rfl, ro25, hg25, hd25⟩
              simp only at hd25 ro25 ⊢
              rw [HNB.out.1] at ro25 ⊢
              have zb25 := zb24.keepT hg25 (fun q e => by injection e with e; subst e; exact hd24.rdr.typ) (by decide)
              have zl25 := zb25.lt
              have zc25_0 := zb25.cell 0 rfl
              have zc25_1 := zb25.cell 1 rfl
              have zc25_2 := zb25.cell 2 rfl
              have zf25_0 := zb25.free 0
              have zf25_1 := zb25.free 1
              have zf25_2 := zb25.free 2
              refine hK.out _ _ (by trivial) (fun hHeld => ?_)
              clear hK K
              try simp only [Act.put, List.setIfInBounds_toArray, List.set_cons_zero, List.set_cons_succ]
              refine wpW_all [4, 7] (by kernel_rfl) (by simp) ?_
              refine AllW.cons (i := 4) rfl (fun K hK => ?_) ?_
              · skip
                have hcv26 : (convert 23 9 (.slice At NBL ct)).run Tryd.prog w25 = .ok (.string nm) w25 := by rw [← HNB.out.2.1]; exact conv_str (own_rdgD ro25).1 HNB.out.2.2 (fun e => own_nil ro25 e HNB.out.1) HNB.out.1
                go_simp
                clear hcv26
                refine hK.out _ _ (by trivial) (fun hHeld => ?_)
                clear hK K
                try simp only [Act.put, List.setIfInBounds_toArray, List.set_cons_zero, List.set_cons_succ]
                refine wpW_one 7 rfl (by kernel_rfl) (fun K hK => ?_)
                go_simp
                refine (hd25.num 2 (by decide)).mono ?_
                rw [HA3.out]
                rintro e w27 ⟨rfl, hg27, hd27⟩
                simp only at hd27 ⊢
                have ro27 := own_keepT ro25 hg27 (fun q e => by injection e with e; subst e; exact hd25.rdr.typ) (by decide)
                have zb27 := zb25.keepT hg27 (fun q e => by injection e with e; subst e; exact hd25.rdr.typ) (by decide)
                have zl27 := zb27.lt
                have zc27_0 := zb27.cell 0 rfl
                have zc27_1 := zb27.cell 1 rfl
                have zc27_2 := zb27.cell 2 rfl
                have zf27_0 := zb27.free 0
                have zf27_1 := zb27.free 1
                have zf27_2 := zb27.free 2
                refine hK.out _ _ (by trivial) (fun hHeld => ?_)
                clear hK K
                try simp only [Act.put, List.setIfInBounds_toArray, List.set_cons_zero, List.set_cons_succ]
                refine wpW_take 8 (v := ?_) rfl (by kernel_rfl) (by kernel_rfl) (by kernel_rfl) (by kernel_rfl) (fun _ _ _ h => h) (Or.inl ⟨by rfl, ?_⟩) hHeld ?_
                rotate_left
                · intro w hSw
                  try dsimp only at hSw
                  go_simp
                  try with_reducible rfl
                try simp only [Act.put, List.setIfInBounds_toArray, List.set_cons_zero, List.set_cons_succ]
                refine wpW_one 10 rfl (by kernel_rfl) (fun K hK => ?_)
                go_simp
                refine hK.out _ _ (by trivial) (fun hHeld => ?_)
                clear hK K
                try simp only [Act.put, List.setIfInBounds_toArray, List.set_cons_zero, List.set_cons_succ]
                refine wpW_done (by kernel_rfl) ?_ _
                go_wp2
                go_meet
                exact ⟨_, rfl, Lib.hid (dec_fn14 hd27 zb27 hY24)⟩
              refine AllW.cons (i := 7) rfl (fun K hK => ?_) AllW.nil
              go_simp
              refine (hd25.num 2 (by decide)).mono ?_
              rw [HA3.out]
              rintro e w29 ⟨rfl, hg29, hd29⟩
              simp only at hd29 ⊢
              have ro29 := own_keepT ro25 hg29 (fun q e => by injection e with e; subst e; exact hd25.rdr.typ) (by decide)
              have zb29 := zb25.keepT hg29 (fun q e => by injection e with e; subst e; exact hd25.rdr.typ) (by decide)
              have zl29 := zb29.lt
              have zc29_0 := zb29.cell 0 rfl
              have zc29_1 := zb29.cell 1 rfl
              have zc29_2 := zb29.cell 2 rfl
              have zf29_0 := zb29.free 0
              have zf29_1 := zb29.free 1
              have zf29_2 := zb29.free 2
              refine hK.out _ _ (by trivial) (fun hHeld => ?_)
              clear hK K
              try simp only [Act.put, List.setIfInBounds_toArray, List.set_cons_zero, List.set_cons_succ]
              refine wpW_one 4 rfl (by kernel_rfl) (fun K hK => ?_)
              have hcv30 : (convert 23 9 (.slice At NBL ct)).run Tryd.prog w29 = .ok (.string nm) w29 := by rw [← HNB.out.2.1]; exact conv_str (own_rdgD ro29).1 HNB.out.2.2 (fun e => own_nil ro29 e HNB.out.1) HNB.out.1
              go_simp
              clear hcv30
              refine hK.out _ _ (by trivial) (fun hHeld => ?_)
              clear hK K
              try simp only [Act.put, List.setIfInBounds_toArray, List.set_cons_zero, List.set_cons_succ]
              refine wpW_take 8 (v := ?_) rfl (by kernel_rfl) (by kernel_rfl) (by kernel_rfl) (by kernel_rfl) (fun _ _ _ h => h) (Or.inl ⟨by rfl, ?_⟩) hHeld ?_
              rotate_left
              · intro w hSw
                try dsimp only at hSw
                go_simp
                try with_reducible rfl
              try simp only [Act.put, List.setIfInBounds_toArray, List.set_cons_zero, List.set_cons_succ]
              refine wpW_one 10 rfl (by kernel_rfl) (fun K hK => ?_)
              go_simp
              refine hK.out _ _ (by trivial) (fun hHeld => ?_)
              clear hK K
              try simp only [Act.put, List.setIfInBounds_toArray, List.set_cons_zero, List.set_cons_succ]
              refine wpW_done (by kernel_rfl) ?_ _
              go_wp2
              go_meet
              exact ⟨_, rfl, Lib.hid (dec_fn14 hd29 zb29 hY24)⟩
            refine AllW.cons (i := 9) rfl (fun K hK => ?_) AllW.nil
            go_simp
            have hd32 := HD.out.keep ((Below.refl wr.heap.size wr).alloc (Nat.le_refl _) (.cells #[.string ⟨#[]⟩, .int .i64 0, .int .i64 0] 36)).drew
            have zb32 : Blk (wr.alloc (.cells #[.string ⟨#[]⟩, .int .i64 0, .int .i64 0] 36)).drew wr.heap.size 36 [.string ⟨#[]⟩, .int .i64 0, .int .i64 0] := Blk.drew (Blk.new wr _ _)
            have hY32 : H ≤ wr.heap.size := HD.out.lt.2.2.2
            have zl32 := zb32.lt
            have zc32_0 := zb32.cell 0 rfl
            have zc32_1 := zb32.cell 1 rfl
            have zc32_2 := zb32.cell 2 rfl
            have zf32_0 := zb32.free 0
            have zf32_1 := zb32.free 1
            have zf32_2 := zb32.free 2
            refine hK.out _ _ (by trivial) (fun hHeld => ?_)
            clear hK K
            try simp only [Act.put, List.setIfInBounds_toArray, List.set_cons_zero, List.set_cons_succ]
            refine wpW_one 2 rfl (by kernel_rfl) (fun K hK => ?_)
            go_simp
            refine (hd32.num 1 (by decide)).mono ?_
            rw [HA1.out]
            rintro e w33 ⟨rfl, hg33, hd33⟩
            simp only at hd33 ⊢
            have zb33 := zb32.keepT hg33 (fun q e => by injection e with e; subst e; exact hd32.rdr.typ) (by decide)
            have zl33 := zb33.lt
            have zc33_0 := zb33.cell 0 rfl
            have zc33_1 := zb33.cell 1 rfl
            have zc33_2 := zb33.cell 2 rfl
            have zf33_0 := zb33.free 0
            have zf33_1 := zb33.free 1
            have zf33_2 := zb33.free 2
            refine hK.out _ _ (by trivial) (fun hHeld => ?_)
            clear hK K
            try simp only [Act.put, List.setIfInBounds_toArray, List.set_cons_zero, List.set_cons_succ]
            refine wpW_one 3 rfl (by kernel_rfl) (fun K hK => ?_)
            go_simp
            refine (hd33.take a1 ha10).mono ?_
            rw [HA2.out]
            rintro e w34 ⟨At, ct, rfl, ro34, hg34, hd34⟩
            simp only at hd34 ro34 ⊢
            rw [HNB.out.1] at ro34 ⊢
            have zb34 := zb33.keepT hg34 (fun q e => by injection e with e; subst e; exact hd33.rdr.typ) (by decide)
            have zl34 := zb34.lt
            have zc34_0 := zb34.cell 0 rfl
            have zc34_1 := zb34.cell 1 rfl
            have zc34_2 := zb34.cell 2 rfl
            have zf34_0 := zb34.free 0
            have zf34_1 := zb34.free 1
            have zf34_2 := zb34.free 2
            refine hK.out _ _ (by trivial) (fun hHeld => ?_)
            clear hK K
            try simp only [Act.put, List.setIfInBounds_toArray, List.set_cons_zero, List.set_cons_succ]
            refine wpW_all [4, 7] (by kernel_rfl) (by simp) ?_
            refine AllW.cons (i := 4) rfl (fun K hK => ?_) ?_
            · skip
              have hcv35 : (convert 23 9 (.slice At NBL ct)).run Tryd.prog w34 = .ok (.string nm) w34 := by rw [← HNB.out.2.1]; exact conv_str (own_rdgD ro34).1 HNB.out.2.2 (fun e => own_nil ro34 e HNB.out.1) HNB.out.1
              go_simp
              clear hcv35
              refine hK.out _ _ (by trivial) (fun hHeld => ?_)
              clear hK K
              try simp only [Act.put, List.setIfInBounds_toArray, List.set_cons_zero, List.set_cons_succ]
              refine wpW_one 7 rfl (by kernel_rfl) (fun K hK => ?_)
              go_simp
              refine (hd34.num 2 (by decide)).mono ?_
              rw [HA3.out]
              rintro e w36 ⟨rfl, hg36, hd36⟩
              simp only at hd36 ⊢
              have ro36 := own_keepT ro34 hg36 (fun q e => by injection e with e; subst e; exact hd34.rdr.typ) (by decide)
              have zb36 := zb34.keepT hg36 (fun q e => by injection e with e; subst e; exact hd34.rdr.typ) (by decide)
              have zl36 := zb36.lt
              have zc36_0 := zb36.cell 0 rfl
              have zc36_1 := zb36.cell 1 rfl
              have zc36_2 := zb36.cell 2 rfl
              have zf36_0 := zb36.free 0
              have zf36_1 := zb36.free 1
              have zf36_2 := zb36.free 2
              refine hK.out _ _ (by trivial) (fun hHeld => ?_)
              clear hK K
              try simp only [Act.put, List.setIfInBounds_toArray, List.set_cons_zero, List.set_cons_succ]
              refine wpW_take 8 (v := ?_) rfl (by kernel_rfl) (by kernel_rfl) (by kernel_rfl) (by kernel_rfl) (fun _ _ _ h => h) (Or.inl ⟨by rfl, ?_⟩) hHeld ?_
              rotate_left
              · intro w hSw
                try dsimp only at hSw
                go_simp
                try with_reducible rfl
              try simp only [Act.put, List.setIfInBounds_toArray, List.set_cons_zero, List.set_cons_succ]
              refine wpW_one 10 rfl (by kernel_rfl) (fun K hK => ?_)
              go_simp
              refine hK.out _ _ (by trivial) (fun hHeld => ?_)
              clear hK K
              try simp only [Act.put, List.setIfInBounds_toArray, List.set_cons_zero, List.set_cons_succ]
              refine wpW_done (by kernel_rfl) ?_ _
              go_wp2
              go_meet
              exact ⟨_, rfl, Lib.hid (dec_fn14 hd36 zb36 hY32)⟩
            refine AllW.cons (i := 7) rfl (fun K hK => ?_) AllW.nil
            go_simp
            refine (hd34.num 2 (by decide)).mono ?_
            rw [HA3.out]
            rintro e w38 ⟨rfl, hg38, hd38⟩
            simp only at hd38 ⊢
            have ro38 := own_keepT ro34 hg38 (fun q e => by injection e with e; subst e; exact hd34.rdr.typ) (by decide)
            have zb38 := zb34.keepT hg38 (fun q e => by injection e with e; subst e; exact hd34.rdr.typ) (by decide)
            have zl38 := zb38.lt
            have zc38_0 := zb38.cell 0 rfl
            have zc38_1 := zb38.cell 1 rfl
            have zc38_2 := zb38.cell 2 rfl
            have zf38_0 := zb38.free 0
            have zf38_1 := zb38.free 1
            have zf38_2 := zb38.free 2
            refine hK.out _ _ (by trivial) (fun hHeld => ?_)
            clear hK K
            try simp only [Act.put, List.setIfInBounds_toArray, List.set_cons_zero, List.set_cons_succ]
            refine wpW_one 4 rfl (by kernel_rfl) (fun K hK => ?_)
            have hcv39 : (convert 23 9 (.slice At NBL ct)).run Tryd.prog w38 = .ok (.string nm) w38 := by rw [← HNB.out.2.1]; exact conv_str (own_rdgD ro38).1 HNB.out.2.2 (fun e => own_nil ro38 e HNB.out.1) HNB.out.1
            go_simp
            clear hcv39
            refine hK.out _ _ (by trivial) (fun hHeld => ?_)
            clear hK K
            try simp only [Act.put, List.setIfInBounds_toArray, List.set_cons_zero, List.set_cons_succ]
            refine wpW_take 8 (v := ?_) rfl (by kernel_rfl) (by kernel_rfl) (by kernel_rfl) (by kernel_rfl) (fun _ _ _ h => h) (Or.inl ⟨by rfl, ?_⟩) hHeld ?_
            rotate_left
            · intro w hSw
              try dsimp only at hSw
              go_simp
              try with_reducible rfl
            try simp only [Act.put, List.setIfInBounds_toArray, List.set_cons_zero, List.set_cons_succ]
            refine wpW_one 10 rfl (by kernel_rfl) (fun K hK => ?_)
            go_simp
            refine hK.out _ _ (by trivial) (fun hHeld => ?_)
            clear hK K
            try simp only [Act.put, List.setIfInBounds_toArray, List.set_cons_zero, List.set_cons_succ]
            refine wpW_done (by kernel_rfl) ?_ _
            go_wp2
            go_meet
            exact ⟨_, rfl, Lib.hid (dec_fn14 hd38 zb38 hY32)⟩
          case rest =>
            obtain ⟨Y, rfl, HDY⟩ := hcut
            rename World => wx
            have hmb := HDY.out.1.blk
            have m1 := hmb.cell 1 rfl
            have mf1 := hmb.free 1
            have ml := hmb.lt
            have q0 := HDY.out.2.cell 0 rfl
            have q1 := HDY.out.2.cell 1 rfl
            have q2 := HDY.out.2.cell 2 rfl
            have ql := HDY.out.2.lt
            have hHx := HDY.out.1.lt.2.2.2
            have hBx := HDY.out.1.bel.size
            obtain ⟨NA, hNA⟩ : ∃ z, acc.length = z := ⟨_, rfl⟩
            simp only [hNA] at m1
            have HNA := Lib.hid hNA
            have hNA2 : NA ≤ 255 := by omega
            have hfn : wx.ownsRow w.heap.size 36 3 (.slice fA NA fc) NA (funcsV acc) := by have h := HDY.out.1.fn; simp only [hNA] at h; exact h
            have HFN := Lib.hid hfn
            have hpz : -9223372036854775808 ≤ p + z1 ∧ p + z1 ≤ 9223372036854775807 := by omega
            clear hmb hNA hfn HD
            have hBw : w.heap.size ≤ wx.heap.size := by have := HDY.out.1.bH; omega
            go_upto_region 16 with fail
            go_wp2_with (first | (at_builtin; refine app_one rfl _ _ 24 36 3 32 _ Tryd.underlying24 infoFn3 rfl (by decide) rfl w.heap.size _ NA _ rfl (World.ownsRow.alloc HFN.out _) wx.heap.size 1 rfl [.string nm, .int .i64 p, .int .i64 z1] 36 (0, 0) (heap_alloc_new wx _) rfl (by simp [Value.oneCell']) (by omega) (by omega) (by simp; omega) (wx.heap.size + 1) (by simp) ?a1))
            case a1 =>
              intro g2 c2 w2 ho2 hg2 hat2 hlt2
              have hal1 : Below wx.heap.size wx (wx.alloc (.cells #[.string nm, .int .i64 p, .int .i64 z1] 36)) := (Below.refl _ _).alloc (Nat.le_refl _) _
              have hx2 := (HDY.out.1.keep hal1).blk.keepT hg2 (fun q e => own_typ (World.ownsRow.alloc HFN.out _) e) (by decide)
              have x21 := hx2.cell 1 rfl
              have x2f := hx2.free 1
              have x2l := hx2.lt
              simp only [HNA.out] at x21
              have HDN := Lib.hid (HDY.out.1.setF (x := ⟨nm, p, z1⟩) (hal1.mono hHx) HNA.out ho2 hg2 (hat2.imp_right fun e => by omega))
              clear hx2 ho2 hg2 hat2 hal1 m1 mf1 q0 q1 q2 ql HDY HFN
              go_wp2
              go_roundg k
              case measure => omega
              case rel =>
                refine ⟨k, p + z1, acc ++ [⟨nm, p, z1⟩], sd, some ⟨g2, 0, none⟩, c2, D, _, rfl, by go_num, HDN, by omega, by omega, by simp; omega, HF2, Nat.le_refl _⟩
    case rest =>
      obtain ⟨fA, fc, D, H, HD⟩ := hcut
      rename World => wa
      go_wp2_with fail
      refine (HD.out.num 1 (by decide)).mono ?_
      rw [HS4.out]
      rintro e wb ⟨rfl, -, hst⟩
      simp only at hst ⊢
      have hmb := hst.blk
      have m5 := hmb.cell 5 rfl
      have mf5 := hmb.free 5
      have ml := hmb.lt
      have HE : Hid (DecSt w (wb.setCell ⟨M, 5, none⟩ (.int .i64 EN)) w.heap.size w.heap.size (w.heap.size + 1) M D H s4 ⟨tx, FS, [], [], [], EN⟩ ⟨A5, c5, fA, fc, none, 0, none, 0, none, 0⟩) := Lib.hid hst.setE
      clear hmb hst HD
      go_wp2_with fail
      clear m5 mf5 ml
      obtain ⟨wc, hwc⟩ : ∃ z, wb.setCell ⟨M, 5, none⟩ (.int .i64 EN) = z := ⟨_, rfl⟩
      rw [hwc] at HE ⊢
      clear hwc
      refine (HE.out.num 1 (by decide)).mono ?_
      have hk1 := numR_bd1 HE.out.byt
      obtain ⟨⟨k1, sb⟩, hkb⟩ : ∃ z, numR s4 1 = z := ⟨_, rfl⟩
      rw [hkb] at hk1 ⊢
      rintro e wd ⟨rfl, -, hst⟩
      simp only at hst hk1 ⊢
      obtain ⟨K1, rfl⟩ := Int.eq_ofNat_of_zero_le hk1.1
      have HT0 : Hid (([] : List (List Int)) ++ (tabsR K1 sb).1 = TS ∧ (tabsR K1 sb).2 = s5) := Lib.hid (by
        have h := HS5.out
        unfold tbsR at h
        rw [hkb] at h
        simp only [Int.toNat_natCast] at h
        rw [h]
        exact ⟨rfl, rfl⟩)
      have HST0 := Lib.hid hst
      have hK1 : K1 ≤ 255 := by omega
      clear hst hkb HE hk1
      go_upto_block 2 with fail
      go_cut [] (fun wx => ∃ (bA : Option Addr) (bc D H : Nat), Hid (DecSt w wx w.heap.size w.heap.size (w.heap.size + 1) M D H s5 ⟨tx, FS, TS, [], [], EN⟩ ⟨A5, c5, fA, fc, bA, bc, none, 0, none, 0⟩))
      case first =>
        go_wp2_with fail
        go_loopg [10] K1 (fun gk v10 wr => ∃ (k : Nat) (acc : List (List Int)) (s : RS) (bA : Option Addr) (bc D H : Nat), v10 = .int .i64 (k : Int) ∧ Hid (DecSt w wr w.heap.size w.heap.size (w.heap.size + 1) M D H s ⟨tx, FS, acc, [], [], EN⟩ ⟨A5, c5, fA, fc, bA, bc, none, 0, none, 0⟩) ∧ acc.length + k ≤ 255 ∧ Hid (acc ++ (tabsR k s).1 = TS ∧ (tabsR k s).2 = s5) ∧ k ≤ gk)
        case atStart => exact ⟨K1, [], sb, none, 0, D, H, rfl, HST0, by simp; omega, HT0, Nat.le_refl _⟩
        case round =>
          clear HST0 HT0
          obtain ⟨k, acc, s, bA, bc, D, H, rfl, HD, hal, HF, hgk⟩ := hrel
          obtain ⟨Ar, cr, hbr⟩ := HD.out.rdr.blk
          have y1 := hbr.cell 1 rfl
          have yl := hbr.lt
          clear hbr
          obtain ⟨sh, hsh⟩ : ∃ z, s.sh = z := ⟨_, rfl⟩
          rw [hsh] at y1
          have HSH := Lib.hid hsh
          clear hsh
          rcases k with _ | k
          case zero =>
            have HE : Hid (acc = TS ∧ s = s5) := Lib.hid (by have h := HF.out; simpa [tabsR] using h)
            go_wp2
            go_meet
            obtain ⟨rfl, rfl⟩ := HE.out
            exact ⟨bA, bc, D, H, HD⟩
          rcases sh with _ | _
          case true =>
            have HE : Hid (acc = TS ∧ s = s5) := Lib.hid (by have h := HF.out; simp only [tabsR] at h; rw [if_pos HSH.out] at h; simpa using h)
            go_wp2
            go_meet
            obtain ⟨rfl, rfl⟩ := HE.out
            exact ⟨bA, bc, D, H, HD⟩
          case false =>
            obtain ⟨⟨t, st⟩, hT1⟩ : ∃ z, tabR s = z := ⟨_, rfl⟩
            have HF2 : Hid ((acc ++ [t]) ++ (tabsR k st).1 = TS ∧ (tabsR k st).2 = s5) := Lib.hid (by
              have h := HF.out
              simp only [tabsR] at h
              rw [if_neg (by rw [HSH.out]; decide)] at h
              simp only [hT1] at h
              rw [List.append_assoc]
              exact h)
            obtain ⟨⟨k2, sc⟩, hkc⟩ : ∃ z, numR s 1 = z := ⟨_, rfl⟩
            have hk2 := numR_bd1 HD.out.byt
            rw [hkc] at hk2
            simp only at hk2
            obtain ⟨K2, rfl⟩ := Int.eq_ofNat_of_zero_le hk2.1
            have HT2 : Hid (([] : List Int) ++ (intsR 2 K2 sc).1 = t ∧ (intsR 2 K2 sc).2 = st) := Lib.hid (by
              have h := hT1
              unfold tabR at h
              rw [hkc] at h
              simp only [Int.toNat_natCast] at h
              rw [h]
              exact ⟨rfl, rfl⟩)
            have HKC := Lib.hid hkc
            have hK2 : K2 ≤ 255 := by omega
            clear hT1 hkc hk2 HF
            go_wp2_with fail
            refine (HD.out.num 1 (by decide)).mono ?_
            rw [HKC.out]
            rintro e we ⟨rfl, -, hst⟩
            simp only at hst ⊢
            have HST2 := Lib.hid (hst.mono hst.lt.2.2.2 (Nat.le_refl _))
            clear hst HD y1 yl
            obtain ⟨Ht, hHt⟩ : ∃ z, we.heap.size = z := ⟨_, rfl⟩
            rw [hHt] at HST2
            go_upto_block 4 with fail
            go_cut [11] (fun v11 wx => ∃ (a : Option Addr) (ca n : Nat), v11 = .slice a n ca ∧ n ≤ 255 ∧ Hid (DecSt w wx w.heap.size w.heap.size (w.heap.size + 1) M D Ht st ⟨tx, FS, acc, [], [], EN⟩ ⟨A5, c5, fA, fc, bA, bc, none, 0, none, 0⟩ ∧ wx.ownsRow Ht 3 1 (.slice a n ca) n (intsV .i64 t) ∧ t.length = n))
            case first =>
              go_wp2_with fail
              go_loopg [11, 12] K2 (fun gk2 v11 v12 wr => ∃ (j : Nat) (a : Option Addr) (ca n : Nat) (l : List Int) (s : RS), v11 = .slice a n ca ∧ v12 = .int .i64 (j : Int) ∧ n + j ≤ 255 ∧ Hid (DecSt w wr w.heap.size w.heap.size (w.heap.size + 1) M D Ht s ⟨tx, FS, acc, [], [], EN⟩ ⟨A5, c5, fA, fc, bA, bc, none, 0, none, 0⟩ ∧ wr.ownsRow Ht 3 1 (.slice a n ca) n (intsV .i64 l) ∧ l.length = n) ∧ Hid (l ++ (intsR 2 j s).1 = t ∧ (intsR 2 j s).2 = st) ∧ j ≤ gk2)
              case atStart => exact ⟨K2, none, 0, 0, [], sc, rfl, rfl, by omega, Lib.hid ⟨HST2.out, ⟨rfl, .inl ⟨rfl, rfl⟩⟩, rfl⟩, HT2, Nat.le_refl _⟩
              case round =>
                clear HST2 HT2
                obtain ⟨j, a, ca, n, l, s, rfl, rfl, hnj, HDR, HFI, hgk2⟩ := hrel
                obtain ⟨Ar, cr, hbr⟩ := HDR.out.1.rdr.blk
                have y1 := hbr.cell 1 rfl
                have yl := hbr.lt
                clear hbr
                obtain ⟨sh, hsh⟩ : ∃ z, s.sh = z := ⟨_, rfl⟩
                rw [hsh] at y1
                have HSH2 := Lib.hid hsh
                clear hsh
                rcases j with _ | j
                case zero =>
                  have HE : Hid (l = t ∧ s = st) := Lib.hid (by have h := HFI.out; simpa [intsR] using h)
                  go_wp2
                  go_meet
                  obtain ⟨rfl, rfl⟩ := HE.out
                  exact ⟨a, ca, n, rfl, by omega, HDR⟩
                rcases sh with _ | _
                case true =>
                  have HE : Hid (l = t ∧ s = st) := Lib.hid (by have h := HFI.out; simp only [intsR] at h; rw [if_pos HSH2.out] at h; simpa using h)
                  go_wp2
                  go_meet
                  obtain ⟨rfl, rfl⟩ := HE.out
                  exact ⟨a, ca, n, rfl, by omega, HDR⟩
                case false =>
                  obtain ⟨⟨x, sx⟩, hx⟩ : ∃ z, numR s 2 = z := ⟨_, rfl⟩
                  have HFJ : Hid ((l ++ [x]) ++ (intsR 2 j sx).1 = t ∧ (intsR 2 j sx).2 = st) := Lib.hid (by
                    have h := HFI.out
                    simp only [intsR] at h
                    rw [if_neg (by rw [HSH2.out]; decide)] at h
                    simp only [hx] at h
                    rw [List.append_assoc]
                    exact h)
                  have HXX := Lib.hid hx
                  clear hx HFI
                  go_wp2_with fail
                  refine (HDR.out.1.num 2 (by decide)).mono ?_
                  rw [HXX.out]
                  rintro e wq ⟨rfl, hgq, hst⟩
                  simp only at hst ⊢
                  have hrow := own_keepT HDR.out.2.1 hgq (fun q e => by injection e with e; subst e; exact HDR.out.1.rdr.typ) (by decide)
                  have HSQ := Lib.hid hst
                  have HRQ := Lib.hid hrow
                  have hHq := hst.lt.2.2.2
                  clear hst hrow hgq y1 yl
                  go_wp2_with (first | (at_builtin; refine app_one rfl _ _ 26 3 1 8 _ Tryd.underlying26 infoI1 rfl (by decide) rfl Ht _ n _ rfl (World.ownsRow.alloc HRQ.out _) wq.heap.size 1 rfl [.int .i64 x] 3 (0, 0) (heap_alloc_new wq _) rfl (by simp [Value.oneCell']) (by omega) (by omega) (by simp; omega) (wq.heap.size + 1) (by simp) ?a2))
                  case a2 =>
                    intro g2 c2 w2 ho2 hg2 hat2 hlt2
                    have hal1 : Below wq.heap.size wq (wq.alloc (.cells #[.int .i64 x] 3)) := (Below.refl _ _).alloc (Nat.le_refl _) _
                    have hoA := World.ownsRow.alloc HRQ.out (.cells #[.int .i64 x] 3)
                    have hbw : Below Ht wq w2 := (hal1.mono hHq).trans (gb_belowU hg2 (fun q e => (World.ownsRow.lt hoA q e).1) (by simp; omega))
                    have HDN := Lib.hid (HSQ.out.below hbw)
                    have HRN : Hid (w2.ownsRow Ht 3 1 (.slice (some ⟨g2, 0, none⟩) (n + 1) c2) (n + 1) (intsV .i64 (l ++ [x]))) := Lib.hid (by rw [intsV_app]; exact ho2)
                    have HLN : Hid ((l ++ [x]).length = n + 1) := Lib.hid (by simp [HDR.out.2.2])
                    clear ho2 hg2 hat2 hal1 hbw HSQ HRQ hoA
                    go_wp2
                    go_roundg j
                    case measure => omega
                    case rel => exact ⟨j, some ⟨g2, 0, none⟩, c2, n + 1, l ++ [x], sx, rfl, by go_num, by omega, Lib.hid ⟨HDN.out, HRN.out, HLN.out⟩, HFJ, Nat.le_refl _⟩
            case rest =>
              clear HST2 HT2
              obtain ⟨a, ca, n, rfl, hn255, HDT⟩ := hcut
              rename World => wx
              have hln := HDT.out.2.2
              subst hln
              obtain ⟨vs, k1, k2, k3, k4⟩ := HDT.out.1.tb
              have hmb := HDT.out.1.blk
              have m2 := hmb.cell 2 rfl
              have mf2 := hmb.free 2
              have ml := hmb.lt
              have hHx := HDT.out.1.lt.2.2.2
              have hBx := HDT.out.1.bH
              obtain ⟨NA, hNA⟩ : ∃ z, acc.length = z := ⟨_, rfl⟩
              simp only [hNA] at m2 k1 k2
              have HNA := Lib.hid hNA
              have HVL := Lib.hid k1
              have HVO := Lib.hid k2
              have HVT := Lib.hid k4
              have hNA2 : NA ≤ 255 := by omega
              clear hmb hNA k1 k2 k3 k4
              go_upto_region 26 with fail
              go_wp2_with (first | (at_builtin; refine app_one rfl _ _ 25 26 1 24 _ Tryd.underlying25 infoSl1 rfl (by decide) rfl w.heap.size _ NA _ rfl (World.ownsRow.alloc HVO.out _) wx.heap.size 1 rfl [.slice a t.length ca] 26 (0, 0) (heap_alloc_new wx _) rfl (by simp [Value.oneCell']) (by omega) (by omega) (by simp; omega) (wx.heap.size + 1) (by simp) ?a3))
              case a3 =>
                intro g2 c2 w2 ho2 hg2 hat2 hlt2
                have hal1 : Below wx.heap.size wx (wx.alloc (.cells #[.slice a t.length ca] 26)) := (Below.refl _ _).alloc (Nat.le_refl _) _
                have hx2 := (HDT.out.1.keep hal1).blk.keepT hg2 (fun q e => own_typ (World.ownsRow.alloc HVO.out _) e) (by decide)
                have x22 := hx2.cell 2 rfl
                have x2f := hx2.free 2
                have x2l := hx2.lt
                simp only [HNA.out] at x22
                have hi := own_more (own_keep HDT.out.2.1 hal1) hBx
                have HDN := Lib.hid (HDT.out.1.setTs (t := t) ⟨rfl, rfl, rfl⟩ (hal1.mono hHx) HNA.out HVL.out HVT.out hi ho2 hg2 (World.ownsRow.alloc HVO.out _))
                clear hx2 ho2 hg2 hat2 hal1 m2 mf2 HDT HVO HVT hi
                go_wp2
                go_roundg k
                case measure => omega
                case rel => exact ⟨k, acc ++ [t], st, some ⟨g2, 0, none⟩, c2, _, _, by go_num, HDN, by simp; omega, HF2, Nat.le_refl _⟩
      case rest =>
        obtain ⟨bA, bc, D, H, HD⟩ := hcut
        rename World => wa2
        go_wp2_with fail
        refine (HD.out.num 1 (by decide)).mono ?_
        have hk1 := numR_bd1 HD.out.byt
        obtain ⟨⟨k3, sb3⟩, hkb⟩ : ∃ z, numR s5 1 = z := ⟨_, rfl⟩
        rw [hkb] at hk1 ⊢
        rintro e wd ⟨rfl, -, hst⟩
        simp only at hst hk1 ⊢
        obtain ⟨K3, rfl⟩ := Int.eq_ofNat_of_zero_le hk1.1
        have HT0 : Hid (([] : List Int) ++ (intsR 8 K3 sb3).1 = DS ∧ (intsR 8 K3 sb3).2 = s6) := Lib.hid (by
          have h := HS6.out
          unfold dtaR at h
          rw [hkb] at h
          simp only [Int.toNat_natCast] at h
          rw [h]
          exact ⟨rfl, rfl⟩)
        have HST0 := Lib.hid hst
        have hK3 : K3 ≤ 255 := by omega
        clear hst hkb HD hk1
        go_upto_block 6 with fail
        go_cut [] (fun wx => ∃ (dA : Option Addr) (dc D H : Nat), Hid (DecSt w wx w.heap.size w.heap.size (w.heap.size + 1) M D H s6 ⟨tx, FS, TS, DS, [], EN⟩ ⟨A5, c5, fA, fc, bA, bc, dA, dc, none, 0⟩))
        case first =>
          go_wp2_with fail
          go_loopg [13] K3 (fun gk v13 wr => ∃ (k : Nat) (acc : List Int) (s : RS) (dA : Option Addr) (dc H : Nat), v13 = .int .i64 (k : Int) ∧ Hid (DecSt w wr w.heap.size w.heap.size (w.heap.size + 1) M D H s ⟨tx, FS, TS, acc, [], EN⟩ ⟨A5, c5, fA, fc, bA, bc, dA, dc, none, 0⟩) ∧ acc.length + k ≤ 255 ∧ Hid (acc ++ (intsR 8 k s).1 = DS ∧ (intsR 8 k s).2 = s6) ∧ k ≤ gk)
          case atStart => exact ⟨K3, [], sb3, none, 0, H, rfl, HST0, by simp; omega, HT0, Nat.le_refl _⟩
          case round =>
            clear HST0 HT0
            obtain ⟨k, acc, s, dA, dc, H, rfl, HD, hal, HF, hgk⟩ := hrel
            obtain ⟨Ar, cr, hbr⟩ := HD.out.rdr.blk
            have y1 := hbr.cell 1 rfl
            have yl := hbr.lt
            clear hbr
            obtain ⟨sh, hsh⟩ : ∃ z, s.sh = z := ⟨_, rfl⟩
            rw [hsh] at y1
            have HSH := Lib.hid hsh
            clear hsh
            rcases k with _ | k
            case zero =>
              have HE : Hid (acc = DS ∧ s = s6) := Lib.hid (by have h := HF.out; simpa [intsR] using h)
              go_wp2
              go_meet
              obtain ⟨rfl, rfl⟩ := HE.out
              exact ⟨dA, dc, D, H, HD⟩
            rcases sh with _ | _
            case true =>
              have HE : Hid (acc = DS ∧ s = s6) := Lib.hid (by have h := HF.out; simp only [intsR] at h; rw [if_pos HSH.out] at h; simpa using h)
              go_wp2
              go_meet
              obtain ⟨rfl, rfl⟩ := HE.out
              exact ⟨dA, dc, D, H, HD⟩
            case false =>
              obtain ⟨⟨x, sx⟩, hx⟩ : ∃ z, numR s 8 = z := ⟨_, rfl⟩
              have HF2 : Hid ((acc ++ [x]) ++ (intsR 8 k sx).1 = DS ∧ (intsR 8 k sx).2 = s6) := Lib.hid (by
                have h := HF.out
                simp only [intsR] at h
                rw [if_neg (by rw [HSH.out]; decide)] at h
                simp only [hx] at h
                rw [List.append_assoc]
                exact h)
              have HXX := Lib.hid hx
              clear hx HF
              obtain ⟨NA, hNA⟩ : ∃ z, acc.length = z := ⟨_, rfl⟩
              have HNA := Lib.hid hNA
              have hNA2 : NA ≤ 255 := by omega
              clear hNA
              go_upto_region 30 with fail
              clear y1 yl
              have hmb := HD.out.blk
              have m3 := hmb.cell 3 rfl
              have ml := hmb.lt
              simp only [HNA.out] at m3
              clear hmb
              refine wp_region_W (fun w' => w'.cell? ⟨M, 3, none⟩ = some (.slice dA NA dc)) 7 (by kernel_rfl) (by (try dsimp only); go_keep) (fun hHeld => ?_)
              refine wpW_take 0 (v := ?_) rfl (by kernel_rfl) (by kernel_rfl) (by kernel_rfl) (by kernel_rfl) (fun _ _ _ h => h) (Or.inl ⟨by rfl, ?_⟩) hHeld ?_
              rotate_left
              · intro w hSw
                try dsimp only at hSw
                go_simp
                try with_reducible rfl
              try simp only [Act.put, List.setIfInBounds_toArray, List.set_cons_zero, List.set_cons_succ]
              refine wpW_take 1 (v := ?_) rfl (by kernel_rfl) (by kernel_rfl) (by kernel_rfl) (by kernel_rfl) (fun _ _ _ h => h) (Or.inl ⟨by rfl, ?_⟩) hHeld ?_
              rotate_left
              · intro w hSw
                try dsimp only at hSw
                go_simp
                try with_reducible rfl
              try simp only [Act.put, List.setIfInBounds_toArray, List.set_cons_zero, List.set_cons_succ]
              refine wpW_take 2 (v := ?_) rfl (by kernel_rfl) (by kernel_rfl) (by kernel_rfl) (by kernel_rfl) (fun _ _ _ h => h) (Or.inl ⟨by rfl, ?_⟩) hHeld ?_
              rotate_left
              · intro w hSw
                try dsimp only at hSw
                go_simp
                try with_reducible rfl
              try simp only [Act.put, List.setIfInBounds_toArray, List.set_cons_zero, List.set_cons_succ]
              refine wpW_one 3 rfl (by kernel_rfl) (fun K hK => ?_)
              go_simp
              refine ((HD.out.keep (Below.refl wr.heap.size wr).drew).num 8 (by decide)).mono ?_
              rw [HXX.out]
              rintro e wq ⟨rfl, -, hst⟩
              simp only at hst ⊢
              have hmq := hst.blk
              have n3 := hmq.cell 3 rfl
              have nf3 := hmq.free 3
              have nl := hmq.lt
              simp only [HNA.out] at n3
              have hdt : wq.ownsRow D 3 1 (.slice dA NA dc) NA (intsV .i64 acc) := by have h := hst.dt; simp only [HNA.out] at h; exact h
              have hHq := hst.lt.2.2.2
              have hDq := hst.hD.2
              have hal1 : Below wq.heap.size wq (wq.alloc (.cells #[.int .i64 x] 3)) := (Below.refl _ _).alloc (Nat.le_refl _) _
              have hoq : (wq.alloc (.cells #[.int .i64 x] 3)).ownsRow D 3 1 (.slice dA NA dc) NA (intsV .i64 acc) := World.ownsRow.alloc hdt _
              have hbb : D ≤ (wq.alloc (.cells #[.int .i64 x] 3)).heap.size := by simp; omega
              refine hK.out _ _ (by (try dsimp only); exact n3) (fun hHeld => ?_)
              clear hK K
              try simp only [Act.put, List.setIfInBounds_toArray, List.set_cons_zero, List.set_cons_succ]
              refine wpW_one 4 rfl (by kernel_rfl) (fun K hK => ?_)
              go_simp
              refine hK.out _ _ (by (try dsimp only); go_keep) (fun hHeld => ?_)
              clear hK K
              try simp only [Act.put, List.setIfInBounds_toArray, List.set_cons_zero, List.set_cons_succ]
              refine wpW_one 5 rfl (by kernel_rfl) (fun K hK => ?_)
              refine step_app_one rfl _ _ 26 3 1 8 _ Tryd.underlying26 infoI1 rfl (by decide) rfl D _ NA _ rfl hoq wq.heap.size 1 rfl [.int .i64 x] 3 (0, 0) (heap_alloc_new wq _) rfl (by simp [Value.oneCell']) (by omega) (by omega) hbb (wq.heap.size + 1) (by simp) ?_
              intro g2 c2 w2 ho2 hg2 hat2 hlt2
              have hx2 := (hst.keep hal1).blk.keepT hg2 (fun q e => own_typ hoq e) (by decide)
              have x23 := hx2.cell 3 rfl
              have x2f := hx2.free 3
              have x2l := hx2.lt
              simp only [HNA.out] at x23
              have HDN := Lib.hid (hst.setD (x := x) (hal1.mono hHq) HNA.out ho2 hg2 (hat2.imp_right fun e => by omega))
              clear hx2 ho2 hg2 hat2
              refine hK.out _ _ (by (try dsimp only); exact x23) (fun hHeld => ?_)
              clear hK K
              try simp only [Act.put, List.setIfInBounds_toArray, List.set_cons_zero, List.set_cons_succ]
              refine wpW_take 6 (v := ?_) rfl (by kernel_rfl) (by kernel_rfl) (by kernel_rfl) (by kernel_rfl) (fun _ _ _ h => h) (Or.inl ⟨by rfl, ?_⟩) hHeld ?_
              rotate_left
              · intro w hSw
                try dsimp only at hSw
                go_simp
                try with_reducible rfl
              try simp only [Act.put, List.setIfInBounds_toArray, List.set_cons_zero, List.set_cons_succ]
              refine wpW_last 7 rfl (by kernel_rfl) (by decide) (fun K hK => ?_)
              go_simp
              refine hK.out _ _ ?_
              clear hK K
              try simp only [Act.put, List.setIfInBounds_toArray, List.set_cons_zero, List.set_cons_succ]
              refine wpW_done (by kernel_rfl) ?_ _
              go_wp2
              go_roundg k
              case measure => omega
              case rel => exact ⟨k, acc ++ [x], sx, some ⟨g2, 0, none⟩, c2, _, by go_num, HDN, by simp; have := HNA.out; omega, HF2, Nat.le_refl _⟩
        case rest =>
          obtain ⟨dA, dc, D, H, HD⟩ := hcut
          rename World => wa3
          go_wp2_with fail
          refine (HD.out.num 2 (by decide)).mono ?_
          have hk1 := numR_bd2 HD.out.byt
          obtain ⟨⟨k4, sb4⟩, hkb⟩ : ∃ z, numR s6 2 = z := ⟨_, rfl⟩
          rw [hkb] at hk1 ⊢
          rintro e wd ⟨rfl, -, hst⟩
          simp only at hst hk1 ⊢
          obtain ⟨K4, rfl⟩ := Int.eq_ofNat_of_zero_le hk1.1
          have HT0 : Hid (([] : List (Int × Int)) ++ (linesR K4 sb4).1 = LS ∧ (linesR K4 sb4).2 = s7) := Lib.hid (by
            have h := HS7.out
            unfold lnsR at h
            rw [hkb] at h
            simp only [Int.toNat_natCast] at h
            rw [h]
            exact ⟨rfl, rfl⟩)
          have HST0 := Lib.hid hst
          have hK4 : K4 ≤ 65535 := by omega
          clear hst hkb HD hk1
          go_upto_block 8 with fail
          go_cut [] (fun wx => ∃ (lA : Option Addr) (lc D H : Nat), Hid (DecSt w wx w.heap.size w.heap.size (w.heap.size + 1) M D H s7 ⟨tx, FS, TS, DS, LS, EN⟩ ⟨A5, c5, fA, fc, bA, bc, dA, dc, lA, lc⟩))
          case first =>
            go_wp2_with fail
            go_loopg [14] K4 (fun gk v14 wr => ∃ (k : Nat) (acc : List (Int × Int)) (s : RS) (lA : Option Addr) (lc D H : Nat), v14 = .int .i64 (k : Int) ∧ Hid (DecSt w wr w.heap.size w.heap.size (w.heap.size + 1) M D H s ⟨tx, FS, TS, DS, acc, EN⟩ ⟨A5, c5, fA, fc, bA, bc, dA, dc, lA, lc⟩) ∧ acc.length + k ≤ 65535 ∧ Hid (acc ++ (linesR k s).1 = LS ∧ (linesR k s).2 = s7) ∧ k ≤ gk)
            case atStart => exact ⟨K4, [], sb4, none, 0, D, H, rfl, HST0, by simp; omega, HT0, Nat.le_refl _⟩
            case round =>
              clear HST0 HT0
              obtain ⟨k, acc, s, lA, lc, D, H, rfl, HD, hal, HF, hgk⟩ := hrel
              obtain ⟨Ar, cr, hbr⟩ := HD.out.rdr.blk
              have y1 := hbr.cell 1 rfl
              have yl := hbr.lt
              clear hbr
              obtain ⟨sh, hsh⟩ : ∃ z, s.sh = z := ⟨_, rfl⟩
              rw [hsh] at y1
              have HSH := Lib.hid hsh
              clear hsh
              rcases k with _ | k
              case zero =>
                have HE : Hid (acc = LS ∧ s = s7) := Lib.hid (by have h := HF.out; simpa [linesR] using h)
                go_wp2
                go_meet
                obtain ⟨rfl, rfl⟩ := HE.out
                exact ⟨lA, lc, D, H, HD⟩
              rcases sh with _ | _
              case true =>
                have HE : Hid (acc = LS ∧ s = s7) := Lib.hid (by have h := HF.out; simp only [linesR] at h; rw [if_pos HSH.out] at h; simpa using h)
                go_wp2
                go_meet
                obtain ⟨rfl, rfl⟩ := HE.out
                exact ⟨lA, lc, D, H, HD⟩
              case false =>
                obtain ⟨⟨x1, sx1⟩, hx1⟩ : ∃ z, numR s 2 = z := ⟨_, rfl⟩
                obtain ⟨⟨x2, sx2⟩, hx2⟩ : ∃ z, numR sx1 2 = z := ⟨_, rfl⟩
                have HF2 : Hid ((acc ++ [(x1, x2)]) ++ (linesR k sx2).1 = LS ∧ (linesR k sx2).2 = s7) := Lib.hid (by
                  have h := HF.out
                  simp only [linesR] at h
                  rw [if_neg (by rw [HSH.out]; decide)] at h
                  simp only [hx1, hx2] at h
                  rw [List.append_assoc]
                  exact h)
                have HX1' := Lib.hid hx1
                have HX2' := Lib.hid hx2
                clear hx1 hx2 HF
                go_wp2_with fail
                refine (HD.out.num 2 (by decide)).mono ?_
                rw [HX1'.out]
                rintro e wq ⟨rfl, -, hst⟩
                simp only at hst ⊢
                have HSQ := Lib.hid hst
                clear hst HD y1 yl
                go_upto_region 35 with fail
                obtain ⟨Y, hY⟩ : ∃ z, wq.heap.size = z := ⟨_, rfl⟩
                obtain ⟨wv, hwv⟩ : ∃ z, wq.alloc (.cells #[.int .i64 x1, .int .i64 0] 76) = z := ⟨_, rfl⟩
                have HSV : Hid (DecSt w wv w.heap.size w.heap.size (w.heap.size + 1) M D H sx1 ⟨tx, FS, TS, DS, acc, EN⟩ ⟨A5, c5, fA, fc, bA, bc, dA, dc, lA, lc⟩) := Lib.hid (by rw [← hwv]; exact HSQ.out.keep ((Below.refl _ _).alloc (Nat.le_refl _) _))
                have HBV : Hid (Blk wv Y 76 [.int .i64 x1, .int .i64 0]) := Lib.hid (by rw [← hwv, ← hY]; exact Blk.new _ _ _)
                have hHY : H ≤ Y := by have := HSQ.out.lt.2.2.2; omega
                rw [hwv, hY]
                clear hwv hY HSQ
                go_wp2_with fail
                refine (HSV.out.num 2 (by decide)).mono ?_
                rw [HX2'.out]
                rintro e wu ⟨rfl, hgu, hst⟩
                simp only at hst ⊢
                have hbu := HBV.out.keepT hgu (fun q e => by injection e with e; subst e; exact HSV.out.rdr.typ) (by decide)
                have u0 := hbu.cell 0 rfl
                have u1 := hbu.cell 1 rfl
                have uf1 := hbu.free 1
                have ul := hbu.lt
                have hsg : wu.grownBy (wu.setCell ⟨Y, 1, none⟩ (.int .i64 x2)) (some Y) := gb_setCell (gb_refl _ _) _ _
                have HSW := Lib.hid (hst.below (gb_to_below hsg hHY hst.lt.2.2.2))
                have HBW := Lib.hid (hbu.set 1 (.int .i64 x2))
                clear hst hgu hbu hsg HBV HSV
                go_upto_region 36 with fail
                obtain ⟨wx, hwx⟩ : ∃ z, wu.setCell ⟨Y, 1, none⟩ (.int .i64 x2) = z := ⟨_, rfl⟩
                rw [hwx] at HSW HBW ⊢
                clear hwx u0 u1 uf1 ul
                have u0 := HBW.out.cell 0 rfl
                have u1 := HBW.out.cell 1 rfl
                have ul := HBW.out.lt
                have hmb := HSW.out.blk
                have m4 := hmb.cell 4 rfl
                have mf4 := hmb.free 4
                have ml := hmb.lt
                have hHx := HSW.out.lt.2.2.2
                have hBw : w.heap.size ≤ wx.heap.size := by have := HSW.out.bH; omega
                obtain ⟨NA, hNA⟩ : ∃ z, acc.length = z := ⟨_, rfl⟩
                simp only [hNA] at m4
                have HNA := Lib.hid hNA
                have hNA2 : NA ≤ 65535 := by omega
                have HLN : Hid (wx.ownsRow w.heap.size 76 2 (.slice lA NA lc) NA (linesV acc)) := Lib.hid (by have h := HSW.out.ln; simp only [hNA] at h; exact h)
                clear hmb hNA
                go_wp2_with (first | (at_builtin; refine app_one rfl _ _ 27 76 2 16 _ Tryd.underlying27 infoLn2 rfl (by decide) rfl w.heap.size _ NA _ rfl (World.ownsRow.alloc HLN.out _) wx.heap.size 1 rfl [.int .i64 x1, .int .i64 x2] 76 (0, 0) (heap_alloc_new wx _) rfl (by simp [Value.oneCell']) (by omega) (by omega) (by simp; omega) (wx.heap.size + 1) (by simp) ?a4))
                case a4 =>
                  intro g2 c2 w2 ho2 hg2 hat2 hlt2
                  have hal1 : Below wx.heap.size wx (wx.alloc (.cells #[.int .i64 x1, .int .i64 x2] 76)) := (Below.refl _ _).alloc (Nat.le_refl _) _
                  have hoA := World.ownsRow.alloc HLN.out (.cells #[.int .i64 x1, .int .i64 x2] 76)
                  have hx2 := (HSW.out.keep hal1).blk.keepT hg2 (fun q e => own_typ hoA e) (by decide)
                  have x24 := hx2.cell 4 rfl
                  have x2f := hx2.free 4
                  have x2l := hx2.lt
                  simp only [HNA.out] at x24
                  have HDN := Lib.hid (HSW.out.setL (x := (x1, x2)) (hal1.mono hHx) HNA.out ho2 hg2 (hat2.imp_right fun e => by omega))
                  clear hx2 ho2 hg2 hat2 hal1 m4 mf4 u0 u1 ul HSW HLN HBW hoA
                  go_wp2
                  go_roundg k
                  case measure => omega
                  case rel => exact ⟨k, acc ++ [(x1, x2)], sx2, some ⟨g2, 0, none⟩, c2, D, _, by go_num, HDN, by simp; omega, HF2, Nat.le_refl _⟩
          case rest =>
            clear HST0 HT0
            obtain ⟨lA, lc, D, H, HD⟩ := hcut
            rename World => wx
            have HBD2 : Hid (decF b = if s7.sh = true then (Img.zero, 5) else if s7.inp ≠ [] then (Img.zero, 4) else if checkE ⟨tx, FS, TS, DS, LS, EN⟩ ≠ 0 then (Img.zero, checkE ⟨tx, FS, TS, DS, LS, EN⟩) else (⟨tx, FS, TS, DS, LS, EN⟩, 0)) := Lib.hid (by have h := HBODY.out HMC.out; rw [HBR.out] at h; exact h)
            obtain ⟨Ar, cr, hbr⟩ := HD.out.rdr.blk
            obtain ⟨RL, hRL⟩ : ∃ z, s7.inp.length = z := ⟨_, rfl⟩
            obtain ⟨sh, hsh⟩ : ∃ z, s7.sh = z := ⟨_, rfl⟩
            rw [hRL, hsh] at hbr
            have y0 := hbr.cell 0 rfl
            have y1 := hbr.cell 1 rfl
            have yl := hbr.lt
            have HRL := Lib.hid hRL
            have HSH := Lib.hid hsh
            have hRb := HD.out.res
            have x0 := hRb.cell 0 rfl
            have x1 := hRb.cell 1 rfl
            have x2 := hRb.cell 2 rfl
            have x3 := hRb.cell 3 rfl
            have x4 := hRb.cell 4 rfl
            have x5 := hRb.cell 5 rfl
            have f0 := hRb.free 0
            have f1 := hRb.free 1
            have f2 := hRb.free 2
            have f3 := hRb.free 3
            have f4 := hRb.free 4
            have f5 := hRb.free 5
            have xl := hRb.lt
            have HRZ := Lib.hid hRb
            have HB3 : Hid (Below w.heap.size w wx) := Lib.hid HD.out.bel
            have hz3 : w.heap.size < wx.heap.size := xl
            clear hbr hRL hsh hRb
            rcases sh with _ | _
            case true =>
              have HC : Hid (decF b = (Img.zero, 5)) := Lib.hid (by rw [HBD2.out, if_pos HSH.out])
              go_wp2_with fail
              have hz := set6z HRZ.out (.slice none 0 0) (.slice none 0 0) (.slice none 0 0) (.slice none 0 0) (.slice none 0 0) (.int .i64 0)
              have hzb := hz.1
              have z0 := hzb.cell 0 rfl
              have z1 := hzb.cell 1 rfl
              have z2 := hzb.cell 2 rfl
              have z3 := hzb.cell 3 rfl
              have z4 := hzb.cell 4 rfl
              have z5 := hzb.cell 5 rfl
              refine bodyPost_ret (v := .tuple #[.agg #[.slice none 0 0, .slice none 0 0, .slice none 0 0, .slice none 0 0, .slice none 0 0, .int .i64 0], .int .i64 5]) (by simp [results, Tryd.results17, go_sem, z0, z1, z2, z3, z4, z5]) rfl (dec_bad (HB3.out.trans (gb_to_below hz.2 (by omega) (by have := HB3.out.size; omega))) HC.out)
            case false =>
              by_cases hR0 : RL = 0
              case neg =>
                have hR1 : (0 : Int) < (RL : Int) := by omega
                have HC : Hid (decF b = (Img.zero, 4)) := Lib.hid (by rw [HBD2.out, if_neg (by rw [HSH.out]; decide), if_pos (fun e => hR0 (by rw [← HRL.out, e]; rfl))])
                go_wp2_with fail
                have hz := set6z HRZ.out (.slice none 0 0) (.slice none 0 0) (.slice none 0 0) (.slice none 0 0) (.slice none 0 0) (.int .i64 0)
                have hzb := hz.1
                have z0 := hzb.cell 0 rfl
                have z1 := hzb.cell 1 rfl
                have z2 := hzb.cell 2 rfl
                have z3 := hzb.cell 3 rfl
                have z4 := hzb.cell 4 rfl
                have z5 := hzb.cell 5 rfl
                refine bodyPost_ret (v := .tuple #[.agg #[.slice none 0 0, .slice none 0 0, .slice none 0 0, .slice none 0 0, .slice none 0 0, .int .i64 0], .int .i64 4]) (by simp [results, Tryd.results17, go_sem, z0, z1, z2, z3, z4, z5]) rfl (dec_bad (HB3.out.trans (gb_to_below hz.2 (by omega) (by have := HB3.out.size; omega))) HC.out)
              subst hR0
              have HC : Hid (decF b = if checkE ⟨tx, FS, TS, DS, LS, EN⟩ ≠ 0 then (Img.zero, checkE ⟨tx, FS, TS, DS, LS, EN⟩) else (⟨tx, FS, TS, DS, LS, EN⟩, 0)) := Lib.hid (by rw [HBD2.out, if_neg (by rw [HSH.out]; decide), if_neg (by simp [List.eq_nil_of_length_eq_zero HRL.out])])
              have hI := HD.out.img HIB.out
              have hCH := imgCheck_any ⟨tx, FS, TS, DS, LS, EN⟩ ⟨A5, c5, fA, fc, bA, bc, dA, dc, lA, lc⟩ wx hI.1 hI.2
              unfold Img.val at hCH
              simp only at hCH
              obtain ⟨CE, hCE⟩ : ∃ z, checkE ⟨tx, FS, TS, DS, LS, EN⟩ = z := ⟨_, rfl⟩
              have HCE := Lib.hid hCE
              rw [hCE] at hCH
              have hmb := HD.out.blk
              simp only at hmb
              obtain ⟨N0, hN0⟩ : ∃ z, tx.length = z := ⟨_, rfl⟩
              obtain ⟨N1, hN1⟩ : ∃ z, FS.length = z := ⟨_, rfl⟩
              obtain ⟨N2, hN2⟩ : ∃ z, TS.length = z := ⟨_, rfl⟩
              obtain ⟨N3, hN3⟩ : ∃ z, DS.length = z := ⟨_, rfl⟩
              obtain ⟨N4, hN4⟩ : ∃ z, LS.length = z := ⟨_, rfl⟩
              rw [hN0, hN1, hN2, hN3, hN4] at hCH hmb
              have HNN := Lib.hid (And.intro hN0 (And.intro hN1 (And.intro hN2 (And.intro hN3 hN4))))
              have HCH := Lib.hid hCH
              clear hI hCH hCE hN0 hN1 hN2 hN3 hN4
              have m0 := hmb.cell 0 rfl
              have m1 := hmb.cell 1 rfl
              have m2 := hmb.cell 2 rfl
              have m3 := hmb.cell 3 rfl
              have m4 := hmb.cell 4 rfl
              have m5 := hmb.cell 5 rfl
              have ml := hmb.lt
              have HMB := Lib.hid hmb
              clear hmb
              go_wp2_with fail
              refine HCH.out.mono ?_
              rintro e wz ⟨rfl, hbz⟩
              have HDZ := Lib.hid (HD.out.keep hbz)
              have HMZ := Lib.hid (HMB.out.keep hbz)
              clear HD HMB HCH HRZ HB3 hbz m0 m1 m2 m3 m4 m5 ml y0 y1 yl x0 x1 x2 x3 x4 x5 f0 f1 f2 f3 f4 f5 xl hz3
              have hRb := HDZ.out.res
              have x0 := hRb.cell 0 rfl
              have x1 := hRb.cell 1 rfl
              have x2 := hRb.cell 2 rfl
              have x3 := hRb.cell 3 rfl
              have x4 := hRb.cell 4 rfl
              have x5 := hRb.cell 5 rfl
              have f0 := hRb.free 0
              have f1 := hRb.free 1
              have f2 := hRb.free 2
              have f3 := hRb.free 3
              have f4 := hRb.free 4
              have f5 := hRb.free 5
              have xl := hRb.lt
              have HRZ := Lib.hid hRb
              have HB3 : Hid (Below w.heap.size w wz) := Lib.hid HDZ.out.bel
              clear hRb
              by_cases hC0 : CE = 0
              case neg =>
                have q1 : (CE != 0) = true := by simpa using hC0
                have HC2 : Hid (decF b = (Img.zero, CE)) := Lib.hid (by rw [HC.out, HCE.out, if_pos hC0])
                clear hC0
                go_wp2_with fail
                have hz := set6z HRZ.out (.slice none 0 0) (.slice none 0 0) (.slice none 0 0) (.slice none 0 0) (.slice none 0 0) (.int .i64 0)
                have hzb := hz.1
                have z0 := hzb.cell 0 rfl
                have z1 := hzb.cell 1 rfl
                have z2 := hzb.cell 2 rfl
                have z3 := hzb.cell 3 rfl
                have z4 := hzb.cell 4 rfl
                have z5 := hzb.cell 5 rfl
                refine bodyPost_ret (v := .tuple #[.agg #[.slice none 0 0, .slice none 0 0, .slice none 0 0, .slice none 0 0, .slice none 0 0, .int .i64 0], .int .i64 CE]) (by simp [results, Tryd.results17, go_sem, z0, z1, z2, z3, z4, z5]) rfl (dec_bad (HB3.out.trans (gb_to_below hz.2 (by omega) (by have := HB3.out.size; omega))) HC2.out)
              subst hC0
              have m0 := HMZ.out.cell 0 rfl
              have m1 := HMZ.out.cell 1 rfl
              have m2 := HMZ.out.cell 2 rfl
              have m3 := HMZ.out.cell 3 rfl
              have m4 := HMZ.out.cell 4 rfl
              have m5 := HMZ.out.cell 5 rfl
              have ml := HMZ.out.lt
              have HC2 : Hid (decF b = (⟨tx, FS, TS, DS, LS, EN⟩, 0)) := Lib.hid (by rw [HC.out, HCE.out, if_neg (by simp)])
              go_wp2_with fail
              have hz := set6z HRZ.out (.slice A5 N0 c5) (.slice fA N1 fc) (.slice bA N2 bc) (.slice dA N3 dc) (.slice lA N4 lc) (.int .i64 EN)
              have hzb := hz.1
              have z0 := hzb.cell 0 rfl
              have z1 := hzb.cell 1 rfl
              have z2 := hzb.cell 2 rfl
              have z3 := hzb.cell 3 rfl
              have z4 := hzb.cell 4 rfl
              have z5 := hzb.cell 5 rfl
              have hfin := decs_fin HDZ.out HIB.out hz.2
              refine bodyPost_ret (v := .tuple #[.agg #[.slice A5 N0 c5, .slice fA N1 fc, .slice bA N2 bc, .slice dA N3 dc, .slice lA N4 lc, .int .i64 EN], .int .i64 0]) (by simp [results, Tryd.results17, go_sem, z0, z1, z2, z3, z4, z5]) rfl ?_
              obtain ⟨rfl, rfl, rfl, rfl, rfl⟩ := HNN.out
              exact ⟨HB3.out.trans (gb_to_below hz.2 (Nat.le_refl _) HB3.out.size), ⟨A5, c5, fA, fc, bA, bc, dA, dc, lA, lc⟩, by rw [HC2.out]; rfl, by rw [HC2.out]; exact hfin.1, by rw [HC2.out]; exact hfin.2⟩
end Go.Proofs.YtdliienkbpdnbaaDoor
