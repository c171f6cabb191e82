/- The keep's told, walked. -/
import Derived.Test.YtgeljimckoodiaaDoorKeepD
namespace Go.Proofs.YtgeljimckoodiaaDoor
open Go.RowKit
def ToldPost (w : World) (L : List Ins) (I : List Int) (e : Ending) (w' : World) : Prop :=
  Below w.heap.size w w' ∧ ∃ A c, e = .returned (.tuple #[.slice A (runS (aloneM L) I 100).told.length c, .int .i64 (runS (aloneM L) I 100).en, .bool true]) ∧
    w'.ownsRow w.heap.size 3 1 (.slice A (runS (aloneM L) I 100).told.length c) (runS (aloneM L) I 100).told.length (intsV .i64 (runS (aloneM L) I 100).told)
set_option maxHeartbeats 4000000 in
set_option maxRecDepth 100000 in
theorem told_any (L : List Ins) (g og c : Nat) (I : List Int) (iA : Option Addr) (ic : Nat) (w : World) (hT : Tabs w) (hL : 0 < L.length) (hm : L.length ≤ 1000) (hcap : L.length ≤ c) (hg : g < w.heap.size) (hk : ∀ i ∈ L, i.chk = 0) (hc : ∀ j u, (insR L)[j]? = some u → w.cell? ⟨g, og + j, none⟩ = some u)
    (hin : RdG w w.heap.size iA (intsV .i64 I)) (hic : I.length ≤ ic) (hil : I.length ≤ 1000) (hI : ∀ x ∈ I, N64 x) (hr : runE (aloneM L) I 100 = 0) :
    Calls Tryd.prog 15 #[.slice iA I.length ic, .slice (some ⟨g, og, none⟩) L.length c] w (ToldPost w L I) := by
  have HT := Lib.hid hT
  have HIN := Lib.hid hin
  have HII := Lib.hid hI
  have HR := Lib.hid hr
  have HAL := Lib.hid (alone_any L g og c w hT hL hm hcap hg hk hc)
  have HB0 := Lib.hid (Below.refl w.heap.size w)
  clear hT hin hI hr hk hc
  go_enter Tryd.func15, Tryd.ntmps15
  go_wp2_with fail
  refine HAL.out.mono ?_
  rintro e w1 ⟨hb1, v, rfl, hrd, hok⟩
  unfold Img.val
  have HB1 := Lib.hid hb1
  have HRD := Lib.hid hrd
  have HOK := Lib.hid hok
  clear hb1 hrd hok
  go_wp2_with fail
  obtain ⟨M, hM⟩ : ∃ M, aloneM L = M := ⟨_, rfl⟩
  rw [hM] at HRD HOK HR
  have HMM := Lib.hid hM
  obtain ⟨w2, hw2⟩ : ∃ w2, w1.alloc (.cells (M.val v) 35) = w2 := ⟨_, rfl⟩
  have hb2 : Below w1.heap.size w1 w2 := by rw [← hw2]; exact (Below.refl _ _).alloc (Nat.le_refl _) _
  have hB2 : Below w.heap.size w w2 := HB1.out.trans (hb2.mono HB1.out.size)
  have hrun := run_any M v iA ic I 100 w2 (HT.out.below hB2) ((HRD.out.below hb2).more hb2.size) HOK.out ((HIN.out.below hB2).more hB2.size) hic (by omega) ⟨by decide, by decide⟩ HII.out
  rw [← hw2] at hrun hB2
  rw [← hM] at hrun hB2
  refine hrun.mono ?_
  rintro e w3 ⟨hb3, -, hpost⟩
  obtain ⟨A, c3, rfl, ho3⟩ := hpost (by rw [hM]; exact HR.out)
  have HB3 := Lib.hid (hB2.trans (hb3.mono hB2.size))
  have HO3 := Lib.hid (own_more ho3 (show w.heap.size ≤ _ from hB2.size))
  clear hrun hpost ho3 hb3 hb2 hw2
  unfold runV
  obtain ⟨S, hS⟩ : ∃ S, runS (aloneM L) I 100 = S := ⟨_, rfl⟩
  rw [hS] at HO3 ⊢
  go_wp2
  go_quiet (fail)
  go_wp2
  go_ret3
  have hz := HB3.out.size
  refine ⟨below_dN (HB3.out.alloc hz _) _, A, c3, (by rw [hS]; rfl), ?_⟩
  rw [hS]
  exact (World.ownsRow.alloc HO3.out _)
end Go.Proofs.YtgeljimckoodiaaDoor
