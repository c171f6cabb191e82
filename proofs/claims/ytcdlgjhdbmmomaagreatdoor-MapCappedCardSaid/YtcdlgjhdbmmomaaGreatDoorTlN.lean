/- tally.number, walked. -/
import Derived.Test.YtcdlgjhdbmmomaaGreatDoorTlP
import Derived.Test.YtcdlgjhdbmmomaaGreatDoorShT
import Derived.Test.YtcdlgjhdbmmomaaGreatDoorAppG
import Derived.Lib.SmallJoins
import Derived.Lib.AppendIntMem
import Derived.Lib.AtoiErrMem
import Derived.Deep.DeepCutAuto
import Derived.Deep.CutBlock
import Derived.Deep.LoopGhost
import Derived.Deep.QuietTactic
import Derived.BigQuiet
import Derived.IntWalk
import Derived.WalkLawsBesides
namespace Go.Proofs.YtcdlgjhdbmmomaaGreatDoor
open Go.RowKit Go.Lib Go.Joins
structure TlyW (w : World) : Prop where
 tab : Lib.TabIs Tryz.prog w "internal/strconv.uint64pow10" .u64 Lib.pow10Tab
 mx : ∃ m, w.cell? ⟨2, 0, none⟩ = some (.int .i64 m)
 syn : ∃ ev, w.cell? ⟨3, 0, none⟩ = some ev ∧ (ev = .nilIface ∨ ∃ te pe, ev = .iface te pe)
 rng : ∃ ev, w.cell? ⟨4, 0, none⟩ = some ev ∧ (ev = .nilIface ∨ ∃ te pe, ev = .iface te pe)
theorem TlyW.below {w w' : World} (h : TlyW w) (hb : Below w.heap.size w w') : TlyW w' := by
 obtain ⟨h1, ⟨m, h2⟩, ⟨ev, h3, h4⟩, ⟨er, h5, h6⟩⟩ := h; exact ⟨tab_stays (g := 5) (by kernel_rfl) h1 hb lr', ⟨m, (hb.cell (lt_of_cell h2)).trans h2⟩, ⟨ev, (hb.cell (lt_of_cell h3)).trans h3, h4⟩, ⟨er, (hb.cell (lt_of_cell h5)).trans h5, h6⟩⟩
def NumPost (w : World) (l : List UInt8) (e : Ending) (w' : World) : Prop :=
 Below w.heap.size w w' ∧ ∃ (v : Int) (b : Bool), e = .returned (.tuple #[.int .i64 v, .bool b]) ∧ (∀ x, numE l = some x → b = true ∧ v = x) ∧ (numE l = none → b = false)
theorem numE_not {l : List UInt8} (h : notNum (Lib.atoiAll l) = true) : numE l = none := by
 unfold numE; generalize Lib.atoiAll l = r at h
 cases r with
 | ok v => cases h
 | _ => rfl
theorem atoi_is {s : ByteArray} {v : Int} : (⟨(Lib.itoa v).toArray⟩ : ByteArray) = s ↔ Lib.itoa v = s.data.toList := by
 constructor
 · rintro rfl; simp
 · intro h; rw [h]
set_option maxHeartbeats 1000000 in
set_option maxRecDepth 100000 in
theorem number_any (s : ByteArray) (hs : s.size ≤ 1000000) (w : World) (hw : TlyW w) : Calls Tryz.prog 38 #[.string s] w (NumPost w s.data.toList) := by
 have HW := hd' hw
 by_cases hok : ∃ v, Lib.atoiAll s.data.toList = .ok v
 · obtain ⟨v, hr⟩ := hok; obtain ⟨b1, b2⟩ := atoiAll_bd hr; have HA := hd' (Sh.strconv_Atoi_ok s (by omega) v hr w); have HR := hd' hr; clear hr hw
   go_enter Tryz.func38, Tryz.ntmps38
   go_wp2_with fail
   refine HA.out.mono ?_; rintro e w1 ⟨rfl, hw1⟩
   have hb1 : Below w.heap.size w w1 := by
    rcases hw1 with rfl | ⟨t, rfl⟩
    · exact Below.refl _ _
    · exact below_bytesWorld _ _ _ _ lr'
   have HI := hd' (Sh.strconv_Itoa v b1 b2 w1 (HW.out.below hb1).tab); have HB1 := hd' hb1; obtain ⟨S2, hS2⟩ := ex' (⟨(Lib.itoa v).toArray⟩ : ByteArray)
   rw [hS2] at HI; have HS2 := hd' hS2; have hb1' : True := trivial; clear hw1 hb1 hS2
   go_wp2_with fail
   refine HI.out.mono ?_; rintro e w2 ⟨rfl, k, os, rfl⟩; have HB2 := hd' (HB1.out.trans (below_grow w.heap.size w1 HB1.out.size k os)); obtain ⟨W, hW⟩ := ex' (Go.Sort.grow (w1.drewN k) os)
   rw [hW] at HB2 ⊢; clear hW HI
   by_cases hc : S2 = s
   · subst hc
     by_cases h0 : 0 ≤ v
     · by_cases h1 : v ≤ 1073741824
       · have q1 : v ≥ 0 := h0; have q2 : decide (v ≥ 0) = true := decide_eq_true q1; have q3 : decide (v ≤ 1073741824) = true := decide_eq_true h1; have HN : Hid (numE S2.data.toList = some v) := hd' (by unfold numE; rw [HR.out]; simp only; rw [if_pos ⟨atoi_is.1 HS2.out, h0, h1⟩])
         go_wp2_with fail
         first | go_ret | refine bodyPost_ret (results_tmp2 rfl _ _ _) rfl ?_
         exact ⟨HB2.out, v, true, rfl, fun x hx => ⟨rfl, (by rw [HN.out] at hx; injection hx)⟩, fun h => (by rw [HN.out] at h; cases h)⟩
       · have q1 : v ≥ 0 := h0; have q2 : decide (v ≥ 0) = true := decide_eq_true q1; have q3 : decide (v ≤ 1073741824) = false := decide_eq_false h1; have HN : Hid (numE S2.data.toList = none) := hd' (by unfold numE; rw [HR.out]; simp only; rw [if_neg (fun h => h1 h.2.2)])
         go_wp2_with fail
         first | go_ret | refine bodyPost_ret (results_tmp2 rfl _ _ _) rfl ?_
         exact ⟨HB2.out, v, false, rfl, fun x hx => (by rw [HN.out] at hx; cases hx), fun _ => rfl⟩
     · have q1 : ¬ v ≥ 0 := h0; have q2 : decide (v ≥ 0) = false := decide_eq_false q1; have HN : Hid (numE S2.data.toList = none) := hd' (by unfold numE; rw [HR.out]; simp only; rw [if_neg (fun h => h0 h.2.1)])
       go_wp2_with fail
       first | go_ret | refine bodyPost_ret (results_tmp2 rfl _ _ _) rfl ?_
       exact ⟨HB2.out, v, false, rfl, fun x hx => (by rw [HN.out] at hx; cases hx), fun _ => rfl⟩
   · have q1 : ¬ S2.toList = s.toList := fun e => by rw [ByteArray.toList_eq, ByteArray.toList_eq] at e; exact hc (ByteArray.ext (Array.toList_inj.mp e))
     have q2 : decide (S2 = s) = false := decide_eq_false hc; have HN : Hid (numE s.data.toList = none) := hd' (by unfold numE; rw [HR.out]; simp only; rw [if_neg (fun h => hc (HS2.out.symm.trans (atoi_is.2 h.1)))])
     go_wp2_with fail
     first | go_ret | refine bodyPost_ret (results_tmp2 rfl _ _ _) rfl ?_
     exact ⟨HB2.out, v, false, rfl, fun x hx => (by rw [HN.out] at hx; cases hx), fun _ => rfl⟩
 · by_cases hr : notNum (Lib.atoiAll s.data.toList) = true
   · clear hok; obtain ⟨ev, h3, h4⟩ := hw.syn; have HA := hd' (Sh.strconv_Atoi_bad s (by omega) hr ev w h3 h4); have HN : Hid (numE s.data.toList = none) := hd' (numE_not hr); clear hr hw h3 h4
     go_enter Tryz.func38, Tryz.ntmps38
     go_wp2_with fail
     refine HA.out.mono ?_; rintro e w1 ⟨N, rfl, -, -, hb1⟩; have HB1 := hd' hb1; clear hb1
     go_wp2_with fail
     first | go_ret | refine bodyPost_ret (results_tmp2 rfl _ _ _) rfl ?_
     exact ⟨HB1.out, 0, false, rfl, fun x hx => (by rw [HN.out] at hx; cases hx), fun _ => rfl⟩
   · have hr : Lib.atoiAll s.data.toList = .range := by
      generalize Lib.atoiAll s.data.toList = q at hok hr
      cases q with
      | ok v => exact absurd ⟨v, rfl⟩ hok
      | range => rfl
      | _ => exact absurd rfl hr
     clear hok; obtain ⟨ev, h3, h4⟩ := hw.rng; have HA := hd' (Sh.strconv_Atoi_range s (by omega) hr ev w h3 h4); have HN : Hid (numE s.data.toList = none) := hd' (by unfold numE; rw [hr]); obtain ⟨sv, hsv⟩ := ex' (Lib.atoiSat s.data.toList)
     rw [hsv] at HA; clear hr hw h3 h4 hsv
     go_enter Tryz.func38, Tryz.ntmps38
     go_wp2_with fail
     refine HA.out.mono ?_; rintro e w1 ⟨N, rfl, -, -, hb1⟩; have HB1 := hd' hb1; clear hb1
     go_wp2_with fail
     first | go_ret | refine bodyPost_ret (results_tmp2 rfl _ _ _) rfl ?_
     exact ⟨HB1.out, sv, false, rfl, fun x hx => (by rw [HN.out] at hx; cases hx), fun _ => rfl⟩
end Go.Proofs.YtcdlgjhdbmmomaaGreatDoor
