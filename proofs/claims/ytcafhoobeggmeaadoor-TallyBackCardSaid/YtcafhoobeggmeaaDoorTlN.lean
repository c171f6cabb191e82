/- tally.number, walked. -/
import Derived.Test.YtcafhoobeggmeaaDoorTlP
import Derived.Test.YtcafhoobeggmeaaDoorShT
import Derived.Test.YtcafhoobeggmeaaDoorAppG
import Derived.Lib.SmallJoins
import Derived.Lib.AppendIntMem
import Derived.Lib.AtoiErrMem
import Derived.Deep.DeepCutAuto
import Derived.Deep.CutBlock
import Derived.Deep.LoopGhost
import Derived.Deep.QuietTactic
import Derived.BigQuiet
import Derived.IntWalk
import Derived.WalkLawsBesides
namespace Go.Proofs.YtcafhoobeggmeaaDoor
open Go.RowKit Go.Lib Go.Joins
/-- what a tally's functions read of the library's variables -/
structure TlyW (w : World) : Prop where
  tab : Lib.TabIs Tryd.prog w "internal/strconv.uint64pow10" .u64 Lib.pow10Tab
  mx : ∃ m, w.cell? ⟨3, 0, none⟩ = some (.int .i64 m)
  syn : ∃ ev, w.cell? ⟨4, 0, none⟩ = some ev ∧ (ev = .nilIface ∨ ∃ te pe, ev = .iface te pe)
  rng : ∃ ev, w.cell? ⟨5, 0, none⟩ = some ev ∧ (ev = .nilIface ∨ ∃ te pe, ev = .iface te pe)
theorem TlyW.below {w w' : World} (h : TlyW w) (hb : Below w.heap.size w w') : TlyW w' := by
  obtain ⟨h1, ⟨m, h2⟩, ⟨ev, h3, h4⟩, ⟨er, h5, h6⟩⟩ := h
  exact ⟨tab_stays (g := 2) (by kernel_rfl) h1 hb (Nat.le_refl _), ⟨m, (hb.cell (lt_of_cell h2)).trans h2⟩, ⟨ev, (hb.cell (lt_of_cell h3)).trans h3, h4⟩, ⟨er, (hb.cell (lt_of_cell h5)).trans h5, h6⟩⟩
def NumPost (w : World) (l : List UInt8) (e : Ending) (w' : World) : Prop :=
  Below w.heap.size w w' ∧ ∃ (v : Int) (b : Bool), e = .returned (.tuple #[.int .i64 v, .bool b]) ∧ (∀ x, numE l = some x → b = true ∧ v = x) ∧ (numE l = none → b = false)
theorem numE_not {l : List UInt8} (h : notNum (Lib.atoiAll l) = true) : numE l = none := by
  unfold numE
  generalize Lib.atoiAll l = r at h
  cases r with
  | ok v => cases h
  | _ => rfl
theorem atoi_is {s : ByteArray} {v : Int} : (⟨(Lib.itoa v).toArray⟩ : ByteArray) = s ↔ Lib.itoa v = s.data.toList := by
  constructor
  · rintro rfl
    simp
  · intro h
    rw [h]
set_option maxHeartbeats 1000000 in
set_option maxRecDepth 100000 in
theorem number_any (s : ByteArray) (hs : s.size ≤ 1000000) (w : World) (hw : TlyW w) : Calls Tryd.prog 26 #[.string s] w (NumPost w s.data.toList) := by
  have HW := Lib.hid hw
  by_cases hok : ∃ v, Lib.atoiAll s.data.toList = .ok v
  · obtain ⟨v, hr⟩ := hok
    obtain ⟨b1, b2⟩ := atoiAll_bd hr
    have HA := Lib.hid (Sh.strconv_Atoi_ok s (by omega) v hr w)
    have HR := Lib.hid hr
    clear hr hw
    go_enter Tryd.func26, Tryd.ntmps26
    go_wp2_with fail
    refine HA.out.mono ?_
    rintro e w1 ⟨rfl, hw1⟩
    have hb1 : Below w.heap.size w w1 := by
      rcases hw1 with rfl | ⟨t, rfl⟩
      · exact Below.refl _ _
      · exact below_bytesWorld _ _ _ _ (Nat.le_refl _)
    have HI := Lib.hid (Sh.strconv_Itoa v b1 b2 w1 (HW.out.below hb1).tab)
    have HB1 := Lib.hid hb1
    obtain ⟨S2, hS2⟩ : ∃ z : ByteArray, ⟨(Lib.itoa v).toArray⟩ = z := ⟨_, rfl⟩
    rw [hS2] at HI
    have HS2 := Lib.hid hS2
    have hb1' : True := trivial
    clear hw1 hb1 hS2
    go_wp2_with fail
    refine HI.out.mono ?_
    rintro e w2 ⟨rfl, k, os, rfl⟩
    have HB2 := Lib.hid (HB1.out.trans (below_grow w.heap.size w1 HB1.out.size k os))
    obtain ⟨W, hW⟩ : ∃ z, Go.Sort.grow (w1.drewN k) os = z := ⟨_, rfl⟩
    rw [hW] at HB2 ⊢
    clear hW HI
    by_cases hc : S2 = s
    · subst hc
      by_cases h0 : 0 ≤ v
      · by_cases h1 : v ≤ 1073741824
        · have q1 : v ≥ 0 := h0
          have q2 : decide (v ≥ 0) = true := decide_eq_true q1
          have q3 : decide (v ≤ 1073741824) = true := decide_eq_true h1
          have HN : Hid (numE S2.data.toList = some v) := Lib.hid (by unfold numE; rw [HR.out]; simp only; rw [if_pos ⟨atoi_is.1 HS2.out, h0, h1⟩])
          go_wp2_with fail
          first | go_ret | refine bodyPost_ret (results_tmp2 rfl _ _ _) rfl ?_
          exact ⟨HB2.out, v, true, rfl, fun x hx => ⟨rfl, (by rw [HN.out] at hx; injection hx)⟩, fun h => (by rw [HN.out] at h; cases h)⟩
        · have q1 : v ≥ 0 := h0
          have q2 : decide (v ≥ 0) = true := decide_eq_true q1
          have q3 : decide (v ≤ 1073741824) = false := decide_eq_false h1
          have HN : Hid (numE S2.data.toList = none) := Lib.hid (by unfold numE; rw [HR.out]; simp only; rw [if_neg (fun h => h1 h.2.2)])
          go_wp2_with fail
          first | go_ret | refine bodyPost_ret (results_tmp2 rfl _ _ _) rfl ?_
          exact ⟨HB2.out, v, false, rfl, fun x hx => (by rw [HN.out] at hx; cases hx), fun _ => rfl⟩
      · have q1 : ¬ v ≥ 0 := h0
        have q2 : decide (v ≥ 0) = false := decide_eq_false q1
        have HN : Hid (numE S2.data.toList = none) := Lib.hid (by unfold numE; rw [HR.out]; simp only; rw [if_neg (fun h => h0 h.2.1)])
        go_wp2_with fail
        first | go_ret | refine bodyPost_ret (results_tmp2 rfl _ _ _) rfl ?_
        exact ⟨HB2.out, v, false, rfl, fun x hx => (by rw [HN.out] at hx; cases hx), fun _ => rfl⟩
    · have q1 : ¬ S2.toList = s.toList := fun e => by rw [ByteArray.toList_eq, ByteArray.toList_eq] at e; exact hc (ByteArray.ext (Array.toList_inj.mp e))
      have q2 : decide (S2 = s) = false := decide_eq_false hc
      have HN : Hid (numE s.data.toList = none) := Lib.hid (by unfold numE; rw [HR.out]; simp only; rw [if_neg (fun h => hc (HS2.out.symm.trans (atoi_is.2 h.1)))])
      go_wp2_with fail
      first | go_ret | refine bodyPost_ret (results_tmp2 rfl _ _ _) rfl ?_
      exact ⟨HB2.out, v, false, rfl, fun x hx => (by rw [HN.out] at hx; cases hx), fun _ => rfl⟩
  · by_cases hr : notNum (Lib.atoiAll s.data.toList) = true
    · clear hok
      obtain ⟨ev, h3, h4⟩ := hw.syn
      have HA := Lib.hid (Sh.strconv_Atoi_bad s (by omega) hr ev w h3 h4)
      have HN : Hid (numE s.data.toList = none) := Lib.hid (numE_not hr)
      clear hr hw h3 h4
      go_enter Tryd.func26, Tryd.ntmps26
      go_wp2_with fail
      refine HA.out.mono ?_
      rintro e w1 ⟨N, rfl, -, -, hb1⟩
      have HB1 := Lib.hid hb1
      clear hb1
      go_wp2_with fail
      first | go_ret | refine bodyPost_ret (results_tmp2 rfl _ _ _) rfl ?_
      exact ⟨HB1.out, 0, false, rfl, fun x hx => (by rw [HN.out] at hx; cases hx), fun _ => rfl⟩
    · have hr : Lib.atoiAll s.data.toList = .range := by
        generalize Lib.atoiAll s.data.toList = q at hok hr
        cases q with
        | ok v => exact absurd ⟨v, rfl⟩ hok
        | range => rfl
        | _ => exact absurd rfl hr
      clear hok
      obtain ⟨ev, h3, h4⟩ := hw.rng
      have HA := Lib.hid (Sh.strconv_Atoi_range s (by omega) hr ev w h3 h4)
      have HN : Hid (numE s.data.toList = none) := Lib.hid (by unfold numE; rw [hr])
      obtain ⟨sv, hsv⟩ : ∃ z, Lib.atoiSat s.data.toList = z := ⟨_, rfl⟩
      rw [hsv] at HA
      clear hr hw h3 h4 hsv
      go_enter Tryd.func26, Tryd.ntmps26
      go_wp2_with fail
      refine HA.out.mono ?_
      rintro e w1 ⟨N, rfl, -, -, hb1⟩
      have HB1 := Lib.hid hb1
      clear hb1
      go_wp2_with fail
      first | go_ret | refine bodyPost_ret (results_tmp2 rfl _ _ _) rfl ?_
      exact ⟨HB1.out, sv, false, rfl, fun x hx => (by rw [HN.out] at hx; cases hx), fun _ => rfl⟩
end Go.Proofs.YtcafhoobeggmeaaDoor
