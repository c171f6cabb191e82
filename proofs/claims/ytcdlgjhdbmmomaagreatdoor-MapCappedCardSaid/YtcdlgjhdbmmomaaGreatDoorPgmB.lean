/- (*plan).block, walked. -/
import Derived.Test.YtcdlgjhdbmmomaaGreatDoorPgmA
import Derived.Deep.RegionHeld3
import Derived.Deep.RegionLaw
import Derived.Deep.DeepCutAuto
import Derived.Deep.LoopGhost
import Derived.WalkLawsBesides
import Derived.Deep.CutBlock
import Derived.StillTailTactics
namespace Go.Proofs.YtcdlgjhdbmmomaaGreatDoor
open Go.RowKit
theorem infoSpot : (Tryz.prog.info? 140).map (fun i => (i.zero, i.size, i.bytes)) = some (some (.agg #[.int .i64 0, .int .i64 0, .int .i64 0, .int .i64 0, .int .i64 0, .bool false, .int .i64 0, .int .i64 0, .int .i64 0]), 9, 72) := by kernel_rfl
theorem infoSpots : (Tryz.prog.info? 137).map (fun i => (i.zero, i.size, i.bytes)) = some (some (.slice none 0 0), 1, 24) := by kernel_rfl
theorem RdR.at {w : World} {B : Nat} {A : Option Addr} {L : List RawI} (h : RdR w B A L) {j : Nat} {r : RawI} (hr : L[j]? = some r) : ∃ b o, A = some ⟨b, o, none⟩ ∧ b < B ∧
 w.cell? ⟨b, o + j * 4, none⟩ = some (.int .i64 r.k) ∧ w.cell? ⟨b, o + j * 4 + 1, none⟩ = some (.int .i64 r.a) ∧ w.cell? ⟨b, o + j * 4 + 2, none⟩ = some (.int .i64 r.b) ∧ w.cell? ⟨b, o + j * 4 + 3, none⟩ = some (.int .i64 r.c) := by
 obtain ⟨b, o, e, hb, hc⟩ := h.2 (by intro e; rw [e] at hr; simp at hr); exact ⟨b, o, e, hb, hc j r hr⟩
def preSpot (r : RawI) : Spot := ⟨plainI r, -1, -1, pickL r.a 5⟩
theorem own_form {w : World} {base : Nat} {e : TypeId} {size n : Nat} {v : Value} {xs : List Value} (h : w.ownsRow base e size v n xs) : ∃ A c, v = .slice A n c := by
 rcases h.2 with ⟨rfl, rfl⟩ | ⟨g, c, cur, rfl, _⟩
 · exact ⟨none, 0, rfl⟩
 · exact ⟨_, _, rfl⟩
theorem own_some {w : World} {base : Nat} {e : TypeId} {size n : Nat} {A : Option Addr} {c : Nat} {xs : List Value} (h : w.ownsRow base e size (.slice A n c) n xs) (hn : n ≠ 0) : ∃ g, A = some ⟨g, 0, none⟩ := by
 rcases h.2 with ⟨_, e⟩ | ⟨g, cap', cur, hv, _⟩
 · exact absurd e hn
 · injection hv with h1 _ _; exact ⟨g, h1⟩
theorem lastR_at {L : List RawI} {k : Nat} (h : L.length = k + 1) : L[k]? = some (lastR L) := by
 unfold lastR; rw [List.getLast?_eq_getElem?, h]; simp [gE' (show k < L.length by omega)]
theorem lastR_ok {L : List RawI} (h : ∀ r ∈ L, r.ok) : (lastR L).ok := by
 unfold lastR
 cases e : L.getLast? with
 | none => exact ⟨by unfold I64; simp, by unfold I64; simp, by unfold I64; simp, by unfold I64; simp⟩
 | some r => exact h r (List.mem_of_getLast? e)
theorem midSpot_call {r : RawI} (funcs : Int) (h : pickL r.k 23 = 22) : midSpot funcs r = ⟨⟨23, 0, 0, 0, 0, false⟩, -1, pickL r.a funcs, pickL r.a 5⟩ := if_pos h
theorem midSpot_plain {r : RawI} (funcs : Int) (h : pickL r.k 23 ≠ 22) : midSpot funcs r = preSpot r := if_neg h
theorem take_mid {L : List RawI} {k : Nat} {r : RawI} (funcs : Int) (h : L[k]? = some r) : (L.map (midSpot funcs)).take (k + 1) = (L.map (midSpot funcs)).take k ++ [midSpot funcs r] := by
 obtain ⟨hl, rfl⟩ := List.getElem?_eq_some_iff.1 h; rw [List.take_succ_eq_append_getElem (by simpa using hl), List.getElem_map]
theorem end_br {rk ra rb rc n first last : Int} (h1 : pickL rk 12 < 5) (h2 : n < last) : endSpot ⟨rk, ra, rb, rc⟩ n first last = ⟨⟨18 + pickL rc 4, 0, pickL ra 7, pickL rb 7, 0, pickL ra 3 == 0⟩, first + pickL rb (last - first + 1), -1, pickL ra 5⟩ := if_pos ⟨h1, h2⟩
theorem end_jm {rk ra rb rc n first last : Int} (h1 : ¬ (pickL rk 12 < 5 ∧ n < last)) (h2 : pickL rk 12 < 8) : endSpot ⟨rk, ra, rb, rc⟩ n first last = ⟨⟨22, 0, 0, 0, 0, pickL ra 3 == 0⟩, first + pickL rb (last - first + 1), -1, pickL ra 5⟩ := by
 unfold endSpot; rw [if_neg h1, if_pos h2]
theorem end_tb {rk ra rb rc n first last : Int} (h : pickL rk 12 = 9) : endSpot ⟨rk, ra, rb, rc⟩ n first last = ⟨⟨24, 0, pickL ra 7, 0, pickL rb 3, false⟩, -1, -1, pickL ra 5⟩ := by
 unfold endSpot; simp only; rw [if_neg (by omega), if_neg (by omega), if_pos h]
theorem end_ha {rk ra rb rc n first last : Int} (h1 : ¬ pickL rk 12 < 8) (h2 : pickL rk 12 ≠ 9) (h3 : pickL rk 12 = 10 ∨ n = 0) : endSpot ⟨rk, ra, rb, rc⟩ n first last = ⟨⟨1, 0, 0, 0, 0, false⟩, -1, -1, pickL ra 5⟩ := by
 unfold endSpot; simp only; rw [if_neg (by omega), if_neg h1, if_neg h2, if_pos h3]
theorem end_re {rk ra rb rc n first last : Int} (h1 : ¬ pickL rk 12 < 8) (h2 : pickL rk 12 ≠ 9) (h3 : pickL rk 12 ≠ 10) (h4 : n ≠ 0) : endSpot ⟨rk, ra, rb, rc⟩ n first last = ⟨⟨3, 0, 0, 0, 0, false⟩, -1, -1, pickL ra 5⟩ := by
 unfold endSpot; simp only; rw [if_neg (by omega), if_neg h1, if_neg h2, if_neg (by omega)]
theorem picked_still (n m : Int) (w : World) (h1 : -9223372036854775808 ≤ n) (h2 : n ≤ 9223372036854775807) (hm : 0 < m) (hm2 : m ≤ 9223372036854775807) :
 Calls Tryz.prog 22 #[.int .i64 n, .int .i64 m] w fun e w' => e = .returned (.int .i64 (pickL n m)) ∧ w' = w :=
 (picked_any n m w h1 h2 hm hm2).mono fun _ _ h => ⟨h.1, h.2.symm⟩
def BlockPost (w : World) (base X : Nat) (bs : List (List Spot)) (fs : List Int) (fA : Option Addr) (fc : Nat) (b : List Spot) (e : Ending) (w' : World) : Prop :=
 e = .returned (.tuple #[]) ∧ Below base w w' ∧ ∃ bA bc gs, PlanAt w' base X (bs ++ [b]) fs bA bc fA fc gs
set_option maxHeartbeats 8000000 in
set_option maxRecDepth 100000 in
theorem block_any (L : List RawI) (A : Option Addr) (c X base : Nat) (bs : List (List Spot)) (fs : List Int) (bA : Option Addr) (bc : Nat) (fA : Option Addr) (fc : Nat) (gs : List (Nat × Nat)) (n first last funcs : Int) (w : World)
 (hR : RdR w base A L) (hP : PlanAt w base X bs fs bA bc fA fc gs) (hl : L.length ≤ 1000) (hcap : L.length ≤ c) (h1 : 0 ≤ first) (h2 : first ≤ n) (h3 : n ≤ last) (h4 : last ≤ 100000) (hf1 : 1 ≤ funcs) (hf2 : funcs ≤ 100) (hbl : bs.length ≤ 100000) :
 Calls Tryz.prog 53 #[.pointer (some ⟨X, 0, none⟩), .slice A L.length c, .int .i64 n, .int .i64 first, .int .i64 last, .int .i64 funcs] w (BlockPost w base X bs fs fA fc (blockOf L n first last funcs)) := by
 have HR := hd' hR; have HP := hd' hP; have hbase : base ≤ w.heap.size := by have := hP.bX; have := hP.blk.lt; omega
 obtain ⟨m, hm⟩ := ex' L.length
 rw [hm] at hl hcap ⊢; have HM := hd' hm; have hcI : Tryz.prog.cellsOf 52 = 6 := by kernel_rfl
 clear hR hP hm
 go_enter Tryz.func53, Tryz.ntmps53
 go_wp2_with fail
 go_loopg [12, 13] m (fun gk s12 s13 wr => ∃ k : Nat, k ≤ m ∧ (k = 0 ∨ k < m) ∧ s13 = .int .i64 k ∧ wr.ownsRow w.heap.size 140 9 s12 k (spotsC ((L.map (midSpot funcs)).take k)) ∧ Below w.heap.size w wr ∧ m - k ≤ gk)
 case atStart => exact ⟨0, Nat.zero_le _, .inl rfl, rfl, ⟨rfl, .inl ⟨rfl, rfl⟩⟩, Below.refl _ _, Nat.le_refl _⟩
 case round =>
  obtain ⟨k, hk, hk0, rfl, ho, hb, hgk⟩ := hrel; have HO := hd' ho; have HB := hd' hb; have hs := hb.size; clear ho hb
  by_cases hlt : k + 1 < m
  · have hx : L[k]? = some (L[k]'(by have := HM.out; omega)) := gE' _; obtain ⟨r, hr⟩ := ex' (L[k]'(by have := HM.out; omega))
    rw [hr] at hx; have HX := hd' hx; clear hr; obtain ⟨⟨rk1, rk2⟩, ⟨ra1, ra2⟩, ⟨rb1, rb2⟩, rc1, rc2⟩ := HR.out.1 r (mG' hx); obtain ⟨rb, ro, rfl, hrb, c0, c1, c2, c3⟩ := HR.out.at hx; clear hx; have hrw : rb < w.heap.size := by omega
    have hkk : ∀ W, Below w.heap.size w W → W.cell? ⟨rb, ro + k * 4, none⟩ = some (.int .i64 r.k) ∧ W.cell? ⟨rb, ro + k * 4 + 1, none⟩ = some (.int .i64 r.a) ∧ W.cell? ⟨rb, ro + k * 4 + 2, none⟩ = some (.int .i64 r.b) ∧ W.cell? ⟨rb, ro + k * 4 + 3, none⟩ = some (.int .i64 r.c) := fun W h => ⟨(h.cell hrw).trans c0, (h.cell hrw).trans c1, (h.cell hrw).trans c2, (h.cell hrw).trans c3⟩
    have HKK := hd' hkk; clear c0 c1 c2 c3 hkk; obtain ⟨c0, c1, c2, c3⟩ := HKK.out wr HB.out; have hn1 : ¬ wr.heap.size = rb := by omega
    have hpl := fun W => plain_any r ⟨⟨rk1, rk2⟩, ⟨ra1, ra2⟩, ⟨rb1, rb2⟩, rc1, rc2⟩ W
    obtain ⟨⟨ik, id, ia, ib, iN, il⟩, hpi⟩ := ex' (plainI r)
    rw [hpi] at hpl; have HPL := hd' (show ∀ W, Calls Tryz.prog 74 #[.agg #[.int .i64 r.k, .int .i64 r.a, .int .i64 r.b, .int .i64 r.c]] W fun e w' => e = .returned (.agg #[.int .i64 ik, .int .i64 id, .int .i64 ia, .int .i64 ib, .int .i64 iN, .bool il]) ∧ Below W.heap.size W w' from hpl); have hpre : preSpot r = ⟨⟨ik, id, ia, ib, iN, il⟩, -1, -1, pickL r.a 5⟩ := by unfold preSpot; rw [hpi]
    have HPRE := hd' hpre; clear hpl hpi hpre; have hkm : (k : Int) < (m : Int) - 1 := by omega
    have hkI : (k : Int) < (m : Int) := by omega
    have hk00 : (0 : Int) ≤ (k : Int) := by omega
    have hkc : m ≤ c := hcap; have hpk := pickL_bd r.k 23 (by decide); have hpf := pickL_bd r.a funcs (by omega)
    go_wp2_with fail
    go_upto_region 5 with fail
    go_cut [14] (fun s14 wx => ∃ Y, s14 = .pointer (some ⟨Y, 0, none⟩) ∧ wr.heap.size ≤ Y ∧ Blk wx Y 140 [.int .i64 ik, .int .i64 id, .int .i64 ia, .int .i64 ib, .int .i64 iN, .bool il, .int .i64 (-1), .int .i64 (-1), .int .i64 (pickL r.a 5)] ∧ Below wr.heap.size wr wx)
    case first =>
     go_region_held3 (fun w' => w'.cell? ⟨rb, ro + k * 4, none⟩ = some (.int .i64 r.k) ∧ w'.cell? ⟨rb, ro + k * 4 + 1, none⟩ = some (.int .i64 r.a) ∧ w'.cell? ⟨rb, ro + k * 4 + 2, none⟩ = some (.int .i64 r.b) ∧ w'.cell? ⟨rb, ro + k * 4 + 3, none⟩ = some (.int .i64 r.c)) (go_keep) ((first | (go_at_call 22; refine (picked_any _ _ _ (by omega) (by omega) (by omega) (by omega)).mono ?_; rintro e w4 ⟨rfl, rfl⟩) | (go_at_call 74; refine (HPL.out _).mono ?_; rintro e w3 ⟨rfl, hb3⟩; have hbb3 : Below wr.heap.size wr w3 := ((by first | exact Below.refl _ _ | exact (Below.refl _ _).drew | exact (Below.refl _ _).alloc lr' _ | exact ((Below.refl _ _).alloc lr' _).drew | exact (Below.refl _ _).drew.alloc lr' _) : Below wr.heap.size wr _).trans (hb3.mono (by simp)); obtain ⟨y0, y1, y2, y3⟩ := HKK.out w3 (HB.out.trans (hbb3.mono HB.out.size)); try (have hY : Blk w3 wr.heap.size 140 [.int .i64 0, .int .i64 0, .int .i64 0, .int .i64 0, .int .i64 0, .bool false, .int .i64 0, .int .i64 0, .int .i64 0] := (hb3.block wr.heap.size (by simp)).trans (heap_alloc_new wr _); have zc0 : w3.cell? ⟨wr.heap.size, 0, none⟩ = some (.int .i64 0) := hY.cell 0 rfl; have zc1 : w3.cell? ⟨wr.heap.size, 1, none⟩ = some (.int .i64 0) := hY.cell 1 rfl; have zc2 : w3.cell? ⟨wr.heap.size, 2, none⟩ = some (.int .i64 0) := hY.cell 2 rfl; have zc3 : w3.cell? ⟨wr.heap.size, 3, none⟩ = some (.int .i64 0) := hY.cell 3 rfl; have zc4 : w3.cell? ⟨wr.heap.size, 4, none⟩ = some (.int .i64 0) := hY.cell 4 rfl; have zc5 : w3.cell? ⟨wr.heap.size, 5, none⟩ = some (.bool false) := hY.cell 5 rfl; have zc6 : w3.cell? ⟨wr.heap.size, 6, none⟩ = some (.int .i64 0) := hY.cell 6 rfl; have zc7 : w3.cell? ⟨wr.heap.size, 7, none⟩ = some (.int .i64 0) := hY.cell 7 rfl; have zc8 : w3.cell? ⟨wr.heap.size, 8, none⟩ = some (.int .i64 0) := hY.cell 8 rfl; have zf0 : w3.frozen? ⟨wr.heap.size, 0, none⟩ = false := hY.free 0; have zf1 : w3.frozen? ⟨wr.heap.size, 1, none⟩ = false := hY.free 1; have zf2 : w3.frozen? ⟨wr.heap.size, 2, none⟩ = false := hY.free 2; have zf3 : w3.frozen? ⟨wr.heap.size, 3, none⟩ = false := hY.free 3; have zf4 : w3.frozen? ⟨wr.heap.size, 4, none⟩ = false := hY.free 4; have zf5 : w3.frozen? ⟨wr.heap.size, 5, none⟩ = false := hY.free 5; have zf6 : w3.frozen? ⟨wr.heap.size, 6, none⟩ = false := hY.free 6; have zf7 : w3.frozen? ⟨wr.heap.size, 7, none⟩ = false := hY.free 7; have zf8 : w3.frozen? ⟨wr.heap.size, 8, none⟩ = false := hY.free 8; have zcl := hY.lt))))
     all_goals (go_wp2; go_meet)
     all_goals clear HPL HKK HR HP HM HO HX HPRE
     · exact ⟨_, rfl, hbb3.size, Blk.new w3 _ _, hbb3.alloc hbb3.size _⟩
     · exact ⟨_, rfl, hbb3.size, Blk.new w3 _ _, hbb3.alloc hbb3.size _⟩
     · exact ⟨_, rfl, Nat.le_refl _, (((((((((hY.set 0 _).set 1 _).set 2 _).set 3 _).set 4 _).set 5 _).set 6 _).set 7 _).set 8 _), hbb3.trans (gb_to_below (gb_setCell (gb_setCell (gb_setCell (gb_setCell (gb_setCell (gb_setCell (gb_setCell (gb_setCell (gb_setCell (gb_refl w3 (some wr.heap.size)) _ _) _ _) _ _) _ _) _ _) _ _) _ _) _ _) _ _) lr' hbb3.size)⟩
    case rest =>
     obtain ⟨Y, rfl, hY1, hY2, hY3⟩ := hcut; have HY2 := hd' hY2; have HY3 := hd' hY3; have hYl := hY2.lt; obtain ⟨c0, c1, c2, c3⟩ := HKK.out wc (HB.out.trans (hY3.mono HB.out.size)); have y0 : wc.cell? ⟨Y, 0, none⟩ = some (.int .i64 ik) := hY2.cell 0 rfl; have y1 : wc.cell? ⟨Y, 1, none⟩ = some (.int .i64 id) := hY2.cell 1 rfl; have y2 : wc.cell? ⟨Y, 2, none⟩ = some (.int .i64 ia) := hY2.cell 2 rfl; have y3 : wc.cell? ⟨Y, 3, none⟩ = some (.int .i64 ib) := hY2.cell 3 rfl; have y4 : wc.cell? ⟨Y, 4, none⟩ = some (.int .i64 iN) := hY2.cell 4 rfl
     have y5 : wc.cell? ⟨Y, 5, none⟩ = some (.bool il) := hY2.cell 5 rfl; have y6 : wc.cell? ⟨Y, 6, none⟩ = some (.int .i64 (-1)) := hY2.cell 6 rfl; have y7 : wc.cell? ⟨Y, 7, none⟩ = some (.int .i64 (-1)) := hY2.cell 7 rfl; have y8 : wc.cell? ⟨Y, 8, none⟩ = some (.int .i64 (pickL r.a 5)) := hY2.cell 8 rfl; have yf0 : wc.frozen? ⟨Y, 0, none⟩ = false := hY2.free 0; have yf1 : wc.frozen? ⟨Y, 1, none⟩ = false := hY2.free 1; have yf2 : wc.frozen? ⟨Y, 2, none⟩ = false := hY2.free 2; have yf3 : wc.frozen? ⟨Y, 3, none⟩ = false := hY2.free 3; have yf4 : wc.frozen? ⟨Y, 4, none⟩ = false := hY2.free 4
     have yf5 : wc.frozen? ⟨Y, 5, none⟩ = false := hY2.free 5; have yf6 : wc.frozen? ⟨Y, 6, none⟩ = false := hY2.free 6; have yf7 : wc.frozen? ⟨Y, 7, none⟩ = false := hY2.free 7; have yf8 : wc.frozen? ⟨Y, 8, none⟩ = false := hY2.free 8; clear hY2 hY3; have hne : ¬ Y = rb := by omega
     go_upto_if 44 with (first | (go_at_call 22; refine (picked_any _ _ _ (by omega) (by omega) (by omega) (by omega)).mono ?_; rintro e w4 ⟨rfl, rfl⟩))
     go_cut [] (fun wx => Blk wx Y 140 (spotC (midSpot funcs r)) ∧ Below wr.heap.size wr wx)
     case first =>
      by_cases hcl : pickL r.k 23 = 22
      · have hq : (pickL r.k 23 == 22) = true := by simpa using hcl
        have hms := hd' (midSpot_call funcs hcl); clear hcl
        go_wp2_with (first | (go_at_call 22; refine (picked_any _ _ _ (by omega) (by omega) (by omega) (by omega)).mono ?_; rintro e w4 ⟨rfl, rfl⟩))
        go_meet
        rw [hms.out]; exact ⟨(((((((HY2.out.set 0 _).set 1 _).set 2 _).set 3 _).set 4 _).set 5 _).set 7 _), HY3.out.trans (gb_to_below (gb_setCell (gb_setCell (gb_setCell (gb_setCell (gb_setCell (gb_setCell (gb_setCell (gb_refl wc (some Y)) _ _) _ _) _ _) _ _) _ _) _ _) _ _) hY1 HY3.out.size)⟩
      · have hq : (pickL r.k 23 == 22) = false := by simpa using hcl
        have hms := hd' (midSpot_plain funcs hcl); clear hcl
        go_wp2_with (first | (go_at_call 22; refine (picked_any _ _ _ (by omega) (by omega) (by omega) (by omega)).mono ?_; rintro e w4 ⟨rfl, rfl⟩))
        go_meet
        rw [hms.out, HPRE.out]; exact ⟨HY2.out, HY3.out⟩
     case rest =>
      obtain ⟨hZ2, hZ3⟩ := hcut; obtain ⟨⟨⟨zk, zd, za, zb, zN, zl⟩, zB, zF, zL⟩, hms⟩ := ex' (midSpot funcs r)
      rw [hms] at hZ2; have HMS := hd' hms; have z0 : wc.cell? ⟨Y, 0, none⟩ = some (.int .i64 zk) := hZ2.cell 0 rfl; have z1 : wc.cell? ⟨Y, 1, none⟩ = some (.int .i64 zd) := hZ2.cell 1 rfl; have z2 : wc.cell? ⟨Y, 2, none⟩ = some (.int .i64 za) := hZ2.cell 2 rfl; have z3 : wc.cell? ⟨Y, 3, none⟩ = some (.int .i64 zb) := hZ2.cell 3 rfl; have z4 : wc.cell? ⟨Y, 4, none⟩ = some (.int .i64 zN) := hZ2.cell 4 rfl; have z5 : wc.cell? ⟨Y, 5, none⟩ = some (.bool zl) := hZ2.cell 5 rfl; have z6 : wc.cell? ⟨Y, 6, none⟩ = some (.int .i64 zB) := hZ2.cell 6 rfl
      have z7 : wc.cell? ⟨Y, 7, none⟩ = some (.int .i64 zF) := hZ2.cell 7 rfl; have z8 : wc.cell? ⟨Y, 8, none⟩ = some (.int .i64 zL) := hZ2.cell 8 rfl; have hzs := hZ3.size; have HZ3 := hd' hZ3; have HOS := hd' (own_keep HO.out hZ3); clear hms hZ2 hZ3
      go_wp2_with (first | (refine app_one rfl _ _ 137 140 9 72 _ Tryz.underlying137 infoSpot rfl (by decide) rfl w.heap.size _ k _ rfl (World.ownsRow.alloc HOS.out _) wc.heap.size 1 rfl [.int .i64 zk, .int .i64 zd, .int .i64 za, .int .i64 zb, .int .i64 zN, .bool zl, .int .i64 zB, .int .i64 zF, .int .i64 zL] 140 (0, 0) (heap_alloc_new wc _) rfl (by simp [Value.oneCell']) (by omega) (by omega) (by simp; omega) (wc.heap.size + 1) (by simp) ?a1))
      case a1 =>
       intro g2 c2 w2 ho2 hgr2 hat2 hlt2; have hb0 : Below w.heap.size w (wc.alloc (.cells [.int .i64 zk, .int .i64 zd, .int .i64 za, .int .i64 zb, .int .i64 zN, .bool zl, .int .i64 zB, .int .i64 zF, .int .i64 zL].toArray 140)) := (HB.out.trans (HZ3.out.mono HB.out.size)).alloc (by omega) _; have hbn : Below w.heap.size w w2 := hb0.trans (gb_below_of hgr2 (fun q hq => (World.ownsRow.lt HOS.out q hq).1) hb0.size)
       have e : spotsC ((L.map (midSpot funcs)).take (k + 1)) = spotsC ((L.map (midSpot funcs)).take k) ++ [.int .i64 zk, .int .i64 zd, .int .i64 za, .int .i64 zb, .int .i64 zN, .bool zl, .int .i64 zB, .int .i64 zF, .int .i64 zL] := by
        rw [take_mid funcs HX.out, HMS.out]; simp [spotsC, spotC]
       rw [← e] at ho2; have HO2 := hd' ho2; have HB2 := hd' hbn; clear e ho2 hbn hb0 hgr2 hat2
       go_wp2
       go_roundg (m - (k + 1))
       case measure => omega
       case rel => exact ⟨k + 1, by omega, .inr hlt, by go_num, HO2.out, HB2.out, Nat.le_refl _⟩
  · have hex : ¬ (k : Int) < (m : Int) - 1 := by omega
    obtain ⟨A', c', hv⟩ := own_form HO.out; obtain rfl := hv; obtain ⟨bl, hbl'⟩ := ex' (L.dropLast.map (midSpot funcs))
    have HL := hd' (show (L.map (midSpot funcs)).take k = bl by
     rw [← hbl', ← List.map_take, List.dropLast_eq_take, HM.out, show m - 1 = k by omega])
    have hbll : bl.length = k := by rw [← hbl', List.length_map, List.length_dropLast, HM.out]; omega
    rw [HL.out] at HO; have HBL := hd' hbl'; have HBLL := hd' hbll; have hkm1 : m ≤ k + 1 := by omega
    clear HL hbl' hbll; have hz0 : wr.heap.size < (wr.alloc (.cells #[.int .i64 0, .int .i64 0, .int .i64 0, .int .i64 0] 85)).heap.size := by simp
    obtain ⟨⟨rk, ra, rb', rc⟩, hlr⟩ := ex' (lastR L)
    have hlok := lastR_ok HR.out.1; rw [hlr] at hlok; obtain ⟨⟨rk1, rk2⟩, ⟨ra1, ra2⟩, ⟨rb1, rb2⟩, rc1, rc2⟩ := hlok; simp only at rk1 rk2 ra1 ra2 rb1 rb2 rc1 rc2; have HLR := hd' hlr; clear hlr
    go_upto_if 62 with fail
    go_cut [] (fun wx => Blk wx wr.heap.size 85 [.int .i64 rk, .int .i64 ra, .int .i64 rb', .int .i64 rc] ∧ Below wr.heap.size wr wx)
    case first =>
     by_cases hm0 : m = 0
     · subst hm0; have hL0 : L = [] := List.eq_nil_of_length_eq_zero HM.out; have e := HLR.out; rw [hL0] at e; injection e with e1 e2 e3 e4
       go_wp2
       go_meet
       rw [← e1, ← e2, ← e3, ← e4]; exact ⟨Blk.new wr _ _, (Below.refl _ _).alloc lr' _⟩
     · obtain rfl : m = k + 1 := by omega
       have hx : L[k]? = some (lastR L) := lastR_at HM.out; rw [HLR.out] at hx; obtain ⟨rb, ro, rfl, hrb, c0, c1, c2, c3⟩ := HR.out.at hx; have hrw : rb < w.heap.size := by omega
       have d0 := (HB.out.cell (p := ⟨rb, ro + k * 4, none⟩) hrw).trans c0; have d1 := (HB.out.cell (p := ⟨rb, ro + k * 4 + 1, none⟩) hrw).trans c1; have d2 := (HB.out.cell (p := ⟨rb, ro + k * 4 + 2, none⟩) hrw).trans c2; have d3 := (HB.out.cell (p := ⟨rb, ro + k * 4 + 3, none⟩) hrw).trans c3; simp only at d0 d1 d2 d3; have hrr : rb < wr.heap.size := by omega
       clear c0 c1 c2 c3 hx hm0 hex
       go_wp2
       go_meet
       exact ⟨Blk.new wr _ _, (Below.refl _ _).alloc lr' _⟩
    case rest =>
     obtain ⟨hR2, hR3⟩ := hcut; have r0 : wc.cell? ⟨wr.heap.size, 0, none⟩ = some (.int .i64 rk) := hR2.cell 0 rfl; have r1 : wc.cell? ⟨wr.heap.size, 1, none⟩ = some (.int .i64 ra) := hR2.cell 1 rfl; have r2 : wc.cell? ⟨wr.heap.size, 2, none⟩ = some (.int .i64 rb') := hR2.cell 2 rfl; have r3 : wc.cell? ⟨wr.heap.size, 3, none⟩ = some (.int .i64 rc) := hR2.cell 3 rfl; have hzs := hR3.size; have HR2 := hd' hR2; have HR3 := hd' hR3; have p1 := pickL_bd rb' (last - first + 1) (by omega); have p2 := pickL_bd ra 5 (by decide); have p3 := pickL_bd rk 12 (by decide)
     have p4 := pickL_bd rc 4 (by decide); have p5 := pickL_bd ra 7 (by decide); have p6 := pickL_bd rb' 7 (by decide); have p7 := pickL_bd ra 3 (by decide); have p8 := pickL_bd rb' 3 (by decide); have hRl := hR2.lt; clear hR2 hR3 hex hz0
     go_upto_block 2 with (first | (go_at_call 22; refine (picked_any _ _ _ (by omega) (by omega) (by omega) (by omega)).mono ?_; rintro e w4 ⟨rfl, rfl⟩))
     obtain ⟨wd, hwd⟩ := ex' (wc.alloc (.cells #[.int .i64 0, .int .i64 0, .int .i64 0, .int .i64 0, .int .i64 0, .bool false, .int .i64 (-1), .int .i64 (-1), .int .i64 (pickL ra 5)] 140))
     have hY : Blk wd wc.heap.size 140 [.int .i64 0, .int .i64 0, .int .i64 0, .int .i64 0, .int .i64 0, .bool false, .int .i64 (-1), .int .i64 (-1), .int .i64 (pickL ra 5)] := by rw [← hwd]; exact Blk.new wc _ _
     have hR4 : Blk wd wr.heap.size 85 [.int .i64 rk, .int .i64 ra, .int .i64 rb', .int .i64 rc] := by rw [← hwd]; exact HR2.out.alloc _
     have hbd : Below wr.heap.size wr wd := by rw [← hwd]; exact HR3.out.alloc hzs _
     rw [hwd]; obtain ⟨Y, hYe⟩ := ex' wc.heap.size
     rw [hYe] at hY ⊢; have hYr : wr.heap.size < Y := by rw [← hYe]; exact HR2.out.lt
     have hYl := hY.lt; have HBD := hd' hbd; have HY2 := hd' hY; have q0 : wd.cell? ⟨wr.heap.size, 0, none⟩ = some (.int .i64 rk) := hR4.cell 0 rfl; have q1 : wd.cell? ⟨wr.heap.size, 1, none⟩ = some (.int .i64 ra) := hR4.cell 1 rfl; have q2 : wd.cell? ⟨wr.heap.size, 2, none⟩ = some (.int .i64 rb') := hR4.cell 2 rfl; have q3 : wd.cell? ⟨wr.heap.size, 3, none⟩ = some (.int .i64 rc) := hR4.cell 3 rfl; have y0 : wd.cell? ⟨Y, 0, none⟩ = some (.int .i64 0) := hY.cell 0 rfl; have y1 : wd.cell? ⟨Y, 1, none⟩ = some (.int .i64 0) := hY.cell 1 rfl
     have y2 : wd.cell? ⟨Y, 2, none⟩ = some (.int .i64 0) := hY.cell 2 rfl; have y3 : wd.cell? ⟨Y, 3, none⟩ = some (.int .i64 0) := hY.cell 3 rfl; have y4 : wd.cell? ⟨Y, 4, none⟩ = some (.int .i64 0) := hY.cell 4 rfl; have y5 : wd.cell? ⟨Y, 5, none⟩ = some (.bool false) := hY.cell 5 rfl; have y6 : wd.cell? ⟨Y, 6, none⟩ = some (.int .i64 (-1)) := hY.cell 6 rfl; have y7 : wd.cell? ⟨Y, 7, none⟩ = some (.int .i64 (-1)) := hY.cell 7 rfl; have y8 : wd.cell? ⟨Y, 8, none⟩ = some (.int .i64 (pickL ra 5)) := hY.cell 8 rfl; have yf0 : wd.frozen? ⟨Y, 0, none⟩ = false := hY.free 0
     have yf1 : wd.frozen? ⟨Y, 1, none⟩ = false := hY.free 1; have yf2 : wd.frozen? ⟨Y, 2, none⟩ = false := hY.free 2; have yf3 : wd.frozen? ⟨Y, 3, none⟩ = false := hY.free 3; have yf4 : wd.frozen? ⟨Y, 4, none⟩ = false := hY.free 4; have yf5 : wd.frozen? ⟨Y, 5, none⟩ = false := hY.free 5; have yf6 : wd.frozen? ⟨Y, 6, none⟩ = false := hY.free 6; have yf7 : wd.frozen? ⟨Y, 7, none⟩ = false := hY.free 7; have yf8 : wd.frozen? ⟨Y, 8, none⟩ = false := hY.free 8; clear hwd hbd hY hR4 hYe r0 r1 r2 r3
     go_cut [] (fun wx => Blk wx Y 140 (spotC (endSpot ⟨rk, ra, rb', rc⟩ n first last)) ∧ Below wr.heap.size wr wx ∧ ¬ (pickL rk 12 = 8 ∧ n < last ∧ 0 < k))
     case first =>
      by_cases h5 : pickL rk 12 < 5
      · by_cases hnl : n < last
        · have HEN := hd' (end_br (ra := ra) (rb := rb') (rc := rc) (first := first) h5 hnl); have hne8 : ¬ (pickL rk 12 = 8 ∧ n < last ∧ 0 < k) := by omega
          have HNE := hd' hne8; clear hne8
          try clear hn0
          try clear hk0
          try clear e8
          try clear e9
          try clear e10
          go_wp2_with fail
          refine wp_region_still_tail 16 (by kernel_rfl) (by kernel_rfl) ?_; simp only [List.take_succ_cons, List.take_zero, List.drop_succ_cons, List.drop_zero]
          repeat (first | still_step | still_call (picked_still _ _ _ (by omega) (by omega) (by omega) (by omega)))
          refine wpStill_nil ?_
          change wpList _ _ _ _ _ wd.drew
          go_wp2
          go_meet
          rw [HEN.out]; exact ⟨(Blk.drew (((((((HY2.out.set 0 _).set 1 _).set 2 _).set 3 _).set 4 _).set 5 _).set 6 _)), HBD.out.trans (gb_to_below (gb_drew (gb_setCell (gb_setCell (gb_setCell (gb_setCell (gb_setCell (gb_setCell (gb_setCell (gb_refl wd (some Y)) _ _) _ _) _ _) _ _) _ _) _ _) _ _)) (by omega) HBD.out.size), HNE.out⟩
        · have b8 : pickL rk 12 < 8 := by omega
          have HEN := hd' (end_jm (ra := ra) (rb := rb') (rc := rc) (first := first) (fun h => hnl h.2) b8); have hne8 : ¬ (pickL rk 12 = 8 ∧ n < last ∧ 0 < k) := by omega
          have HNE := hd' hne8; clear hne8
          try clear hn0
          try clear hk0
          try clear e8
          try clear e9
          try clear e10
          go_wp2_with (first | (go_at_call 22; refine (picked_any _ _ _ (by omega) (by omega) (by omega) (by omega)).mono ?_; rintro e w4 ⟨rfl, rfl⟩))
          go_meet
          rw [HEN.out]; exact ⟨(((((((HY2.out.set 0 _).set 1 _).set 2 _).set 3 _).set 4 _).set 5 _).set 6 _), HBD.out.trans (gb_to_below (gb_setCell (gb_setCell (gb_setCell (gb_setCell (gb_setCell (gb_setCell (gb_setCell (gb_refl wd (some Y)) _ _) _ _) _ _) _ _) _ _) _ _) _ _) (by omega) HBD.out.size), HNE.out⟩
      · by_cases h8 : pickL rk 12 < 8
        · have HEN := hd' (end_jm (ra := ra) (rb := rb') (rc := rc) (n := n) (last := last) (first := first) (fun h => h5 h.1) h8); have hne8 : ¬ (pickL rk 12 = 8 ∧ n < last ∧ 0 < k) := by omega
          have HNE := hd' hne8; clear hne8
          try clear hn0
          try clear hk0
          try clear e8
          try clear e9
          try clear e10
          go_wp2_with (first | (go_at_call 22; refine (picked_any _ _ _ (by omega) (by omega) (by omega) (by omega)).mono ?_; rintro e w4 ⟨rfl, rfl⟩))
          go_meet
          rw [HEN.out]; exact ⟨(((((((HY2.out.set 0 _).set 1 _).set 2 _).set 3 _).set 4 _).set 5 _).set 6 _), HBD.out.trans (gb_to_below (gb_setCell (gb_setCell (gb_setCell (gb_setCell (gb_setCell (gb_setCell (gb_setCell (gb_refl wd (some Y)) _ _) _ _) _ _) _ _) _ _) _ _) _ _) (by omega) HBD.out.size), HNE.out⟩
        · by_cases e8 : pickL rk 12 = 8
          · have q8 : (pickL rk 12 == 8) = true := by simpa using e8
            have q9 : (pickL rk 12 == 9) = false := by rw [e8]; rfl
            have q10 : (pickL rk 12 == 10) = false := by rw [e8]; rfl
            have e9 : pickL rk 12 ≠ 9 := by omega
            have e10 : pickL rk 12 ≠ 10 := by omega
            by_cases hnl : n < last
            · by_cases hk0 : k = 0
              · have a7 : ¬ (0 : Int) < (k : Int) := by omega
                by_cases hn0 : n = 0
                · have qn : (n == 0) = true := by simpa using hn0
                  have HEN := hd' (end_ha (ra := ra) (rb := rb') (rc := rc) (n := n) (first := first) (last := last) h8 e9 (.inr hn0)); have hne8 : ¬ (pickL rk 12 = 8 ∧ n < last ∧ 0 < k) := by omega
                  have HNE := hd' hne8; clear hne8
                  try clear hn0
                  try clear hk0
                  try clear e8
                  try clear e9
                  try clear e10
                  go_wp2_with (first | (go_at_call 22; refine (picked_any _ _ _ (by omega) (by omega) (by omega) (by omega)).mono ?_; rintro e w4 ⟨rfl, rfl⟩))
                  go_meet
                  rw [HEN.out]; exact ⟨((((((HY2.out.set 0 _).set 1 _).set 2 _).set 3 _).set 4 _).set 5 _), HBD.out.trans (gb_to_below (gb_setCell (gb_setCell (gb_setCell (gb_setCell (gb_setCell (gb_setCell (gb_refl wd (some Y)) _ _) _ _) _ _) _ _) _ _) _ _) (by omega) HBD.out.size), HNE.out⟩
                · have qn : (n == 0) = false := by simpa using hn0
                  have HEN := hd' (end_re (ra := ra) (rb := rb') (rc := rc) (n := n) (first := first) (last := last) h8 e9 e10 hn0); have hne8 : ¬ (pickL rk 12 = 8 ∧ n < last ∧ 0 < k) := by omega
                  have HNE := hd' hne8; clear hne8
                  try clear hn0
                  try clear hk0
                  try clear e8
                  try clear e9
                  try clear e10
                  go_wp2_with (first | (go_at_call 22; refine (picked_any _ _ _ (by omega) (by omega) (by omega) (by omega)).mono ?_; rintro e w4 ⟨rfl, rfl⟩))
                  go_meet
                  rw [HEN.out]; exact ⟨((((((HY2.out.set 0 _).set 1 _).set 2 _).set 3 _).set 4 _).set 5 _), HBD.out.trans (gb_to_below (gb_setCell (gb_setCell (gb_setCell (gb_setCell (gb_setCell (gb_setCell (gb_refl wd (some Y)) _ _) _ _) _ _) _ _) _ _) _ _) (by omega) HBD.out.size), HNE.out⟩
              · have a7 : (0 : Int) < (k : Int) := by omega
                obtain ⟨g, rfl⟩ := own_some HO.out (by omega); have hpd := HP.out.below (HB.out.trans (HBD.out.mono HB.out.size)); have HPd := hd' hpd; have px0 := hpd.blk.cell 0 rfl; have pxf := hpd.blk.free 0; have pxl := hpd.blk.lt; clear hpd
                go_wp2_with (first | (refine app_one rfl _ _ 103 137 1 24 _ Tryz.underlying103 infoSpots rfl (by decide) rfl base _ bs.length _ rfl (World.ownsRow.alloc HPd.out.outer _) wd.heap.size 1 rfl [.slice (some ⟨g, 0, none⟩) k c'] 137 (0, 0) (heap_alloc_new wd _) rfl (by simp [Value.oneCell']) (by omega) (by omega) (by simp; omega) (wd.heap.size + 1) (by simp) ?a1))
                case a1 =>
                 intro g2 c2 w2 ho2 hgr2 hat2 hlt2; have hX2 : Blk w2 X 105 [.slice bA bs.length bc, .slice fA fs.length fc] := (HPd.out.blk.alloc _).gb hgr2 HPd.out.oX; have x0 := hX2.cell 0 rfl; have xf := hX2.free 0; have xl := hX2.lt; have HO2 := hd' ho2; have HG2 := hd' hgr2; have HA2 := hd' hat2; clear hX2 ho2 hgr2 hat2
                 go_wp2
                 go_end0
                 have hkk := HBLL.out; subst hkk; have hbd1 : Below w.heap.size w wd := HB.out.trans (HBD.out.mono HB.out.size); obtain ⟨P1, P2⟩ := HP.out.push (b := bl) (hbd1.alloc hbd1.size (.cells #[.slice (some ⟨g, 0, none⟩) bl.length c'] 137)) (World.ownsRow.alloc (own_keep HO.out HBD.out) _) HO2.out HG2.out (HA2.out.imp_right fun e => e.trans (by simp))
                 have hbo : blockOf L n first last funcs = bl := by
                  unfold blockOf; rw [HLR.out, if_pos ⟨e8, hnl, by rw [HM.out]; omega⟩, HBL.out]
                 rw [hbo]; exact ⟨rfl, P2, _, _, _, P1⟩
            · by_cases hn0 : n = 0
              · have qn : (n == 0) = true := by simpa using hn0
                have HEN := hd' (end_ha (ra := ra) (rb := rb') (rc := rc) (n := n) (first := first) (last := last) h8 e9 (.inr hn0)); have hne8 : ¬ (pickL rk 12 = 8 ∧ n < last ∧ 0 < k) := by omega
                have HNE := hd' hne8; clear hne8
                try clear hn0
                try clear hk0
                try clear e8
                try clear e9
                try clear e10
                go_wp2_with (first | (go_at_call 22; refine (picked_any _ _ _ (by omega) (by omega) (by omega) (by omega)).mono ?_; rintro e w4 ⟨rfl, rfl⟩))
                go_meet
                rw [HEN.out]; exact ⟨((((((HY2.out.set 0 _).set 1 _).set 2 _).set 3 _).set 4 _).set 5 _), HBD.out.trans (gb_to_below (gb_setCell (gb_setCell (gb_setCell (gb_setCell (gb_setCell (gb_setCell (gb_refl wd (some Y)) _ _) _ _) _ _) _ _) _ _) _ _) (by omega) HBD.out.size), HNE.out⟩
              · have qn : (n == 0) = false := by simpa using hn0
                have HEN := hd' (end_re (ra := ra) (rb := rb') (rc := rc) (n := n) (first := first) (last := last) h8 e9 e10 hn0); have hne8 : ¬ (pickL rk 12 = 8 ∧ n < last ∧ 0 < k) := by omega
                have HNE := hd' hne8; clear hne8
                try clear hn0
                try clear hk0
                try clear e8
                try clear e9
                try clear e10
                go_wp2_with (first | (go_at_call 22; refine (picked_any _ _ _ (by omega) (by omega) (by omega) (by omega)).mono ?_; rintro e w4 ⟨rfl, rfl⟩))
                go_meet
                rw [HEN.out]; exact ⟨((((((HY2.out.set 0 _).set 1 _).set 2 _).set 3 _).set 4 _).set 5 _), HBD.out.trans (gb_to_below (gb_setCell (gb_setCell (gb_setCell (gb_setCell (gb_setCell (gb_setCell (gb_refl wd (some Y)) _ _) _ _) _ _) _ _) _ _) _ _) (by omega) HBD.out.size), HNE.out⟩
          · have q8 : (pickL rk 12 == 8) = false := by simpa using e8
            by_cases e9 : pickL rk 12 = 9
            · have q9 : (pickL rk 12 == 9) = true := by simpa using e9
              have HEN := hd' (end_tb (ra := ra) (rb := rb') (rc := rc) (n := n) (first := first) (last := last) e9); have hne8 : ¬ (pickL rk 12 = 8 ∧ n < last ∧ 0 < k) := by omega
              have HNE := hd' hne8; clear hne8
              try clear hn0
              try clear hk0
              try clear e8
              try clear e9
              try clear e10
              go_wp2_with fail
              refine wp_region_still_tail 8 (by kernel_rfl) (by kernel_rfl) ?_; simp only [List.take_succ_cons, List.take_zero, List.drop_succ_cons, List.drop_zero]
              repeat (first | still_step | still_call (picked_still _ _ _ (by omega) (by omega) (by omega) (by omega)))
              refine wpStill_nil ?_
              change wpList _ _ _ _ _ wd.drew
              go_wp2
              go_meet
              rw [HEN.out]; exact ⟨(Blk.drew ((((((HY2.out.set 0 _).set 1 _).set 2 _).set 3 _).set 4 _).set 5 _)), HBD.out.trans (gb_to_below (gb_drew (gb_setCell (gb_setCell (gb_setCell (gb_setCell (gb_setCell (gb_setCell (gb_refl wd (some Y)) _ _) _ _) _ _) _ _) _ _) _ _)) (by omega) HBD.out.size), HNE.out⟩
            · have q9 : (pickL rk 12 == 9) = false := by simpa using e9
              by_cases e10 : pickL rk 12 = 10
              · have q10 : (pickL rk 12 == 10) = true := by simpa using e10
                have HEN := hd' (end_ha (ra := ra) (rb := rb') (rc := rc) (n := n) (first := first) (last := last) h8 e9 (.inl e10)); have hne8 : ¬ (pickL rk 12 = 8 ∧ n < last ∧ 0 < k) := by omega
                have HNE := hd' hne8; clear hne8
                try clear hn0
                try clear hk0
                try clear e8
                try clear e9
                try clear e10
                go_wp2_with (first | (go_at_call 22; refine (picked_any _ _ _ (by omega) (by omega) (by omega) (by omega)).mono ?_; rintro e w4 ⟨rfl, rfl⟩))
                go_meet
                rw [HEN.out]; exact ⟨((((((HY2.out.set 0 _).set 1 _).set 2 _).set 3 _).set 4 _).set 5 _), HBD.out.trans (gb_to_below (gb_setCell (gb_setCell (gb_setCell (gb_setCell (gb_setCell (gb_setCell (gb_refl wd (some Y)) _ _) _ _) _ _) _ _) _ _) _ _) (by omega) HBD.out.size), HNE.out⟩
              · have q10 : (pickL rk 12 == 10) = false := by simpa using e10
                by_cases hn0 : n = 0
                · have qn : (n == 0) = true := by simpa using hn0
                  have HEN := hd' (end_ha (ra := ra) (rb := rb') (rc := rc) (n := n) (first := first) (last := last) h8 e9 (.inr hn0)); have hne8 : ¬ (pickL rk 12 = 8 ∧ n < last ∧ 0 < k) := by omega
                  have HNE := hd' hne8; clear hne8
                  try clear hn0
                  try clear hk0
                  try clear e8
                  try clear e9
                  try clear e10
                  go_wp2_with (first | (go_at_call 22; refine (picked_any _ _ _ (by omega) (by omega) (by omega) (by omega)).mono ?_; rintro e w4 ⟨rfl, rfl⟩))
                  go_meet
                  rw [HEN.out]; exact ⟨((((((HY2.out.set 0 _).set 1 _).set 2 _).set 3 _).set 4 _).set 5 _), HBD.out.trans (gb_to_below (gb_setCell (gb_setCell (gb_setCell (gb_setCell (gb_setCell (gb_setCell (gb_refl wd (some Y)) _ _) _ _) _ _) _ _) _ _) _ _) (by omega) HBD.out.size), HNE.out⟩
                · have qn : (n == 0) = false := by simpa using hn0
                  have HEN := hd' (end_re (ra := ra) (rb := rb') (rc := rc) (n := n) (first := first) (last := last) h8 e9 e10 hn0); have hne8 : ¬ (pickL rk 12 = 8 ∧ n < last ∧ 0 < k) := by omega
                  have HNE := hd' hne8; clear hne8
                  try clear hn0
                  try clear hk0
                  try clear e8
                  try clear e9
                  try clear e10
                  go_wp2_with (first | (go_at_call 22; refine (picked_any _ _ _ (by omega) (by omega) (by omega) (by omega)).mono ?_; rintro e w4 ⟨rfl, rfl⟩))
                  go_meet
                  rw [HEN.out]; exact ⟨((((((HY2.out.set 0 _).set 1 _).set 2 _).set 3 _).set 4 _).set 5 _), HBD.out.trans (gb_to_below (gb_setCell (gb_setCell (gb_setCell (gb_setCell (gb_setCell (gb_setCell (gb_refl wd (some Y)) _ _) _ _) _ _) _ _) _ _) _ _) (by omega) HBD.out.size), HNE.out⟩
     case rest =>
      obtain ⟨hZ2, hZ3, hZ4⟩ := hcut; obtain ⟨⟨⟨zk, zd, za, zb, zN, zl⟩, zB, zF, zL⟩, hes⟩ := ex' (endSpot ⟨rk, ra, rb', rc⟩ n first last)
      rw [hes] at hZ2; have HES := hd' hes; have z0 : wc.cell? ⟨Y, 0, none⟩ = some (.int .i64 zk) := hZ2.cell 0 rfl; have z1 : wc.cell? ⟨Y, 1, none⟩ = some (.int .i64 zd) := hZ2.cell 1 rfl; have z2 : wc.cell? ⟨Y, 2, none⟩ = some (.int .i64 za) := hZ2.cell 2 rfl; have z3 : wc.cell? ⟨Y, 3, none⟩ = some (.int .i64 zb) := hZ2.cell 3 rfl; have z4 : wc.cell? ⟨Y, 4, none⟩ = some (.int .i64 zN) := hZ2.cell 4 rfl; have z5 : wc.cell? ⟨Y, 5, none⟩ = some (.bool zl) := hZ2.cell 5 rfl; have z6 : wc.cell? ⟨Y, 6, none⟩ = some (.int .i64 zB) := hZ2.cell 6 rfl
      have z7 : wc.cell? ⟨Y, 7, none⟩ = some (.int .i64 zF) := hZ2.cell 7 rfl; have z8 : wc.cell? ⟨Y, 8, none⟩ = some (.int .i64 zL) := hZ2.cell 8 rfl; have hzs := hZ3.size; have HZ2 := hd' hZ2; have HZ3 := hd' hZ3; have HZ4 := hd' hZ4; have hbc : Below w.heap.size w wc := HB.out.trans (hZ3.mono HB.out.size); have HBC := hd' hbc; have hpc := HP.out.below hbc; have px0 := hpc.blk.cell 0 rfl; have pxf := hpc.blk.free 0; have pxl := hpc.blk.lt; have HOS := hd' (own_keep HO.out hZ3)
      have hYne : (Value.slice A' k c').ownBlock ≠ some Y := fun e => by have := (own_blk_lt HO.out e).2; omega
      have hYne2 : (Value.slice bA bs.length bc).ownBlock ≠ some Y := fun e => by have := (own_blk_lt HP.out.outer e).2; omega
      have HYne := hd' hYne; have HYne2 := hd' hYne2; clear hes hZ2 hZ3 hZ4 hbc hpc hYne hYne2 HBD HY2
      go_wp2_with fail
      go_region_law ((first | (have hb1 : Below w.heap.size w (wc.alloc (.cells #[.int .i64 zk, .int .i64 zd, .int .i64 za, .int .i64 zb, .int .i64 zN, .bool zl, .int .i64 zB, .int .i64 zF, .int .i64 zL] 140)).drew := (HBC.out.alloc HBC.out.size _).drew; have hb1s := hb1.size; have ho1 : (wc.alloc (.cells #[.int .i64 zk, .int .i64 zd, .int .i64 za, .int .i64 zb, .int .i64 zN, .bool zl, .int .i64 zB, .int .i64 zF, .int .i64 zL] 140)).drew.ownsRow w.heap.size 140 9 (.slice A' k c') k (spotsC bl) := World.ownsRow.alloc HOS.out _; have hr1 : (wc.alloc (.cells #[.int .i64 zk, .int .i64 zd, .int .i64 za, .int .i64 zb, .int .i64 zN, .bool zl, .int .i64 zB, .int .i64 zF, .int .i64 zL] 140)).drew.heap[wc.heap.size]? = some (.cells #[.int .i64 zk, .int .i64 zd, .int .i64 za, .int .i64 zb, .int .i64 zN, .bool zl, .int .i64 zB, .int .i64 zF, .int .i64 zL] 140 (0, 0)) := heap_alloc_new wc _; have hz1 : (wc.alloc (.cells #[.int .i64 zk, .int .i64 zd, .int .i64 za, .int .i64 zb, .int .i64 zN, .bool zl, .int .i64 zB, .int .i64 zF, .int .i64 zL] 140)).drew.heap.size = wc.heap.size + 1 := (by simp); have hk1 : (k + 1) * 72 ≤ 140737488355328 := (by omega); refine step_app_one rfl _ _ 137 140 9 72 _ Tryz.underlying137 infoSpot rfl (by decide) rfl w.heap.size _ k _ rfl ho1 wc.heap.size 1 rfl [.int .i64 zk, .int .i64 zd, .int .i64 za, .int .i64 zb, .int .i64 zN, .bool zl, .int .i64 zB, .int .i64 zF, .int .i64 zL] 140 (0, 0) hr1 rfl (by simp [Value.oneCell']) (by omega) hk1 hb1s (wc.heap.size + 1) hz1 ?_; intro g2 c2 w2 ho2 hgr2 hat2 hlt2; have hbn : Below w.heap.size w w2 := hb1.trans (gb_below_of hgr2 (fun q hq => (World.ownsRow.lt HOS.out q hq).1) hb1s); have hp2 := HP.out.below hbn; have x0 := hp2.blk.cell 0 rfl; have xf := hp2.blk.free 0; have xl := hp2.blk.lt; have hy2 : Blk w2 Y 140 [.int .i64 zk, .int .i64 zd, .int .i64 za, .int .i64 zb, .int .i64 zN, .bool zl, .int .i64 zB, .int .i64 zF, .int .i64 zL] := (HZ2.out.alloc (.cells #[.int .i64 zk, .int .i64 zd, .int .i64 za, .int .i64 zb, .int .i64 zN, .bool zl, .int .i64 zB, .int .i64 zF, .int .i64 zL] 140)).drew.gb hgr2 HYne.out; have ya0 : w2.cell? ⟨Y, 0, none⟩ = some (.int .i64 zk) := hy2.cell 0 rfl; have ya1 : w2.cell? ⟨Y, 1, none⟩ = some (.int .i64 zd) := hy2.cell 1 rfl; have ya2 : w2.cell? ⟨Y, 2, none⟩ = some (.int .i64 za) := hy2.cell 2 rfl; have ya3 : w2.cell? ⟨Y, 3, none⟩ = some (.int .i64 zb) := hy2.cell 3 rfl; have ya4 : w2.cell? ⟨Y, 4, none⟩ = some (.int .i64 zN) := hy2.cell 4 rfl; have ya5 : w2.cell? ⟨Y, 5, none⟩ = some (.bool zl) := hy2.cell 5 rfl; have ya6 : w2.cell? ⟨Y, 6, none⟩ = some (.int .i64 zB) := hy2.cell 6 rfl; have ya7 : w2.cell? ⟨Y, 7, none⟩ = some (.int .i64 zF) := hy2.cell 7 rfl; have ya8 : w2.cell? ⟨Y, 8, none⟩ = some (.int .i64 zL) := hy2.cell 8 rfl; have HO2 := hd' ho2; have HBN := hd' hbn; have HY3 := hd' hy2; have HP2 := hd' hp2; clear ho2 hgr2 hat2 hbn hy2 hp2 hb1 ho1 hr1 hz1 hb1s) | (have hb1 : Below w.heap.size w (w2.alloc (.cells #[.slice (some ⟨g2, 0, none⟩) (k + 1) c2] 137)) := (HBN.out.alloc HBN.out.size _); have hb1s := hb1.size; have ho1 : (w2.alloc (.cells #[.slice (some ⟨g2, 0, none⟩) (k + 1) c2] 137)).ownsRow base 137 1 (.slice bA bs.length bc) bs.length (gsV gs bs) := World.ownsRow.alloc HP2.out.outer _; have hr1 : (w2.alloc (.cells #[.slice (some ⟨g2, 0, none⟩) (k + 1) c2] 137)).heap[w2.heap.size]? = some (.cells #[.slice (some ⟨g2, 0, none⟩) (k + 1) c2] 137 (0, 0)) := heap_alloc_new w2 _; have hz1 : (w2.alloc (.cells #[.slice (some ⟨g2, 0, none⟩) (k + 1) c2] 137)).heap.size = w2.heap.size + 1 := (by simp); refine step_app_one rfl _ _ 103 137 1 24 _ Tryz.underlying103 infoSpots rfl (by decide) rfl base _ bs.length _ rfl ho1 w2.heap.size 1 rfl [.slice (some ⟨g2, 0, none⟩) (k + 1) c2] 137 (0, 0) hr1 rfl (by simp [Value.oneCell']) (by omega) (by omega) (by omega) (w2.heap.size + 1) hz1 ?_; intro g3 c3 w3 ho3 hgr3 hat3 hlt3; have hx3 : Blk w3 X 105 [.slice bA bs.length bc, .slice fA fs.length fc] := (HP2.out.blk.alloc (.cells #[.slice (some ⟨g2, 0, none⟩) (k + 1) c2] 137)).gb hgr3 HP2.out.oX; have x30 := hx3.cell 0 rfl; have x3f := hx3.free 0; have x3l := hx3.lt; have hy3 : Blk w3 Y 140 [.int .i64 zk, .int .i64 zd, .int .i64 za, .int .i64 zb, .int .i64 zN, .bool zl, .int .i64 zB, .int .i64 zF, .int .i64 zL] := (HY3.out.alloc (.cells #[.slice (some ⟨g2, 0, none⟩) (k + 1) c2] 137)).gb hgr3 HYne2.out; have yb0 : w3.cell? ⟨Y, 0, none⟩ = some (.int .i64 zk) := hy3.cell 0 rfl; have yb1 : w3.cell? ⟨Y, 1, none⟩ = some (.int .i64 zd) := hy3.cell 1 rfl; have yb2 : w3.cell? ⟨Y, 2, none⟩ = some (.int .i64 za) := hy3.cell 2 rfl; have yb3 : w3.cell? ⟨Y, 3, none⟩ = some (.int .i64 zb) := hy3.cell 3 rfl; have yb4 : w3.cell? ⟨Y, 4, none⟩ = some (.int .i64 zN) := hy3.cell 4 rfl; have yb5 : w3.cell? ⟨Y, 5, none⟩ = some (.bool zl) := hy3.cell 5 rfl; have yb6 : w3.cell? ⟨Y, 6, none⟩ = some (.int .i64 zB) := hy3.cell 6 rfl; have yb7 : w3.cell? ⟨Y, 7, none⟩ = some (.int .i64 zF) := hy3.cell 7 rfl; have yb8 : w3.cell? ⟨Y, 8, none⟩ = some (.int .i64 zL) := hy3.cell 8 rfl; have HO3 := hd' ho3; have HG3 := hd' hgr3; have HA3 := hd' hat3; clear ho3 hgr3 hat3 hx3 hy3 hb1 ho1 hr1 hz1 hb1s)))
      all_goals (go_wp2; go_end0)
      all_goals
       have hkk := HBLL.out; subst hkk; have hbl2 : (bl ++ [(⟨⟨zk, zd, za, zb, zN, zl⟩, zB, zF, zL⟩ : Spot)]).length = bl.length + 1 := by simp
       have hsp : spotsC (bl ++ [(⟨⟨zk, zd, za, zb, zN, zl⟩, zB, zF, zL⟩ : Spot)]) = spotsC bl ++ [.int .i64 zk, .int .i64 zd, .int .i64 za, .int .i64 zb, .int .i64 zN, .bool zl, .int .i64 zB, .int .i64 zF, .int .i64 zL] := by simp [spotsC, spotC]
       obtain ⟨P1, P2⟩ := HP.out.push (b := bl ++ [⟨⟨zk, zd, za, zb, zN, zl⟩, zB, zF, zL⟩]) (g := g2) (c := c2) (HBN.out.alloc HBN.out.size (.cells #[.slice (some ⟨g2, 0, none⟩) (bl.length + 1) c2] 137)) (by rw [hbl2, hsp]; exact World.ownsRow.alloc HO2.out _) (by rw [hbl2]; exact HO3.out) HG3.out (HA3.out.imp_right fun e => e.trans (by simp))
       have hbo : blockOf L n first last funcs = bl ++ [⟨⟨zk, zd, za, zb, zN, zl⟩, zB, zF, zL⟩] := by
        unfold blockOf; rw [HLR.out, if_neg (by rw [HM.out]; rintro ⟨a, b, c⟩; exact HZ4.out ⟨a, b, by omega⟩), HBL.out, HES.out]
       rw [hbo]; exact ⟨rfl, P2, _, _, _, P1⟩
end Go.Proofs.YtcdlgjhdbmmomaaGreatDoor
