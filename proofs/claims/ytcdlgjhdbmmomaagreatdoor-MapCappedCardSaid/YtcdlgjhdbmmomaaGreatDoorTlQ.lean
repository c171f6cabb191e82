/- boltholekeep.Tally, walked. -/
import Derived.Test.YtcdlgjhdbmmomaaGreatDoorTlD
import Derived.Test.YtcdlgjhdbmmomaaGreatDoorRegX
import Derived.Deep.DeepCutAuto
import Derived.Deep.CutBlock
import Derived.Deep.LoopGhost
import Derived.Deep.QuietTactic
import Derived.BigQuiet
import Derived.IntWalk
import Derived.WalkLawsBesides
namespace Go.Proofs.YtcdlgjhdbmmomaaGreatDoor
open Go.RowKit Go.Deep
def to1 (e t l p : Int) : Int := if e = 4 ∧ p = 0 then l else t
def to2 (e p t : Int) : Int := if e = 1 then p else t
theorem tlTo_is (d : FlowD) (b : BlkD) (r : RawI) : tlTo d b r = to2 b.ends (pickL r.b d.blocks.length) (to1 b.ends b.dst b.els (pickL r.b 2)) := rfl
set_option maxHeartbeats 8000000 in
set_option maxRecDepth 100000 in
theorem tally_any {d : FlowD} {xA yA zA : Option Addr} {xc yc zc : Nat} (w : World) (hw : TlyW w) (hf : FlowRd w xA xc yA yc zA zc d) (hd : TalB d) (L : List RawI) (A : Option Addr) (c : Nat) (hR : RdR w w.heap.size A L) (hL : L.length ≤ 100) :
 Calls Tryz.prog 15 #[.agg (flowV d xA yA zA xc yc zc), .slice A L.length c] w fun e w' => Below w.heap.size w w' ∧ ∃ S : ByteArray, e = .returned (.string S) ∧ S.data.toList = (L.map (tlE d)).flatMap fmtE := by
 obtain ⟨g, o, hxA, hg, hxc, hcel⟩ := hf.cells hd.ne; have HCEL := hd' hcel; have HW := hd' hw; have HD := hd' hd; have HR := hd' hR; have HRW := hd' hR.1; subst hxA; unfold flowV; have hfew := hd.few; have hne := hd.ne; obtain ⟨N, hN⟩ := ex' L.length
 obtain ⟨NB, hNB⟩ := ex' d.blocks.length
 obtain ⟨nt, hnt⟩ := ex' d.tables.length
 obtain ⟨nz, hnz⟩ := ex' d.firsts.length
 rw [hN] at hL ⊢; rw [hNB] at hfew hne hxc; rw [hNB, hnt, hnz]; have HN := hd' hN; have HNB := hd' hNB; clear hf hd hw hR hN hNB hnt hnz hcel
 go_enter Tryz.func15, Tryz.ntmps15
 go_upto_region 1 with fail
 obtain ⟨F, hF⟩ := ex' (w.alloc (.cells #[.slice (some ⟨g, o, none⟩) NB xc, .slice yA nt yc, .slice zA nz zc] 33))
 rw [hF]; have hbF : Below w.heap.size w F := by rw [← hF]; exact (Below.refl _ _).alloc lr' _
 have hFB : Blk F w.heap.size 33 [.slice (some ⟨g, o, none⟩) NB xc, .slice yA nt yc, .slice zA nz zc] := by rw [← hF]; exact Blk.new w _ _
 obtain ⟨BF, hBF⟩ := ex' w.heap.size
 have HBFW := hd' hbF; rw [hBF] at hFB ⊢; have HFB := hd' hFB; have HWB : Hid (∀ W, Below F.heap.size F W → Below w.heap.size w W) := hd' fun W hW => HBFW.out.trans (hW.mono HBFW.out.size)
 have hne2 : (0 : Int) < (NB : Int) := by omega
 clear hF hbF hFB hBF
 go_wp2_with fail
 go_loopg [6, 5] N (fun gk s6 s5 wr => ∃ (i : Nat) (S : ByteArray), i ≤ N ∧ s6 = .int .i64 i ∧ s5 = .string S ∧ Hid (S.data.toList = ((L.take i).map (tlE d)).flatMap fmtE) ∧ Hid (Below F.heap.size F wr) ∧ N - i ≤ gk)
 case atStart => exact ⟨0, ⟨#[]⟩, Nat.zero_le _, rfl, rfl, hd' rfl, hd' (Below.refl _ _), Nat.le_refl _⟩
 case round =>
  obtain ⟨i, S, hi, rfl, rfl, HS, HB, hgk⟩ := hrel; have hfw := HFB.out.keep HB.out; have u0 := hfw.cell 0 rfl; have ul := hfw.lt; have HFW := hd' hfw; clear hfw
  by_cases hlt : i < N
  · have hltI : (i : Int) < (N : Int) := by omega
    have hx : L[i]? = some (L[i]'(by have := HN.out; omega)) := gE' _; generalize L[i]'(by have := HN.out; omega) = x at hx; have hbw := HWB.out wr HB.out; obtain ⟨b, o2, hA, hb, c1, c2, c3⟩ := raw_at (HR.out.below hbw) hx; obtain ⟨-, x1, x2, x3⟩ := HRW.out x (mG' hx); obtain ⟨k0, hk0, hk0l, hblk⟩ := HD.out.at x; obtain ⟨tk, tb, htk, htkl, htb, htbe⟩ := HD.out.to x; have hok := tlE_ok HD.out x; have HTE : Hid ((L.take (i + 1)).map (tlE d) = (L.take i).map (tlE d) ++ [tlE d x]) := hd' (by rw [List.take_add_one, hx, List.map_append]; rfl)
    have HOK := hd' hok; rw [HNB.out] at hk0 hk0l htkl; have HPa := hd' (fun W => picked_any x.a NB W x1.1 x1.2 (by omega) (by omega)); have HPb := hd' (fun W => picked_any x.b NB W x2.1 x2.2 (by omega) (by omega)); have HPb2 := hd' (fun W => picked_any x.b 2 W x2.1 x2.2 (by decide) (by decide)); have HPc := hd' (fun W => picked_any x.c 1000 W x3.1 x3.2 (by decide) (by decide)); rw [hk0] at HPa; obtain ⟨v, hbr, hcs⟩ := HCEL.out k0 _ hblk; obtain ⟨v2, -, hcs2⟩ := HCEL.out tk _ htb; obtain ⟨⟨ha1, ha2⟩, -, -, -, -⟩ := HD.out.blk k0 _ hblk; have hto := tlTo_is d (tlBlk d x) x
    rw [htk, HNB.out] at hto; have hE : tlE d x = ⟨(tlBlk d x).ats.getD ((tlBlk d x).ats.length - 1) 0, tb.start, pickL x.c 1000⟩ := by unfold tlE; rw [htbe]
    obtain ⟨bq, hbq⟩ := ex' (tlBlk d x)
    rw [hbq] at hblk hbr hcs ha1 ha2 hto hE; obtain ⟨bf, bst, bco, bat, ⟨lk, lld, la, lb, ln, llb⟩, ben, bds, bel, bli⟩ := bq; obtain ⟨cA, cc, aA, ac, liA, lic⟩ := v; have hbrA := hbr.2.1; simp only at ha1 ha2 hto hE hbrA; obtain ⟨na, hna⟩ := ex' bat.length
    obtain ⟨nk, rfl⟩ : ∃ k, na = k + 1 := ⟨na - 1, by omega⟩
    obtain ⟨na, hnae⟩ := ex' (nk + 1)
    rw [hnae] at hna; have hlast : bat[nk]? = some (bat[nk]'(by omega)) := gE' _; obtain ⟨at_, hat⟩ := ex' (bat[nk]'(by omega))
    rw [hat] at hlast; obtain ⟨ab, ao, hab, habl, hac⟩ := hbrA.1.at (intsV_at .i64 hlast); have hacap : na ≤ ac := by have h := hbrA.2.1; rw [hna] at h; exact h
    have hE2 : tlE d x = ⟨at_, tb.start, pickL x.c 1000⟩ := by
     rw [hE, hna, ← hnae, Nat.add_sub_cancel, List.getD_eq_getElem?_getD, hlast]
     rfl
    have b0 := (hbw.cell (p := ⟨g, o + k0 * 14 + 0, none⟩) hg).trans (hcs 0 _ rfl); have b1 := (hbw.cell (p := ⟨g, o + k0 * 14 + 1, none⟩) hg).trans (hcs 1 _ rfl); have b2 := (hbw.cell (p := ⟨g, o + k0 * 14 + 2, none⟩) hg).trans (hcs 2 _ rfl); have b3 := (hbw.cell (p := ⟨g, o + k0 * 14 + 3, none⟩) hg).trans (hcs 3 _ rfl); have b4 := (hbw.cell (p := ⟨g, o + k0 * 14 + 4, none⟩) hg).trans (hcs 4 _ rfl); have b5 := (hbw.cell (p := ⟨g, o + k0 * 14 + 5, none⟩) hg).trans (hcs 5 _ rfl); have b6 := (hbw.cell (p := ⟨g, o + k0 * 14 + 6, none⟩) hg).trans (hcs 6 _ rfl)
    have b7 := (hbw.cell (p := ⟨g, o + k0 * 14 + 7, none⟩) hg).trans (hcs 7 _ rfl); have b8 := (hbw.cell (p := ⟨g, o + k0 * 14 + 8, none⟩) hg).trans (hcs 8 _ rfl); have b9 := (hbw.cell (p := ⟨g, o + k0 * 14 + 9, none⟩) hg).trans (hcs 9 _ rfl); have b10 := (hbw.cell (p := ⟨g, o + k0 * 14 + 10, none⟩) hg).trans (hcs 10 _ rfl); have b11 := (hbw.cell (p := ⟨g, o + k0 * 14 + 11, none⟩) hg).trans (hcs 11 _ rfl); have b12 := (hbw.cell (p := ⟨g, o + k0 * 14 + 12, none⟩) hg).trans (hcs 12 _ rfl); have b13 := (hbw.cell (p := ⟨g, o + k0 * 14 + 13, none⟩) hg).trans (hcs 13 _ rfl)
    have s1 := (hbw.cell (p := ⟨g, o + tk * 14 + 1, none⟩) hg).trans (hcs2 1 (.int .i64 tb.start) rfl); have r1 := (hbw.cell (p := ⟨ab, ao + nk, none⟩) habl).trans hac; simp only [Nat.add_zero] at b0; rw [hna] at b3; have hgr : g < wr.heap.size := Nat.lt_of_lt_of_le hg hbw.size; have habr : ab < wr.heap.size := Nat.lt_of_lt_of_le habl hbw.size; have hbr2 : b < wr.heap.size := Nat.lt_of_lt_of_le hb hbw.size; obtain ⟨xa, hxa⟩ := ex' x.a
    obtain ⟨xb, hxb⟩ := ex' x.b
    obtain ⟨xcv, hxcv⟩ := ex' x.c
    obtain ⟨ts, hts⟩ := ex' tb.start
    obtain ⟨pc, hpc⟩ := ex' (pickL x.c 1000)
    obtain ⟨p2, hp2⟩ := ex' (pickL x.b 2)
    obtain ⟨pn, hpn⟩ := ex' (pickL x.b NB)
    rw [hpn, hp2] at hto; rw [hpn, hxb] at HPb; rw [hp2, hxb] at HPb2; rw [hpc, hxcv] at HPc; rw [hxa] at HPa c1; rw [hxb] at c2; rw [hxcv] at c3; rw [hts] at s1 hE2; rw [hpc] at hE2; rw [hE2] at HTE HOK; have HTO := hd' hto; have hk0I : (0 : Int) ≤ (k0 : Int) ∧ (k0 : Int) < (NB : Int) := by omega
    have hk0a := hk0I.1; have hk0b := hk0I.2; have htka : (0 : Int) ≤ (tk : Int) := by omega
    have htkb : (tk : Int) < (NB : Int) := by omega
    have hnka : (0 : Int) ≤ (nk : Int) := by omega
    have hnkb : (nk : Int) < (na : Int) := by omega
    have qn : IntKind.i64.wrap ((na : Int) - 1) = (nk : Int) := by rw [IntWalk.i64_in _ (by omega)]; omega
    subst hA hab; clear hx hbw x1 x2 x3 hk0 hblk htk htb htbe hok hbr hcs hcs2 hto hE hbrA hlast hat hac hE2 hxa hxb hxcv hts hpc hp2 hpn hna hnae habl hb ha1 ha2 hk0I hbq
    go_upto_region 5 with fail
    go_cut [7] (fun s7 wx => ∃ z : Nat, s7 = .pointer (some ⟨z, 0, none⟩) ∧ Hid (Blk wx z 54 [.int .i64 bf, .int .i64 bst, .slice cA bco.length cc, .slice (some ⟨ab, ao, none⟩) na ac, .int .i64 lk, .int .i64 lld, .int .i64 la, .int .i64 lb, .int .i64 ln, .bool llb, .int .i64 ben, .int .i64 bds, .int .i64 bel, .slice liA bli.length lic]) ∧ Hid (Below wr.heap.size wr wx))
    case first =>
     refine wp_region_W (fun w' => w'.cell? ⟨BF, 0, none⟩ = some (.slice (some ⟨g, o, none⟩) NB xc) ∧ w'.cell? ⟨b, o2 + i * 4 + 1, none⟩ = some (.int .i64 xa) ∧ w'.cell? ⟨g, o + k0 * 14, none⟩ = some (.int .i64 bf) ∧ w'.cell? ⟨g, o + k0 * 14 + 1, none⟩ = some (.int .i64 bst) ∧ w'.cell? ⟨g, o + k0 * 14 + 2, none⟩ = some (.slice cA bco.length cc) ∧ w'.cell? ⟨g, o + k0 * 14 + 3, none⟩ = some (.slice (some ⟨ab, ao, none⟩) na ac) ∧ w'.cell? ⟨g, o + k0 * 14 + 4, none⟩ = some (.int .i64 lk) ∧ w'.cell? ⟨g, o + k0 * 14 + 5, none⟩ = some (.int .i64 lld) ∧ w'.cell? ⟨g, o + k0 * 14 + 6, none⟩ = some (.int .i64 la) ∧ w'.cell? ⟨g, o + k0 * 14 + 7, none⟩ = some (.int .i64 lb) ∧ w'.cell? ⟨g, o + k0 * 14 + 8, none⟩ = some (.int .i64 ln) ∧ w'.cell? ⟨g, o + k0 * 14 + 9, none⟩ = some (.bool llb) ∧ w'.cell? ⟨g, o + k0 * 14 + 10, none⟩ = some (.int .i64 ben) ∧ w'.cell? ⟨g, o + k0 * 14 + 11, none⟩ = some (.int .i64 bds) ∧ w'.cell? ⟨g, o + k0 * 14 + 12, none⟩ = some (.int .i64 bel) ∧ w'.cell? ⟨g, o + k0 * 14 + 13, none⟩ = some (.slice liA bli.length lic)) 15 (by kernel_rfl) (by (try dsimp only); go_keep) (fun zH => ?_)
     have hbD : Below wr.heap.size wr wr.drew := (Below.refl _ _).drew; refine wq 0 zH ?_; refine wq 1 zH ?_; refine wq 2 zH ?_; refine wq 3 zH ?_; refine wq 4 zH ?_; refine wq 5 zH ?_; refine wq 6 zH ?_; refine wq 7 zH ?_; refine wq 8 zH ?_; refine wq 9 zH ?_
     refine wpW_all [10, 13] (by kernel_rfl) (by simp) ?_; refine AllW.cons (i := 10) rfl (fun K hK => ?_) ?_
     · skip
       go_simp
       refine (HPa.out _).mono ?_; rintro e wqx ⟨rfl, rfl⟩; refine hK.out _ _ (by (try dsimp only); go_keep) (fun zH => ?_); clear hK K; (try simp only [putE]); refine wq 11 zH ?_; refine wq 12 zH ?_; refine wpW_one 13 rfl (by kernel_rfl) (fun K hK => ?_)
       go_simp
       have zb0 : Blk (wr.alloc (.cells #[.int .i64 0, .int .i64 0, .slice none 0 0, .slice none 0 0, .int .i64 0, .int .i64 0, .int .i64 0, .int .i64 0, .int .i64 0, .bool false, .int .i64 0, .int .i64 0, .int .i64 0, .slice none 0 0] 54)).drew (wr.heap.size) 54 [.int .i64 0, .int .i64 0, .slice none 0 0, .slice none 0 0, .int .i64 0, .int .i64 0, .int .i64 0, .int .i64 0, .int .i64 0, .bool false, .int .i64 0, .int .i64 0, .int .i64 0, .slice none 0 0] := Blk.drew (Blk.new wr _ _)
       have hbA : Below wr.heap.size wr (wr.alloc (.cells #[.int .i64 0, .int .i64 0, .slice none 0 0, .slice none 0 0, .int .i64 0, .int .i64 0, .int .i64 0, .int .i64 0, .int .i64 0, .bool false, .int .i64 0, .int .i64 0, .int .i64 0, .slice none 0 0] 54)).drew := ((Below.refl _ _).alloc lr' _).drew; refine hK.out _ _ (by (try dsimp only); go_keep) (fun zH => ?_); clear hK K; (try simp only [putE]); refine wpW_one 14 rfl (by kernel_rfl) (fun K hK => ?_)
       go_simp
       refine hK.out _ _ (by (try dsimp only); go_keep) (fun zH => ?_); clear hK K; (try simp only [putE]); refine wpW_done (by kernel_rfl) ?_ _
       go_wp2
       go_meet
       exact ⟨_, rfl, hd' (Blk.drew (Blk.new wr _ _)), hd' ((Below.refl wr.heap.size wr).alloc lr' (.cells #[.int .i64 bf, .int .i64 bst, .slice cA bco.length cc, .slice (some ⟨ab, ao, none⟩) na ac, .int .i64 lk, .int .i64 lld, .int .i64 la, .int .i64 lb, .int .i64 ln, .bool llb, .int .i64 ben, .int .i64 bds, .int .i64 bel, .slice liA bli.length lic] 54)).drew⟩
     refine AllW.cons (i := 13) rfl (fun K hK => ?_) AllW.nil
     go_simp
     have zb0 : Blk (wr.alloc (.cells #[.int .i64 0, .int .i64 0, .slice none 0 0, .slice none 0 0, .int .i64 0, .int .i64 0, .int .i64 0, .int .i64 0, .int .i64 0, .bool false, .int .i64 0, .int .i64 0, .int .i64 0, .slice none 0 0] 54)).drew (wr.heap.size) 54 [.int .i64 0, .int .i64 0, .slice none 0 0, .slice none 0 0, .int .i64 0, .int .i64 0, .int .i64 0, .int .i64 0, .int .i64 0, .bool false, .int .i64 0, .int .i64 0, .int .i64 0, .slice none 0 0] := Blk.drew (Blk.new wr _ _)
     have hbA : Below wr.heap.size wr (wr.alloc (.cells #[.int .i64 0, .int .i64 0, .slice none 0 0, .slice none 0 0, .int .i64 0, .int .i64 0, .int .i64 0, .int .i64 0, .int .i64 0, .bool false, .int .i64 0, .int .i64 0, .int .i64 0, .slice none 0 0] 54)).drew := ((Below.refl _ _).alloc lr' _).drew; refine hK.out _ _ (by (try dsimp only); go_keep) (fun zH => ?_); clear hK K; (try simp only [putE]); refine wpW_one 10 rfl (by kernel_rfl) (fun K hK => ?_)
     go_simp
     refine (HPa.out _).mono ?_; rintro e wqx ⟨rfl, rfl⟩; refine hK.out _ _ (by (try dsimp only); go_keep) (fun zH => ?_); clear hK K; (try simp only [putE]); refine wq 11 zH ?_; refine wq 12 zH ?_; refine wpW_one 14 rfl (by kernel_rfl) (fun K hK => ?_)
     go_simp
     refine hK.out _ _ (by (try dsimp only); go_keep) (fun zH => ?_); clear hK K; (try simp only [putE]); refine wpW_done (by kernel_rfl) ?_ _
     go_wp2
     go_meet
     exact ⟨_, rfl, hd' (Blk.drew (Blk.new wr _ _)), hd' ((Below.refl wr.heap.size wr).alloc lr' (.cells #[.int .i64 bf, .int .i64 bst, .slice cA bco.length cc, .slice (some ⟨ab, ao, none⟩) na ac, .int .i64 lk, .int .i64 lld, .int .i64 la, .int .i64 lb, .int .i64 ln, .bool llb, .int .i64 ben, .int .i64 bds, .int .i64 bel, .slice liA bli.length lic] 54)).drew⟩
    case rest =>
     obtain ⟨z, rfl, HZ, HBZ⟩ := hcut
     rename World => wx
     have z3 := HZ.out.cell 3 rfl; have z10 := HZ.out.cell 10 rfl; have z11 := HZ.out.cell 11 rfl; have z12 := HZ.out.cell 12 rfl; have zl := HZ.out.lt; have e0 := (HBZ.out.cell (p := ⟨BF, 0, none⟩) ul).trans u0; have e2 := (HBZ.out.cell (p := ⟨b, o2 + i * 4 + 2, none⟩) hbr2).trans c2; have e3 := (HBZ.out.cell (p := ⟨b, o2 + i * 4 + 3, none⟩) hbr2).trans c3; have e4 := (HBZ.out.cell (p := ⟨g, o + tk * 14 + 1, none⟩) hgr).trans s1; have e5 := (HBZ.out.cell (p := ⟨ab, ao + nk, none⟩) habr).trans r1; have l0 := Nat.lt_of_lt_of_le ul HBZ.out.size; have l1 := Nat.lt_of_lt_of_le hbr2 HBZ.out.size
     have l2 := Nat.lt_of_lt_of_le hgr HBZ.out.size; have l3 := Nat.lt_of_lt_of_le habr HBZ.out.size; clear b0 b1 b2 b3 b4 b5 b6 b7 b8 b9 b10 b11 b12 b13 c1 c2 c3 u0 ul s1 r1 hgr habr hbr2; have h : ben = 1 ∨ (ben = 4 ∧ p2 = 0) ∨ (ben = 4 ∧ p2 ≠ 0) ∨ (ben ≠ 1 ∧ ben ≠ 4) := by omega
     rcases h with h | ⟨h, hp⟩ | ⟨h, hp⟩ | ⟨h, hp⟩
     · subst h; obtain rfl : pn = (tk : Int) := by have h := HTO.out; unfold to2 at h; rw [if_pos rfl] at h; exact h.symm
       go_upto_region 10 with fail
       refine wp_region_W (fun w' => w'.cell? ⟨BF, 0, none⟩ = some (.slice (some ⟨g, o, none⟩) NB xc) ∧ w'.cell? ⟨b, o2 + i * 4 + 2, none⟩ = some (.int .i64 xb)) 10 (by kernel_rfl) (by (try dsimp only); go_keep) (fun zH => ?_); refine wq 0 zH ?_; refine wq 1 zH ?_; refine wq 2 zH ?_; refine wq 3 zH ?_; refine wq 4 zH ?_; refine wq 5 zH ?_; refine wq 6 zH ?_; refine wq 7 zH ?_; refine wpW_one 8 rfl (by kernel_rfl) (fun K hK => ?_)
       go_simp
       refine (HPb.out _).mono ?_; rintro e wqx ⟨rfl, rfl⟩; refine hK.out _ _ (by (try dsimp only); exact ⟨e0, e2⟩) (fun zH => ?_); clear hK K; (try simp only [putE]); refine wq 9 zH ?_; refine wpW_done (by kernel_rfl) ?_ _
       go_upto_region 11 with fail
       obtain ⟨w9, hw9⟩ := ex' wx.drew
       rw [hw9]; have HBX : Hid (Below wx.heap.size wx w9) := hd' (by rw [← hw9]; exact (Below.refl _ _).drew); clear hw9; have k0' := (HZ.out.keep HBX.out).cell 3 rfl; have kl := (HZ.out.keep HBX.out).lt; have f0 := (HBX.out.cell (p := ⟨BF, 0, none⟩) l0).trans e0; have f3 := (HBX.out.cell (p := ⟨b, o2 + i * 4 + 3, none⟩) l1).trans e3; have f4 := (HBX.out.cell (p := ⟨g, o + tk * 14 + 1, none⟩) l2).trans e4; have f5 := (HBX.out.cell (p := ⟨ab, ao + nk, none⟩) l3).trans e5; have m0 := Nat.lt_of_lt_of_le l0 HBX.out.size; have m1 := Nat.lt_of_lt_of_le l1 HBX.out.size
       have m2 := Nat.lt_of_lt_of_le l2 HBX.out.size; have m3 := Nat.lt_of_lt_of_le l3 HBX.out.size; have HB9F : Hid (Below F.heap.size F w9) := hd' ((HB.out.trans (HBZ.out.mono HB.out.size)).trans (HBX.out.mono (HB.out.trans (HBZ.out.mono HB.out.size)).size)); have HW9 := hd' (HW.out.below (HWB.out _ HB9F.out)); clear z3 z10 z11 z12 zl e0 e2 e3 e4 e5 l0 l1 l2 l3 HTO; obtain ⟨I1, hI1⟩ := ex' (⟨(Lib.itoa at_).toArray⟩ : ByteArray)
       obtain ⟨I2, hI2⟩ := ex' (⟨(Lib.itoa ts).toArray⟩ : ByteArray)
       obtain ⟨I3, hI3⟩ := ex' (⟨(Lib.itoa pc).toArray⟩ : ByteArray)
       have HI1 : Hid (∀ W, Below w9.heap.size w9 W → Calls Tryz.prog 39 #[.int .i64 at_] W fun e w' => e = .returned (.string I1) ∧ Below W.heap.size W w') := hd' fun W hW => by
        have h := Sh.strconv_Itoa at_ (by have := HOK.out.a.1; simp only at this; omega) (by have := HOK.out.a.2; simp only at this; omega) W (HW9.out.below hW).tab; rw [hI1] at h; exact h.mono fun e w' ⟨he, k, os, hw⟩ => ⟨he, by rw [hw]; exact Go.Lib.below_grow _ _ lr' k os⟩
       have HI2 : Hid (∀ W, Below w9.heap.size w9 W → Calls Tryz.prog 39 #[.int .i64 ts] W fun e w' => e = .returned (.string I2) ∧ Below W.heap.size W w') := hd' fun W hW => by
        have h := Sh.strconv_Itoa ts (by have := HOK.out.b.1; simp only at this; omega) (by have := HOK.out.b.2; simp only at this; omega) W (HW9.out.below hW).tab; rw [hI2] at h; exact h.mono fun e w' ⟨he, k, os, hw⟩ => ⟨he, by rw [hw]; exact Go.Lib.below_grow _ _ lr' k os⟩
       have HI3 : Hid (∀ W, Below w9.heap.size w9 W → Calls Tryz.prog 39 #[.int .i64 pc] W fun e w' => e = .returned (.string I3) ∧ Below W.heap.size W w') := hd' fun W hW => by
        have h := Sh.strconv_Itoa pc (by have := HOK.out.c.1; simp only at this; omega) (by have := HOK.out.c.2; simp only at this; omega) W (HW9.out.below hW).tab; rw [hI3] at h; exact h.mono fun e w' ⟨he, k, os, hw⟩ => ⟨he, by rw [hw]; exact Go.Lib.below_grow _ _ lr' k os⟩
       have HS9 : Hid ((S ++ (I1 ++ ⟨#[32]⟩ ++ I2 ++ ⟨#[32]⟩ ++ I3 ++ ⟨#[10]⟩)).data.toList = ((L.take (i + 1)).map (tlE d)).flatMap fmtE) := hd' (by
        rw [fmt_bytes S I1 I2 I3 ⟨at_, ts, pc⟩ (by rw [← hI1]) (by rw [← hI2]) (by rw [← hI3]), HTE.out, List.flatMap_append, HS.out]
        simp)
       have n1 : I1.size ≤ 10 := by rw [← bt_len, ← hI1]; exact itoa_le HOK.out.a
       have n2 : I2.size ≤ 10 := by rw [← bt_len, ← hI2]; exact itoa_le HOK.out.b
       have n3 : I3.size ≤ 10 := by rw [← bt_len, ← hI3]; exact itoa_le HOK.out.c
       have nS : S.size ≤ 3300 := by
        have h := (fmt_len ((L.take i).map (tlE d)) (fun e he => by obtain ⟨x, -, rfl⟩ := List.mem_map.1 he; exact tlE_ok HD.out x)).1; rw [← HS.out, bt_len, List.length_map, List.length_take] at h; omega
       have q1 : ¬ 9223372036854775807 < I1.size + 1 := by omega
       have q2 : ¬ 9223372036854775807 < I1.size + 1 + I2.size := by omega
       have q3 : ¬ 9223372036854775807 < I1.size + 1 + I2.size + 1 := by omega
       have q4 : ¬ 9223372036854775807 < I1.size + 1 + I2.size + 1 + I3.size := by omega
       have q5 : ¬ 9223372036854775807 < I1.size + 1 + I2.size + 1 + I3.size + 1 := by omega
       have q6 : ¬ 9223372036854775807 < S.size + (I1.size + 1 + I2.size + 1 + I3.size + 1) := by omega
       clear hI1 hI2 hI3 n1 n2 n3 nS; have hbD : Below w9.heap.size w9 w9.drew := (Below.refl w9.heap.size w9).drew; refine wp_region_W (fun w' => w'.cell? ⟨z, 3, none⟩ = some (.slice (some ⟨ab, ao, none⟩) na ac) ∧ w'.cell? ⟨BF, 0, none⟩ = some (.slice (some ⟨g, o, none⟩) NB xc) ∧ w'.cell? ⟨b, o2 + i * 4 + 3, none⟩ = some (.int .i64 xcv) ∧ w'.cell? ⟨g, o + tk * 14 + 1, none⟩ = some (.int .i64 ts) ∧ w'.cell? ⟨ab, ao + nk, none⟩ = some (.int .i64 at_)) 31 (by kernel_rfl) (by (try dsimp only); go_keep) (fun zH => ?_); refine wq 0 zH ?_; refine wq 1 zH ?_; refine wq 2 zH ?_; refine wq 3 zH ?_; refine wq 4 zH ?_; refine wq 5 zH ?_; refine wq 6 zH ?_; refine wq 7 zH ?_; refine wq 8 zH ?_; refine wq 11 zH ?_; refine wq 12 zH ?_; refine wq 13 zH ?_; refine wq 14 zH ?_; refine wq 15 zH ?_; refine wq 16 zH ?_; refine wq 20 zH ?_; refine wq 21 zH ?_; refine wq 22 zH ?_; refine wq 23 zH ?_; refine wq 24 zH ?_; refine wpW_one 9 rfl (by kernel_rfl) (fun K hK => ?_)
       go_simp
       refine (HI1.out w9.drew hbD).mono ?_; rintro e v1 ⟨rfl, hn0⟩; have hb0 : Below w9.heap.size w9 v1 := hbD.trans (hn0.mono hbD.size); have y0_0 : v1.cell? ⟨z, 3, none⟩ = some (.slice (some ⟨ab, ao, none⟩) na ac) := (hb0.cell (p := ⟨z, 3, none⟩) kl).trans k0'; have y0_1 : v1.cell? ⟨BF, 0, none⟩ = some (.slice (some ⟨g, o, none⟩) NB xc) := (hb0.cell (p := ⟨BF, 0, none⟩) m0).trans f0; have y0_2 : v1.cell? ⟨b, o2 + i * 4 + 3, none⟩ = some (.int .i64 xcv) := (hb0.cell (p := ⟨b, o2 + i * 4 + 3, none⟩) m1).trans f3
       have y0_3 : v1.cell? ⟨g, o + tk * 14 + 1, none⟩ = some (.int .i64 ts) := (hb0.cell (p := ⟨g, o + tk * 14 + 1, none⟩) m2).trans f4; have y0_4 : v1.cell? ⟨ab, ao + nk, none⟩ = some (.int .i64 at_) := (hb0.cell (p := ⟨ab, ao + nk, none⟩) m3).trans f5; refine hK.out _ _ (by (try dsimp only); exact ⟨y0_0, y0_1, y0_2, y0_3, y0_4⟩) (fun zH => ?_); clear hK K; (try simp only [putE]); refine wq 10 zH ?_; refine wpW_one 17 rfl (by kernel_rfl) (fun K hK => ?_)
       go_simp
       refine (HI2.out v1 hb0).mono ?_; rintro e v2 ⟨rfl, hn1⟩; have hb1 : Below w9.heap.size w9 v2 := hb0.trans (hn1.mono hb0.size); have y1_0 : v2.cell? ⟨z, 3, none⟩ = some (.slice (some ⟨ab, ao, none⟩) na ac) := (hb1.cell (p := ⟨z, 3, none⟩) kl).trans k0'; have y1_1 : v2.cell? ⟨BF, 0, none⟩ = some (.slice (some ⟨g, o, none⟩) NB xc) := (hb1.cell (p := ⟨BF, 0, none⟩) m0).trans f0; have y1_2 : v2.cell? ⟨b, o2 + i * 4 + 3, none⟩ = some (.int .i64 xcv) := (hb1.cell (p := ⟨b, o2 + i * 4 + 3, none⟩) m1).trans f3
       have y1_3 : v2.cell? ⟨g, o + tk * 14 + 1, none⟩ = some (.int .i64 ts) := (hb1.cell (p := ⟨g, o + tk * 14 + 1, none⟩) m2).trans f4; have y1_4 : v2.cell? ⟨ab, ao + nk, none⟩ = some (.int .i64 at_) := (hb1.cell (p := ⟨ab, ao + nk, none⟩) m3).trans f5; refine hK.out _ _ (by (try dsimp only); exact ⟨y1_0, y1_1, y1_2, y1_3, y1_4⟩) (fun zH => ?_); clear hK K; (try simp only [putE]); refine wq 18 zH ?_; refine wq 19 zH ?_; refine wpW_one 25 rfl (by kernel_rfl) (fun K hK => ?_)
       go_simp
       refine (HPc.out _).mono ?_; rintro e wqx ⟨rfl, rfl⟩; refine hK.out _ _ (by (try dsimp only); exact ⟨y1_0, y1_1, y1_2, y1_3, y1_4⟩) (fun zH => ?_); clear hK K; (try simp only [putE]); refine wpW_one 26 rfl (by kernel_rfl) (fun K hK => ?_)
       go_simp
       refine (HI3.out v2 hb1).mono ?_; rintro e v3 ⟨rfl, hn2⟩; have hb2 : Below w9.heap.size w9 v3 := hb1.trans (hn2.mono hb1.size); have y2_0 : v3.cell? ⟨z, 3, none⟩ = some (.slice (some ⟨ab, ao, none⟩) na ac) := (hb2.cell (p := ⟨z, 3, none⟩) kl).trans k0'; have y2_1 : v3.cell? ⟨BF, 0, none⟩ = some (.slice (some ⟨g, o, none⟩) NB xc) := (hb2.cell (p := ⟨BF, 0, none⟩) m0).trans f0; have y2_2 : v3.cell? ⟨b, o2 + i * 4 + 3, none⟩ = some (.int .i64 xcv) := (hb2.cell (p := ⟨b, o2 + i * 4 + 3, none⟩) m1).trans f3
       have y2_3 : v3.cell? ⟨g, o + tk * 14 + 1, none⟩ = some (.int .i64 ts) := (hb2.cell (p := ⟨g, o + tk * 14 + 1, none⟩) m2).trans f4; have y2_4 : v3.cell? ⟨ab, ao + nk, none⟩ = some (.int .i64 at_) := (hb2.cell (p := ⟨ab, ao + nk, none⟩) m3).trans f5; refine hK.out _ _ (by (try dsimp only); exact ⟨y2_0, y2_1, y2_2, y2_3, y2_4⟩) (fun zH => ?_); clear hK K; (try simp only [putE]); refine wq 27 zH ?_; refine wq 28 zH ?_; refine wq 29 zH ?_; refine wq 30 zH ?_
       refine wpW_done (by kernel_rfl) ?_ _; obtain ⟨S2, hS2⟩ := ex' (S ++ (I1 ++ ⟨#[32]⟩ ++ I2 ++ ⟨#[32]⟩ ++ I3 ++ ⟨#[10]⟩))
       rw [hS2] at HS9 ⊢; have HBY2 := hd' (HB9F.out.trans (hb2.mono HB9F.out.size)); clear hS2 k0' f0 f3 f4 f5
       go_wp2_with fail
       go_roundg (N - (i + 1))
       case measure => omega
       case rel => exact ⟨i + 1, S2, by omega, (by go_num), rfl, HS9, HBY2, Nat.le_refl _⟩
     · subst h hp; obtain rfl : bel = (tk : Int) := by have h := HTO.out; unfold to2 to1 at h; rw [if_neg (by decide), if_pos ⟨rfl, rfl⟩] at h; exact h.symm
       go_wp2_with fail
       refine (HPb2.out _).mono ?_; rintro e wqx ⟨rfl, rfl⟩
       go_upto_region 11 with fail
       have HBX := hd' (Below.refl wx.heap.size wx); have k0' := (HZ.out.keep HBX.out).cell 3 rfl; have kl := (HZ.out.keep HBX.out).lt; have f0 := (HBX.out.cell (p := ⟨BF, 0, none⟩) l0).trans e0; have f3 := (HBX.out.cell (p := ⟨b, o2 + i * 4 + 3, none⟩) l1).trans e3; have f4 := (HBX.out.cell (p := ⟨g, o + tk * 14 + 1, none⟩) l2).trans e4; have f5 := (HBX.out.cell (p := ⟨ab, ao + nk, none⟩) l3).trans e5; have m0 := Nat.lt_of_lt_of_le l0 HBX.out.size; have m1 := Nat.lt_of_lt_of_le l1 HBX.out.size; have m2 := Nat.lt_of_lt_of_le l2 HBX.out.size; have m3 := Nat.lt_of_lt_of_le l3 HBX.out.size
       have HB9F : Hid (Below F.heap.size F wx) := hd' ((HB.out.trans (HBZ.out.mono HB.out.size)).trans (HBX.out.mono (HB.out.trans (HBZ.out.mono HB.out.size)).size)); have HW9 := hd' (HW.out.below (HWB.out _ HB9F.out)); clear z3 z10 z11 z12 zl e0 e2 e3 e4 e5 l0 l1 l2 l3 HTO; obtain ⟨I1, hI1⟩ := ex' (⟨(Lib.itoa at_).toArray⟩ : ByteArray)
       obtain ⟨I2, hI2⟩ := ex' (⟨(Lib.itoa ts).toArray⟩ : ByteArray)
       obtain ⟨I3, hI3⟩ := ex' (⟨(Lib.itoa pc).toArray⟩ : ByteArray)
       have HI1 : Hid (∀ W, Below wx.heap.size wx W → Calls Tryz.prog 39 #[.int .i64 at_] W fun e w' => e = .returned (.string I1) ∧ Below W.heap.size W w') := hd' fun W hW => by
        have h := Sh.strconv_Itoa at_ (by have := HOK.out.a.1; simp only at this; omega) (by have := HOK.out.a.2; simp only at this; omega) W (HW9.out.below hW).tab; rw [hI1] at h; exact h.mono fun e w' ⟨he, k, os, hw⟩ => ⟨he, by rw [hw]; exact Go.Lib.below_grow _ _ lr' k os⟩
       have HI2 : Hid (∀ W, Below wx.heap.size wx W → Calls Tryz.prog 39 #[.int .i64 ts] W fun e w' => e = .returned (.string I2) ∧ Below W.heap.size W w') := hd' fun W hW => by
        have h := Sh.strconv_Itoa ts (by have := HOK.out.b.1; simp only at this; omega) (by have := HOK.out.b.2; simp only at this; omega) W (HW9.out.below hW).tab; rw [hI2] at h; exact h.mono fun e w' ⟨he, k, os, hw⟩ => ⟨he, by rw [hw]; exact Go.Lib.below_grow _ _ lr' k os⟩
       have HI3 : Hid (∀ W, Below wx.heap.size wx W → Calls Tryz.prog 39 #[.int .i64 pc] W fun e w' => e = .returned (.string I3) ∧ Below W.heap.size W w') := hd' fun W hW => by
        have h := Sh.strconv_Itoa pc (by have := HOK.out.c.1; simp only at this; omega) (by have := HOK.out.c.2; simp only at this; omega) W (HW9.out.below hW).tab; rw [hI3] at h; exact h.mono fun e w' ⟨he, k, os, hw⟩ => ⟨he, by rw [hw]; exact Go.Lib.below_grow _ _ lr' k os⟩
       have HS9 : Hid ((S ++ (I1 ++ ⟨#[32]⟩ ++ I2 ++ ⟨#[32]⟩ ++ I3 ++ ⟨#[10]⟩)).data.toList = ((L.take (i + 1)).map (tlE d)).flatMap fmtE) := hd' (by
        rw [fmt_bytes S I1 I2 I3 ⟨at_, ts, pc⟩ (by rw [← hI1]) (by rw [← hI2]) (by rw [← hI3]), HTE.out, List.flatMap_append, HS.out]
        simp)
       have n1 : I1.size ≤ 10 := by rw [← bt_len, ← hI1]; exact itoa_le HOK.out.a
       have n2 : I2.size ≤ 10 := by rw [← bt_len, ← hI2]; exact itoa_le HOK.out.b
       have n3 : I3.size ≤ 10 := by rw [← bt_len, ← hI3]; exact itoa_le HOK.out.c
       have nS : S.size ≤ 3300 := by
        have h := (fmt_len ((L.take i).map (tlE d)) (fun e he => by obtain ⟨x, -, rfl⟩ := List.mem_map.1 he; exact tlE_ok HD.out x)).1; rw [← HS.out, bt_len, List.length_map, List.length_take] at h; omega
       have q1 : ¬ 9223372036854775807 < I1.size + 1 := by omega
       have q2 : ¬ 9223372036854775807 < I1.size + 1 + I2.size := by omega
       have q3 : ¬ 9223372036854775807 < I1.size + 1 + I2.size + 1 := by omega
       have q4 : ¬ 9223372036854775807 < I1.size + 1 + I2.size + 1 + I3.size := by omega
       have q5 : ¬ 9223372036854775807 < I1.size + 1 + I2.size + 1 + I3.size + 1 := by omega
       have q6 : ¬ 9223372036854775807 < S.size + (I1.size + 1 + I2.size + 1 + I3.size + 1) := by omega
       clear hI1 hI2 hI3 n1 n2 n3 nS; have hbD : Below wx.heap.size wx wx.drew := (Below.refl wx.heap.size wx).drew; refine wp_region_W (fun w' => w'.cell? ⟨z, 3, none⟩ = some (.slice (some ⟨ab, ao, none⟩) na ac) ∧ w'.cell? ⟨BF, 0, none⟩ = some (.slice (some ⟨g, o, none⟩) NB xc) ∧ w'.cell? ⟨b, o2 + i * 4 + 3, none⟩ = some (.int .i64 xcv) ∧ w'.cell? ⟨g, o + tk * 14 + 1, none⟩ = some (.int .i64 ts) ∧ w'.cell? ⟨ab, ao + nk, none⟩ = some (.int .i64 at_)) 31 (by kernel_rfl) (by (try dsimp only); go_keep) (fun zH => ?_); refine wq 0 zH ?_; refine wq 1 zH ?_; refine wq 2 zH ?_; refine wq 3 zH ?_; refine wq 4 zH ?_; refine wq 5 zH ?_; refine wq 6 zH ?_; refine wq 7 zH ?_; refine wq 8 zH ?_; refine wq 11 zH ?_; refine wq 12 zH ?_; refine wq 13 zH ?_; refine wq 14 zH ?_; refine wq 15 zH ?_; refine wq 16 zH ?_; refine wq 20 zH ?_; refine wq 21 zH ?_; refine wq 22 zH ?_; refine wq 23 zH ?_; refine wq 24 zH ?_; refine wpW_one 9 rfl (by kernel_rfl) (fun K hK => ?_)
       go_simp
       refine (HI1.out wx.drew hbD).mono ?_; rintro e v1 ⟨rfl, hn0⟩; have hb0 : Below wx.heap.size wx v1 := hbD.trans (hn0.mono hbD.size); have y0_0 : v1.cell? ⟨z, 3, none⟩ = some (.slice (some ⟨ab, ao, none⟩) na ac) := (hb0.cell (p := ⟨z, 3, none⟩) kl).trans k0'; have y0_1 : v1.cell? ⟨BF, 0, none⟩ = some (.slice (some ⟨g, o, none⟩) NB xc) := (hb0.cell (p := ⟨BF, 0, none⟩) m0).trans f0; have y0_2 : v1.cell? ⟨b, o2 + i * 4 + 3, none⟩ = some (.int .i64 xcv) := (hb0.cell (p := ⟨b, o2 + i * 4 + 3, none⟩) m1).trans f3
       have y0_3 : v1.cell? ⟨g, o + tk * 14 + 1, none⟩ = some (.int .i64 ts) := (hb0.cell (p := ⟨g, o + tk * 14 + 1, none⟩) m2).trans f4; have y0_4 : v1.cell? ⟨ab, ao + nk, none⟩ = some (.int .i64 at_) := (hb0.cell (p := ⟨ab, ao + nk, none⟩) m3).trans f5; refine hK.out _ _ (by (try dsimp only); exact ⟨y0_0, y0_1, y0_2, y0_3, y0_4⟩) (fun zH => ?_); clear hK K; (try simp only [putE]); refine wq 10 zH ?_; refine wpW_one 17 rfl (by kernel_rfl) (fun K hK => ?_)
       go_simp
       refine (HI2.out v1 hb0).mono ?_; rintro e v2 ⟨rfl, hn1⟩; have hb1 : Below wx.heap.size wx v2 := hb0.trans (hn1.mono hb0.size); have y1_0 : v2.cell? ⟨z, 3, none⟩ = some (.slice (some ⟨ab, ao, none⟩) na ac) := (hb1.cell (p := ⟨z, 3, none⟩) kl).trans k0'; have y1_1 : v2.cell? ⟨BF, 0, none⟩ = some (.slice (some ⟨g, o, none⟩) NB xc) := (hb1.cell (p := ⟨BF, 0, none⟩) m0).trans f0; have y1_2 : v2.cell? ⟨b, o2 + i * 4 + 3, none⟩ = some (.int .i64 xcv) := (hb1.cell (p := ⟨b, o2 + i * 4 + 3, none⟩) m1).trans f3
       have y1_3 : v2.cell? ⟨g, o + tk * 14 + 1, none⟩ = some (.int .i64 ts) := (hb1.cell (p := ⟨g, o + tk * 14 + 1, none⟩) m2).trans f4; have y1_4 : v2.cell? ⟨ab, ao + nk, none⟩ = some (.int .i64 at_) := (hb1.cell (p := ⟨ab, ao + nk, none⟩) m3).trans f5; refine hK.out _ _ (by (try dsimp only); exact ⟨y1_0, y1_1, y1_2, y1_3, y1_4⟩) (fun zH => ?_); clear hK K; (try simp only [putE]); refine wq 18 zH ?_; refine wq 19 zH ?_; refine wpW_one 25 rfl (by kernel_rfl) (fun K hK => ?_)
       go_simp
       refine (HPc.out _).mono ?_; rintro e wqx ⟨rfl, rfl⟩; refine hK.out _ _ (by (try dsimp only); exact ⟨y1_0, y1_1, y1_2, y1_3, y1_4⟩) (fun zH => ?_); clear hK K; (try simp only [putE]); refine wpW_one 26 rfl (by kernel_rfl) (fun K hK => ?_)
       go_simp
       refine (HI3.out v2 hb1).mono ?_; rintro e v3 ⟨rfl, hn2⟩; have hb2 : Below wx.heap.size wx v3 := hb1.trans (hn2.mono hb1.size); have y2_0 : v3.cell? ⟨z, 3, none⟩ = some (.slice (some ⟨ab, ao, none⟩) na ac) := (hb2.cell (p := ⟨z, 3, none⟩) kl).trans k0'; have y2_1 : v3.cell? ⟨BF, 0, none⟩ = some (.slice (some ⟨g, o, none⟩) NB xc) := (hb2.cell (p := ⟨BF, 0, none⟩) m0).trans f0; have y2_2 : v3.cell? ⟨b, o2 + i * 4 + 3, none⟩ = some (.int .i64 xcv) := (hb2.cell (p := ⟨b, o2 + i * 4 + 3, none⟩) m1).trans f3
       have y2_3 : v3.cell? ⟨g, o + tk * 14 + 1, none⟩ = some (.int .i64 ts) := (hb2.cell (p := ⟨g, o + tk * 14 + 1, none⟩) m2).trans f4; have y2_4 : v3.cell? ⟨ab, ao + nk, none⟩ = some (.int .i64 at_) := (hb2.cell (p := ⟨ab, ao + nk, none⟩) m3).trans f5; refine hK.out _ _ (by (try dsimp only); exact ⟨y2_0, y2_1, y2_2, y2_3, y2_4⟩) (fun zH => ?_); clear hK K; (try simp only [putE]); refine wq 27 zH ?_; refine wq 28 zH ?_; refine wq 29 zH ?_; refine wq 30 zH ?_
       refine wpW_done (by kernel_rfl) ?_ _; obtain ⟨S2, hS2⟩ := ex' (S ++ (I1 ++ ⟨#[32]⟩ ++ I2 ++ ⟨#[32]⟩ ++ I3 ++ ⟨#[10]⟩))
       rw [hS2] at HS9 ⊢; have HBY2 := hd' (HB9F.out.trans (hb2.mono HB9F.out.size)); clear hS2 k0' f0 f3 f4 f5
       go_wp2_with fail
       go_roundg (N - (i + 1))
       case measure => omega
       case rel => exact ⟨i + 1, S2, by omega, (by go_num), rfl, HS9, HBY2, Nat.le_refl _⟩
     · subst h; obtain rfl : bds = (tk : Int) := by have h := HTO.out; unfold to2 to1 at h; rw [if_neg (by decide), if_neg (fun h => hp h.2)] at h; exact h.symm
       have qp : (p2 == 0) = false := by simpa using hp
       go_wp2_with fail
       refine (HPb2.out _).mono ?_; rintro e wqx ⟨rfl, rfl⟩
       go_upto_region 11 with fail
       clear qp; have HBX := hd' (Below.refl wx.heap.size wx); have k0' := (HZ.out.keep HBX.out).cell 3 rfl; have kl := (HZ.out.keep HBX.out).lt; have f0 := (HBX.out.cell (p := ⟨BF, 0, none⟩) l0).trans e0; have f3 := (HBX.out.cell (p := ⟨b, o2 + i * 4 + 3, none⟩) l1).trans e3; have f4 := (HBX.out.cell (p := ⟨g, o + tk * 14 + 1, none⟩) l2).trans e4; have f5 := (HBX.out.cell (p := ⟨ab, ao + nk, none⟩) l3).trans e5; have m0 := Nat.lt_of_lt_of_le l0 HBX.out.size; have m1 := Nat.lt_of_lt_of_le l1 HBX.out.size; have m2 := Nat.lt_of_lt_of_le l2 HBX.out.size
       have m3 := Nat.lt_of_lt_of_le l3 HBX.out.size; have HB9F : Hid (Below F.heap.size F wx) := hd' ((HB.out.trans (HBZ.out.mono HB.out.size)).trans (HBX.out.mono (HB.out.trans (HBZ.out.mono HB.out.size)).size)); have HW9 := hd' (HW.out.below (HWB.out _ HB9F.out)); clear z3 z10 z11 z12 zl e0 e2 e3 e4 e5 l0 l1 l2 l3 HTO; obtain ⟨I1, hI1⟩ := ex' (⟨(Lib.itoa at_).toArray⟩ : ByteArray)
       obtain ⟨I2, hI2⟩ := ex' (⟨(Lib.itoa ts).toArray⟩ : ByteArray)
       obtain ⟨I3, hI3⟩ := ex' (⟨(Lib.itoa pc).toArray⟩ : ByteArray)
       have HI1 : Hid (∀ W, Below wx.heap.size wx W → Calls Tryz.prog 39 #[.int .i64 at_] W fun e w' => e = .returned (.string I1) ∧ Below W.heap.size W w') := hd' fun W hW => by
        have h := Sh.strconv_Itoa at_ (by have := HOK.out.a.1; simp only at this; omega) (by have := HOK.out.a.2; simp only at this; omega) W (HW9.out.below hW).tab; rw [hI1] at h; exact h.mono fun e w' ⟨he, k, os, hw⟩ => ⟨he, by rw [hw]; exact Go.Lib.below_grow _ _ lr' k os⟩
       have HI2 : Hid (∀ W, Below wx.heap.size wx W → Calls Tryz.prog 39 #[.int .i64 ts] W fun e w' => e = .returned (.string I2) ∧ Below W.heap.size W w') := hd' fun W hW => by
        have h := Sh.strconv_Itoa ts (by have := HOK.out.b.1; simp only at this; omega) (by have := HOK.out.b.2; simp only at this; omega) W (HW9.out.below hW).tab; rw [hI2] at h; exact h.mono fun e w' ⟨he, k, os, hw⟩ => ⟨he, by rw [hw]; exact Go.Lib.below_grow _ _ lr' k os⟩
       have HI3 : Hid (∀ W, Below wx.heap.size wx W → Calls Tryz.prog 39 #[.int .i64 pc] W fun e w' => e = .returned (.string I3) ∧ Below W.heap.size W w') := hd' fun W hW => by
        have h := Sh.strconv_Itoa pc (by have := HOK.out.c.1; simp only at this; omega) (by have := HOK.out.c.2; simp only at this; omega) W (HW9.out.below hW).tab; rw [hI3] at h; exact h.mono fun e w' ⟨he, k, os, hw⟩ => ⟨he, by rw [hw]; exact Go.Lib.below_grow _ _ lr' k os⟩
       have HS9 : Hid ((S ++ (I1 ++ ⟨#[32]⟩ ++ I2 ++ ⟨#[32]⟩ ++ I3 ++ ⟨#[10]⟩)).data.toList = ((L.take (i + 1)).map (tlE d)).flatMap fmtE) := hd' (by
        rw [fmt_bytes S I1 I2 I3 ⟨at_, ts, pc⟩ (by rw [← hI1]) (by rw [← hI2]) (by rw [← hI3]), HTE.out, List.flatMap_append, HS.out]
        simp)
       have n1 : I1.size ≤ 10 := by rw [← bt_len, ← hI1]; exact itoa_le HOK.out.a
       have n2 : I2.size ≤ 10 := by rw [← bt_len, ← hI2]; exact itoa_le HOK.out.b
       have n3 : I3.size ≤ 10 := by rw [← bt_len, ← hI3]; exact itoa_le HOK.out.c
       have nS : S.size ≤ 3300 := by
        have h := (fmt_len ((L.take i).map (tlE d)) (fun e he => by obtain ⟨x, -, rfl⟩ := List.mem_map.1 he; exact tlE_ok HD.out x)).1; rw [← HS.out, bt_len, List.length_map, List.length_take] at h; omega
       have q1 : ¬ 9223372036854775807 < I1.size + 1 := by omega
       have q2 : ¬ 9223372036854775807 < I1.size + 1 + I2.size := by omega
       have q3 : ¬ 9223372036854775807 < I1.size + 1 + I2.size + 1 := by omega
       have q4 : ¬ 9223372036854775807 < I1.size + 1 + I2.size + 1 + I3.size := by omega
       have q5 : ¬ 9223372036854775807 < I1.size + 1 + I2.size + 1 + I3.size + 1 := by omega
       have q6 : ¬ 9223372036854775807 < S.size + (I1.size + 1 + I2.size + 1 + I3.size + 1) := by omega
       clear hI1 hI2 hI3 n1 n2 n3 nS; have hbD : Below wx.heap.size wx wx.drew := (Below.refl wx.heap.size wx).drew; refine wp_region_W (fun w' => w'.cell? ⟨z, 3, none⟩ = some (.slice (some ⟨ab, ao, none⟩) na ac) ∧ w'.cell? ⟨BF, 0, none⟩ = some (.slice (some ⟨g, o, none⟩) NB xc) ∧ w'.cell? ⟨b, o2 + i * 4 + 3, none⟩ = some (.int .i64 xcv) ∧ w'.cell? ⟨g, o + tk * 14 + 1, none⟩ = some (.int .i64 ts) ∧ w'.cell? ⟨ab, ao + nk, none⟩ = some (.int .i64 at_)) 31 (by kernel_rfl) (by (try dsimp only); go_keep) (fun zH => ?_); refine wq 0 zH ?_; refine wq 1 zH ?_; refine wq 2 zH ?_; refine wq 3 zH ?_; refine wq 4 zH ?_; refine wq 5 zH ?_; refine wq 6 zH ?_; refine wq 7 zH ?_; refine wq 8 zH ?_; refine wq 11 zH ?_; refine wq 12 zH ?_; refine wq 13 zH ?_; refine wq 14 zH ?_; refine wq 15 zH ?_; refine wq 16 zH ?_; refine wq 20 zH ?_; refine wq 21 zH ?_; refine wq 22 zH ?_; refine wq 23 zH ?_; refine wq 24 zH ?_; refine wpW_one 9 rfl (by kernel_rfl) (fun K hK => ?_)
       go_simp
       refine (HI1.out wx.drew hbD).mono ?_; rintro e v1 ⟨rfl, hn0⟩; have hb0 : Below wx.heap.size wx v1 := hbD.trans (hn0.mono hbD.size); have y0_0 : v1.cell? ⟨z, 3, none⟩ = some (.slice (some ⟨ab, ao, none⟩) na ac) := (hb0.cell (p := ⟨z, 3, none⟩) kl).trans k0'; have y0_1 : v1.cell? ⟨BF, 0, none⟩ = some (.slice (some ⟨g, o, none⟩) NB xc) := (hb0.cell (p := ⟨BF, 0, none⟩) m0).trans f0; have y0_2 : v1.cell? ⟨b, o2 + i * 4 + 3, none⟩ = some (.int .i64 xcv) := (hb0.cell (p := ⟨b, o2 + i * 4 + 3, none⟩) m1).trans f3
       have y0_3 : v1.cell? ⟨g, o + tk * 14 + 1, none⟩ = some (.int .i64 ts) := (hb0.cell (p := ⟨g, o + tk * 14 + 1, none⟩) m2).trans f4; have y0_4 : v1.cell? ⟨ab, ao + nk, none⟩ = some (.int .i64 at_) := (hb0.cell (p := ⟨ab, ao + nk, none⟩) m3).trans f5; refine hK.out _ _ (by (try dsimp only); exact ⟨y0_0, y0_1, y0_2, y0_3, y0_4⟩) (fun zH => ?_); clear hK K; (try simp only [putE]); refine wq 10 zH ?_; refine wpW_one 17 rfl (by kernel_rfl) (fun K hK => ?_)
       go_simp
       refine (HI2.out v1 hb0).mono ?_; rintro e v2 ⟨rfl, hn1⟩; have hb1 : Below wx.heap.size wx v2 := hb0.trans (hn1.mono hb0.size); have y1_0 : v2.cell? ⟨z, 3, none⟩ = some (.slice (some ⟨ab, ao, none⟩) na ac) := (hb1.cell (p := ⟨z, 3, none⟩) kl).trans k0'; have y1_1 : v2.cell? ⟨BF, 0, none⟩ = some (.slice (some ⟨g, o, none⟩) NB xc) := (hb1.cell (p := ⟨BF, 0, none⟩) m0).trans f0; have y1_2 : v2.cell? ⟨b, o2 + i * 4 + 3, none⟩ = some (.int .i64 xcv) := (hb1.cell (p := ⟨b, o2 + i * 4 + 3, none⟩) m1).trans f3
       have y1_3 : v2.cell? ⟨g, o + tk * 14 + 1, none⟩ = some (.int .i64 ts) := (hb1.cell (p := ⟨g, o + tk * 14 + 1, none⟩) m2).trans f4; have y1_4 : v2.cell? ⟨ab, ao + nk, none⟩ = some (.int .i64 at_) := (hb1.cell (p := ⟨ab, ao + nk, none⟩) m3).trans f5; refine hK.out _ _ (by (try dsimp only); exact ⟨y1_0, y1_1, y1_2, y1_3, y1_4⟩) (fun zH => ?_); clear hK K; (try simp only [putE]); refine wq 18 zH ?_; refine wq 19 zH ?_; refine wpW_one 25 rfl (by kernel_rfl) (fun K hK => ?_)
       go_simp
       refine (HPc.out _).mono ?_; rintro e wqx ⟨rfl, rfl⟩; refine hK.out _ _ (by (try dsimp only); exact ⟨y1_0, y1_1, y1_2, y1_3, y1_4⟩) (fun zH => ?_); clear hK K; (try simp only [putE]); refine wpW_one 26 rfl (by kernel_rfl) (fun K hK => ?_)
       go_simp
       refine (HI3.out v2 hb1).mono ?_; rintro e v3 ⟨rfl, hn2⟩; have hb2 : Below wx.heap.size wx v3 := hb1.trans (hn2.mono hb1.size); have y2_0 : v3.cell? ⟨z, 3, none⟩ = some (.slice (some ⟨ab, ao, none⟩) na ac) := (hb2.cell (p := ⟨z, 3, none⟩) kl).trans k0'; have y2_1 : v3.cell? ⟨BF, 0, none⟩ = some (.slice (some ⟨g, o, none⟩) NB xc) := (hb2.cell (p := ⟨BF, 0, none⟩) m0).trans f0; have y2_2 : v3.cell? ⟨b, o2 + i * 4 + 3, none⟩ = some (.int .i64 xcv) := (hb2.cell (p := ⟨b, o2 + i * 4 + 3, none⟩) m1).trans f3
       have y2_3 : v3.cell? ⟨g, o + tk * 14 + 1, none⟩ = some (.int .i64 ts) := (hb2.cell (p := ⟨g, o + tk * 14 + 1, none⟩) m2).trans f4; have y2_4 : v3.cell? ⟨ab, ao + nk, none⟩ = some (.int .i64 at_) := (hb2.cell (p := ⟨ab, ao + nk, none⟩) m3).trans f5; refine hK.out _ _ (by (try dsimp only); exact ⟨y2_0, y2_1, y2_2, y2_3, y2_4⟩) (fun zH => ?_); clear hK K; (try simp only [putE]); refine wq 27 zH ?_; refine wq 28 zH ?_; refine wq 29 zH ?_; refine wq 30 zH ?_
       refine wpW_done (by kernel_rfl) ?_ _; obtain ⟨S2, hS2⟩ := ex' (S ++ (I1 ++ ⟨#[32]⟩ ++ I2 ++ ⟨#[32]⟩ ++ I3 ++ ⟨#[10]⟩))
       rw [hS2] at HS9 ⊢; have HBY2 := hd' (HB9F.out.trans (hb2.mono HB9F.out.size)); clear hS2 k0' f0 f3 f4 f5
       go_wp2_with fail
       go_roundg (N - (i + 1))
       case measure => omega
       case rel => exact ⟨i + 1, S2, by omega, (by go_num), rfl, HS9, HBY2, Nat.le_refl _⟩
     · obtain rfl : bds = (tk : Int) := by have h2 := HTO.out; unfold to2 to1 at h2; rw [if_neg h, if_neg (fun h3 => hp h3.1)] at h2; exact h2.symm
       have qa : (ben == 1) = false := by simpa using h
       have qb : (ben == 4) = false := by simpa using hp
       go_upto_region 11 with fail
       clear qa qb; have HBX := hd' (Below.refl wx.heap.size wx); have k0' := (HZ.out.keep HBX.out).cell 3 rfl; have kl := (HZ.out.keep HBX.out).lt; have f0 := (HBX.out.cell (p := ⟨BF, 0, none⟩) l0).trans e0; have f3 := (HBX.out.cell (p := ⟨b, o2 + i * 4 + 3, none⟩) l1).trans e3; have f4 := (HBX.out.cell (p := ⟨g, o + tk * 14 + 1, none⟩) l2).trans e4; have f5 := (HBX.out.cell (p := ⟨ab, ao + nk, none⟩) l3).trans e5; have m0 := Nat.lt_of_lt_of_le l0 HBX.out.size; have m1 := Nat.lt_of_lt_of_le l1 HBX.out.size; have m2 := Nat.lt_of_lt_of_le l2 HBX.out.size
       have m3 := Nat.lt_of_lt_of_le l3 HBX.out.size; have HB9F : Hid (Below F.heap.size F wx) := hd' ((HB.out.trans (HBZ.out.mono HB.out.size)).trans (HBX.out.mono (HB.out.trans (HBZ.out.mono HB.out.size)).size)); have HW9 := hd' (HW.out.below (HWB.out _ HB9F.out)); clear z3 z10 z11 z12 zl e0 e2 e3 e4 e5 l0 l1 l2 l3 HTO; obtain ⟨I1, hI1⟩ := ex' (⟨(Lib.itoa at_).toArray⟩ : ByteArray)
       obtain ⟨I2, hI2⟩ := ex' (⟨(Lib.itoa ts).toArray⟩ : ByteArray)
       obtain ⟨I3, hI3⟩ := ex' (⟨(Lib.itoa pc).toArray⟩ : ByteArray)
       have HI1 : Hid (∀ W, Below wx.heap.size wx W → Calls Tryz.prog 39 #[.int .i64 at_] W fun e w' => e = .returned (.string I1) ∧ Below W.heap.size W w') := hd' fun W hW => by
        have h := Sh.strconv_Itoa at_ (by have := HOK.out.a.1; simp only at this; omega) (by have := HOK.out.a.2; simp only at this; omega) W (HW9.out.below hW).tab; rw [hI1] at h; exact h.mono fun e w' ⟨he, k, os, hw⟩ => ⟨he, by rw [hw]; exact Go.Lib.below_grow _ _ lr' k os⟩
       have HI2 : Hid (∀ W, Below wx.heap.size wx W → Calls Tryz.prog 39 #[.int .i64 ts] W fun e w' => e = .returned (.string I2) ∧ Below W.heap.size W w') := hd' fun W hW => by
        have h := Sh.strconv_Itoa ts (by have := HOK.out.b.1; simp only at this; omega) (by have := HOK.out.b.2; simp only at this; omega) W (HW9.out.below hW).tab; rw [hI2] at h; exact h.mono fun e w' ⟨he, k, os, hw⟩ => ⟨he, by rw [hw]; exact Go.Lib.below_grow _ _ lr' k os⟩
       have HI3 : Hid (∀ W, Below wx.heap.size wx W → Calls Tryz.prog 39 #[.int .i64 pc] W fun e w' => e = .returned (.string I3) ∧ Below W.heap.size W w') := hd' fun W hW => by
        have h := Sh.strconv_Itoa pc (by have := HOK.out.c.1; simp only at this; omega) (by have := HOK.out.c.2; simp only at this; omega) W (HW9.out.below hW).tab; rw [hI3] at h; exact h.mono fun e w' ⟨he, k, os, hw⟩ => ⟨he, by rw [hw]; exact Go.Lib.below_grow _ _ lr' k os⟩
       have HS9 : Hid ((S ++ (I1 ++ ⟨#[32]⟩ ++ I2 ++ ⟨#[32]⟩ ++ I3 ++ ⟨#[10]⟩)).data.toList = ((L.take (i + 1)).map (tlE d)).flatMap fmtE) := hd' (by
        rw [fmt_bytes S I1 I2 I3 ⟨at_, ts, pc⟩ (by rw [← hI1]) (by rw [← hI2]) (by rw [← hI3]), HTE.out, List.flatMap_append, HS.out]
        simp)
       have n1 : I1.size ≤ 10 := by rw [← bt_len, ← hI1]; exact itoa_le HOK.out.a
       have n2 : I2.size ≤ 10 := by rw [← bt_len, ← hI2]; exact itoa_le HOK.out.b
       have n3 : I3.size ≤ 10 := by rw [← bt_len, ← hI3]; exact itoa_le HOK.out.c
       have nS : S.size ≤ 3300 := by
        have h := (fmt_len ((L.take i).map (tlE d)) (fun e he => by obtain ⟨x, -, rfl⟩ := List.mem_map.1 he; exact tlE_ok HD.out x)).1; rw [← HS.out, bt_len, List.length_map, List.length_take] at h; omega
       have q1 : ¬ 9223372036854775807 < I1.size + 1 := by omega
       have q2 : ¬ 9223372036854775807 < I1.size + 1 + I2.size := by omega
       have q3 : ¬ 9223372036854775807 < I1.size + 1 + I2.size + 1 := by omega
       have q4 : ¬ 9223372036854775807 < I1.size + 1 + I2.size + 1 + I3.size := by omega
       have q5 : ¬ 9223372036854775807 < I1.size + 1 + I2.size + 1 + I3.size + 1 := by omega
       have q6 : ¬ 9223372036854775807 < S.size + (I1.size + 1 + I2.size + 1 + I3.size + 1) := by omega
       clear hI1 hI2 hI3 n1 n2 n3 nS; have hbD : Below wx.heap.size wx wx.drew := (Below.refl wx.heap.size wx).drew; refine wp_region_W (fun w' => w'.cell? ⟨z, 3, none⟩ = some (.slice (some ⟨ab, ao, none⟩) na ac) ∧ w'.cell? ⟨BF, 0, none⟩ = some (.slice (some ⟨g, o, none⟩) NB xc) ∧ w'.cell? ⟨b, o2 + i * 4 + 3, none⟩ = some (.int .i64 xcv) ∧ w'.cell? ⟨g, o + tk * 14 + 1, none⟩ = some (.int .i64 ts) ∧ w'.cell? ⟨ab, ao + nk, none⟩ = some (.int .i64 at_)) 31 (by kernel_rfl) (by (try dsimp only); go_keep) (fun zH => ?_); refine wq 0 zH ?_; refine wq 1 zH ?_; refine wq 2 zH ?_; refine wq 3 zH ?_; refine wq 4 zH ?_; refine wq 5 zH ?_; refine wq 6 zH ?_; refine wq 7 zH ?_; refine wq 8 zH ?_; refine wq 11 zH ?_; refine wq 12 zH ?_; refine wq 13 zH ?_; refine wq 14 zH ?_; refine wq 15 zH ?_; refine wq 16 zH ?_; refine wq 20 zH ?_; refine wq 21 zH ?_; refine wq 22 zH ?_; refine wq 23 zH ?_; refine wq 24 zH ?_; refine wpW_one 9 rfl (by kernel_rfl) (fun K hK => ?_)
       go_simp
       refine (HI1.out wx.drew hbD).mono ?_; rintro e v1 ⟨rfl, hn0⟩; have hb0 : Below wx.heap.size wx v1 := hbD.trans (hn0.mono hbD.size); have y0_0 : v1.cell? ⟨z, 3, none⟩ = some (.slice (some ⟨ab, ao, none⟩) na ac) := (hb0.cell (p := ⟨z, 3, none⟩) kl).trans k0'; have y0_1 : v1.cell? ⟨BF, 0, none⟩ = some (.slice (some ⟨g, o, none⟩) NB xc) := (hb0.cell (p := ⟨BF, 0, none⟩) m0).trans f0; have y0_2 : v1.cell? ⟨b, o2 + i * 4 + 3, none⟩ = some (.int .i64 xcv) := (hb0.cell (p := ⟨b, o2 + i * 4 + 3, none⟩) m1).trans f3
       have y0_3 : v1.cell? ⟨g, o + tk * 14 + 1, none⟩ = some (.int .i64 ts) := (hb0.cell (p := ⟨g, o + tk * 14 + 1, none⟩) m2).trans f4; have y0_4 : v1.cell? ⟨ab, ao + nk, none⟩ = some (.int .i64 at_) := (hb0.cell (p := ⟨ab, ao + nk, none⟩) m3).trans f5; refine hK.out _ _ (by (try dsimp only); exact ⟨y0_0, y0_1, y0_2, y0_3, y0_4⟩) (fun zH => ?_); clear hK K; (try simp only [putE]); refine wq 10 zH ?_; refine wpW_one 17 rfl (by kernel_rfl) (fun K hK => ?_)
       go_simp
       refine (HI2.out v1 hb0).mono ?_; rintro e v2 ⟨rfl, hn1⟩; have hb1 : Below wx.heap.size wx v2 := hb0.trans (hn1.mono hb0.size); have y1_0 : v2.cell? ⟨z, 3, none⟩ = some (.slice (some ⟨ab, ao, none⟩) na ac) := (hb1.cell (p := ⟨z, 3, none⟩) kl).trans k0'; have y1_1 : v2.cell? ⟨BF, 0, none⟩ = some (.slice (some ⟨g, o, none⟩) NB xc) := (hb1.cell (p := ⟨BF, 0, none⟩) m0).trans f0; have y1_2 : v2.cell? ⟨b, o2 + i * 4 + 3, none⟩ = some (.int .i64 xcv) := (hb1.cell (p := ⟨b, o2 + i * 4 + 3, none⟩) m1).trans f3
       have y1_3 : v2.cell? ⟨g, o + tk * 14 + 1, none⟩ = some (.int .i64 ts) := (hb1.cell (p := ⟨g, o + tk * 14 + 1, none⟩) m2).trans f4; have y1_4 : v2.cell? ⟨ab, ao + nk, none⟩ = some (.int .i64 at_) := (hb1.cell (p := ⟨ab, ao + nk, none⟩) m3).trans f5; refine hK.out _ _ (by (try dsimp only); exact ⟨y1_0, y1_1, y1_2, y1_3, y1_4⟩) (fun zH => ?_); clear hK K; (try simp only [putE]); refine wq 18 zH ?_; refine wq 19 zH ?_; refine wpW_one 25 rfl (by kernel_rfl) (fun K hK => ?_)
       go_simp
       refine (HPc.out _).mono ?_; rintro e wqx ⟨rfl, rfl⟩; refine hK.out _ _ (by (try dsimp only); exact ⟨y1_0, y1_1, y1_2, y1_3, y1_4⟩) (fun zH => ?_); clear hK K; (try simp only [putE]); refine wpW_one 26 rfl (by kernel_rfl) (fun K hK => ?_)
       go_simp
       refine (HI3.out v2 hb1).mono ?_; rintro e v3 ⟨rfl, hn2⟩; have hb2 : Below wx.heap.size wx v3 := hb1.trans (hn2.mono hb1.size); have y2_0 : v3.cell? ⟨z, 3, none⟩ = some (.slice (some ⟨ab, ao, none⟩) na ac) := (hb2.cell (p := ⟨z, 3, none⟩) kl).trans k0'; have y2_1 : v3.cell? ⟨BF, 0, none⟩ = some (.slice (some ⟨g, o, none⟩) NB xc) := (hb2.cell (p := ⟨BF, 0, none⟩) m0).trans f0; have y2_2 : v3.cell? ⟨b, o2 + i * 4 + 3, none⟩ = some (.int .i64 xcv) := (hb2.cell (p := ⟨b, o2 + i * 4 + 3, none⟩) m1).trans f3
       have y2_3 : v3.cell? ⟨g, o + tk * 14 + 1, none⟩ = some (.int .i64 ts) := (hb2.cell (p := ⟨g, o + tk * 14 + 1, none⟩) m2).trans f4; have y2_4 : v3.cell? ⟨ab, ao + nk, none⟩ = some (.int .i64 at_) := (hb2.cell (p := ⟨ab, ao + nk, none⟩) m3).trans f5; refine hK.out _ _ (by (try dsimp only); exact ⟨y2_0, y2_1, y2_2, y2_3, y2_4⟩) (fun zH => ?_); clear hK K; (try simp only [putE]); refine wq 27 zH ?_; refine wq 28 zH ?_; refine wq 29 zH ?_; refine wq 30 zH ?_
       refine wpW_done (by kernel_rfl) ?_ _; obtain ⟨S2, hS2⟩ := ex' (S ++ (I1 ++ ⟨#[32]⟩ ++ I2 ++ ⟨#[32]⟩ ++ I3 ++ ⟨#[10]⟩))
       rw [hS2] at HS9 ⊢; have HBY2 := hd' (HB9F.out.trans (hb2.mono HB9F.out.size)); clear hS2 k0' f0 f3 f4 f5
       go_wp2_with fail
       go_roundg (N - (i + 1))
       case measure => omega
       case rel => exact ⟨i + 1, S2, by omega, (by go_num), rfl, HS9, HBY2, Nat.le_refl _⟩
  · obtain rfl : N = i := by omega
    have hltI : ¬ (N : Int) < (N : Int) := by omega
    have hsf := HS.out; rw [List.take_of_length_le (by have := HN.out; omega)] at hsf; have HSF := hd' hsf; have HBE := hd' (HWB.out _ HB.out); clear hsf
    go_wp2_with fail
    go_ret
    exact ⟨HBE.out, S, rfl, HSF.out⟩
end Go.Proofs.YtcdlgjhdbmmomaaGreatDoor
