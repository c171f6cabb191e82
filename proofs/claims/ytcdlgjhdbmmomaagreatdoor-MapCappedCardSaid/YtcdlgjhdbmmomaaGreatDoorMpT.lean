/- TallyTells; what Map wants of a program's flow. -/
import Derived.Test.YtcdlgjhdbmmomaaGreatDoorMpC
import Derived.Deep.DeepCutAuto
import Derived.Deep.CutBlock
import Derived.Deep.LoopGhost
import Derived.Deep.QuietTactic
import Derived.BigQuiet
import Derived.IntWalk
import Derived.WalkLawsBesides
import Derived.Test.YtcdlgjhdbmmomaaGreatDoorTlV
import Derived.Test.YtcdlgjhdbmmomaaGreatDoorRegX
namespace Go.Proofs.YtcdlgjhdbmmomaaGreatDoor
open Go.RowKit Go.Deep
/-- what Map wants of a flow -/
structure MapOk (d : FlowD) : Prop where
  few : d.blocks.length ≤ 1600
  blk : ∀ (i : Nat) (b : BlkD), d.blocks[i]? = some b → BlkFit d b ∧ b.code.length ≤ 100000 ∧ b.ats.length ≤ 100000 ∧ (∀ k, N64 (b.ats.getD k 0)) ∧ N64 b.start
  tab : ∀ t ∈ d.tables, t.length ≤ 1000
def MapPost (w : World) (d : FlowD) (l : List EdgE) (e : Ending) (w' : World) : Prop :=
  Below w.heap.size w w' ∧ (l.any badC = true → e = .returned (.tuple #[.slice none 0 0, .int .i64 2])) ∧
  (l.any badC = false → (mapL d l).length ≤ l.length ∧ ∃ (B : Option Addr) (c' : Nat), e = .returned (.tuple #[.slice B (mapL d l).length c', .int .i64 0]) ∧ w'.ownsRow w.heap.size 43 3 (.slice B (mapL d l).length c') (mapL d l).length (edgV (mapL d l)))
theorem infoEdgM : (Tryz.prog.info? 43).map (fun i => (i.zero, i.size, i.bytes)) = some (some (.agg #[.int .i64 0, .int .i64 0, .int .i64 0]), 3, 24) := by kernel_rfl
theorem nexts_small {d : FlowD} (h : MapOk d) (b : BlkD) : (nextsL d b).length ≤ 1000 := by
  refine Nat.le_trans (nextsL_len d b) ?_
  unfold nextsRaw
  split
  · simp
  · split
    · simp
    · split
      · simp
      · split
        · rw [List.getD_eq_getElem?_getD]
          rename_i c _ _
          rcases hg : d.tables[c.n.toNat]? with _ | t
          · simp
          · exact h.tab t (List.mem_of_getElem? hg)
        · simp
theorem getDz {α : Type} {l : List α} {i : Nat} {x : α} (h : l[i]? = some x) (z : α) : l.getD i z = x := by rw [List.getD_eq_getElem?_getD, h]; rfl
/-- the ways that have been met, in whatever order -/
structure AccM (g : Int → Int → Int) (h0 left : Int → Int → Bool) (acc : List EdgD) : Prop where
  nodup : acc.Nodup
  mem : ∀ e : EdgD, e ∈ acc ↔ (N64 e.f ∧ N64 e.t ∧ h0 e.f e.t = true ∧ left e.f e.t = false ∧ 0 < g e.f e.t ∧ e.c = g e.f e.t)
theorem AccM.start (g : Int → Int → Int) (h0 : Int → Int → Bool) : AccM g h0 h0 [] := ⟨List.nodup_nil, fun e => ⟨fun h => (by cases h), fun ⟨_, _, h1, h2, _⟩ => by rw [h1] at h2; cases h2⟩⟩
theorem AccM.skip {g : Int → Int → Int} {h0 left : Int → Int → Bool} {acc : List EdgD} (h : AccM g h0 left acc) {x y : Int} (hg : ¬ 0 < g x y) : AccM g h0 (strikeP left x y) acc :=
  ⟨h.nodup, fun e => by
    unfold strikeP
    exact (h.mem e).trans ⟨fun ⟨a, b, c, d, p, q⟩ => ⟨a, b, c, by simp [d], p, q⟩, fun ⟨a, b, c, d, p, q⟩ => ⟨a, b, c, by
    by_cases e1 : e.f = x ∧ e.t = y
    · rw [e1.1, e1.2] at p
      exact absurd p hg
    · have : (decide (e.f = x) && decide (e.t = y)) = false := by
        rw [← Bool.decide_and]
        exact decide_eq_false e1
      simpa [this] using d, p, q⟩⟩⟩
theorem AccM.take {g : Int → Int → Int} {h0 left : Int → Int → Bool} {acc : List EdgD} (h : AccM g h0 left acc) {x y : Int} (hx : N64 x) (hy : N64 y) (hg : 0 < g x y) (h1 : h0 x y = true) (h2 : left x y = true) :
    AccM g h0 (strikeP left x y) (acc ++ [⟨x, y, g x y⟩]) := by
  unfold strikeP
  refine ⟨List.nodup_append.2 ⟨h.nodup, by simp, fun a ha b hb e => ?_⟩, fun e => ?_⟩
  · rw [List.mem_singleton] at hb
    rw [e, hb] at ha
    have := ((h.mem _).1 ha).2.2.2.1
    dsimp only at this
    rw [h2] at this
    cases this
  · rw [List.mem_append, List.mem_singleton, h.mem]
    by_cases e1 : e.f = x ∧ e.t = y
    · have h4 : (decide (e.f = x) && decide (e.t = y)) = true := by
        rw [← Bool.decide_and]
        exact decide_eq_true e1
      obtain ⟨f, t, c⟩ := e
      obtain ⟨rfl, rfl⟩ := e1
      dsimp only at h4 ⊢
      rw [h4]
      constructor
      · rintro (⟨_, _, _, k, _⟩ | k)
        · rw [h2] at k
          cases k
        · injection k with _ _ k
          exact ⟨hx, hy, h1, by simp, hg, k⟩
      · rintro ⟨_, _, _, _, _, k⟩
        exact .inr (by rw [k])
    · have h4 : (decide (e.f = x) && decide (e.t = y)) = false := by
        rw [← Bool.decide_and]
        exact decide_eq_false e1
      rw [h4]
      constructor
      · rintro (⟨a, b, c, d, p, q⟩ | k)
        · exact ⟨a, b, c, by simp [d], p, q⟩
        · exact absurd (by rw [k]; exact ⟨rfl, rfl⟩) e1
      · rintro ⟨a, b, c, d, p, q⟩
        exact .inl ⟨a, b, c, by simpa using d, p, q⟩
theorem cnt_none {d : FlowD} {l : List EdgE} {i : Nat} {e : EdgE} (he : l[i]? = some e) (h : keyE d e = none) : cntS d l (i + 1) = cntS d l i := by
  funext u t
  show (if keyE d (l.getD i edZ) = some (u, t) then _ else _) = _
  rw [getDz he, h, if_neg (by simp)]
theorem cnt_some {d : FlowD} {l : List EdgE} {i : Nat} {e : EdgE} {x y : Int} (he : l[i]? = some e) (h : keyE d e = some (x, y)) : cntS d l (i + 1) = upP (cntS d l i) x y (capI (cntS d l i x y) e.c) := by
  funext u t
  show (if keyE d (l.getD i edZ) = some (u, t) then capI (cntS d l i u t) (l.getD i edZ).c else _) = _
  rw [getDz he, h]
  unfold upP
  by_cases k : u = x ∧ t = y
  · obtain ⟨rfl, rfl⟩ := k
    rw [if_pos rfl, if_pos ⟨rfl, rfl⟩]
  · rw [if_neg (fun e => k (by injection e with e; injection e with e1 e2; exact ⟨e1.symm, e2.symm⟩)), if_neg k]
theorem edgV_snocM (L : List EdgD) (x : EdgD) : edgV (L ++ [x]) = edgV L ++ [.int .i64 x.f, .int .i64 x.t, .int .i64 x.c] := by simp [edgV, edgC]
theorem below_gbM {W0 w w' : World} {row : Option Nat} (h : Below W0.heap.size W0 w) (hg : w.grownBy w' row) (hr : ∀ q, row = some q → W0.heap.size ≤ q) : Below W0.heap.size W0 w' :=
  h.grown hg h.size hr
theorem MapP.mono {w : World} {b n n' : Nat} {f : Int → Int → Int} (h : MapP w b n f) (hn : n ≤ n') : MapP w b n' f := by
  obtain ⟨D, h, hf⟩ := h
  exact ⟨D, h.mono hn, hf⟩
set_option maxHeartbeats 8000000 in
set_option maxRecDepth 100000 in
theorem map_any {d : FlowD} {xA yA zA : Option Addr} {xc yc zc : Nat} (w : World) (hf : FlowRd w xA xc yA yc zA zc d) (hd : MapOk d) (l : List EdgE) (A : Option Addr) (c : Nat) (hR : RdG w w.heap.size A (edL l)) (hl : l.length ≤ 4000) (hn : ∀ e ∈ l, N64 e.a ∧ N64 e.b ∧ N64 e.c) :
    Calls Tryz.prog 16 #[.agg (flowV d xA yA zA xc yc zc), .slice A l.length c] w (MapPost w d l) := by
  obtain ⟨bb, hbb⟩ : ∃ z, l.any badC = z := ⟨_, rfl⟩
  have HCF := Lib.hid (fun W (h : Below w.heap.size w W) => cf_mp l badC A l.length c 40 #[] W ((hR.below h).more h.size) rfl (by omega) (fun W' _ f _ => badC_any f W') (enters_of Tryz.func40 (by kernel_rfl) rfl))
  rw [hbb] at HCF
  have HPO : Hid (∀ e w', Below w.heap.size w w' → (bb = true → e = .returned (.tuple #[.slice none 0 0, .int .i64 2])) → (bb = false → (mapL d l).length ≤ l.length ∧ ∃ (B : Option Addr) (c' : Nat), e = .returned (.tuple #[.slice B (mapL d l).length c', .int .i64 0]) ∧ w'.ownsRow w.heap.size 43 3 (.slice B (mapL d l).length c') (mapL d l).length (edgV (mapL d l))) → MapPost w d l e w') := Lib.hid fun e w' h1 h2 h3 => ⟨h1, by rw [hbb]; exact h2, by rw [hbb]; exact h3⟩
  have HBC : Hid (bb = false → ∀ e ∈ l, 0 ≤ e.c ∧ e.c ≤ 1073741824) := Lib.hid fun h e he => by
    rw [← hbb, List.any_eq_false] at h
    have := h e he
    simp only [badC, Bool.or_eq_true, decide_eq_true_eq, not_or] at this
    omega
  obtain ⟨N, hN⟩ : ∃ z, l.length = z := ⟨_, rfl⟩
  obtain ⟨NB, hNB⟩ : ∃ z, d.blocks.length = z := ⟨_, rfl⟩
  obtain ⟨nt, hnt⟩ : ∃ z, d.tables.length = z := ⟨_, rfl⟩
  obtain ⟨nz, hnz⟩ : ∃ z, d.firsts.length = z := ⟨_, rfl⟩
  have hfew := hd.few
  have hxcap := hf.fst.2.2
  rw [hNB] at hfew hxcap
  rw [hN] at hl HCF ⊢
  have HF := Lib.hid hf
  have HD := Lib.hid hd
  have HR := Lib.hid hR
  have HN := Lib.hid (And.intro hN (And.intro hNB (And.intro hnt hnz)))
  have HE := Lib.hid hn
  have HFV : Hid (#[.slice xA NB xc, .slice yA nt yc, .slice zA nz zc] = flowV d xA yA zA xc yc zc) := Lib.hid (by unfold flowV; rw [hNB, hnt, hnz])
  rw [← HFV.out]
  have hN4 : ¬ (N : Int) > 4000 := by omega
  clear hf hd hR hn hN hNB hnt hnz hbb
  go_enter Tryz.func16, Tryz.ntmps16
  go_upto_region 1 with fail
  obtain ⟨W0, hW0⟩ : ∃ z, w.alloc (.cells #[.slice xA NB xc, .slice yA nt yc, .slice zA nz zc] 33) = z := ⟨_, rfl⟩
  rw [hW0]
  have hb0 : Below w.heap.size w W0 := by rw [← hW0]; exact (Below.refl _ _).alloc (Nat.le_refl _) _
  have hF0 : Blk W0 w.heap.size 33 [.slice xA NB xc, .slice yA nt yc, .slice zA nz zc] := by rw [← hW0]; exact Blk.new w _ _
  obtain ⟨BF, hBF⟩ : ∃ z, w.heap.size = z := ⟨_, rfl⟩
  have HB0 := Lib.hid hb0
  have HBF := Lib.hid hBF
  rw [hBF] at hF0 ⊢
  have HF0 := Lib.hid hF0
  clear hW0 hb0 hF0 hBF
  go_wp2_with fail
  refine ((HCF.out) W0 HB0.out).mono ?_
  rintro e W1 ⟨rfl, hb1⟩
  have HB1 := Lib.hid (HB0.out.trans (hb1.mono HB0.out.size))
  have HF1 := Lib.hid (HF0.out.keep hb1)
  clear hb1 HB0 HF0 HCF
  cases hbv : bb with
  | true =>
    rw [hbv] at HPO
    go_wp2_with fail
    go_ret2
    exact HPO.out _ _ HB1.out (fun _ => rfl) (fun h => by cases h)
  | false =>
    rw [hbv] at HPO HBC
    have HBC' := Lib.hid (HBC.out rfl)
    clear HBC hbv
    have hmm := @run_makeMap Tryz.prog
    go_upto_region 6 with fail
    clear hmm
    obtain ⟨M1, hM1⟩ : ∃ z, W1.alloc (.map #[] 0) = z := ⟨_, rfl⟩
    obtain ⟨V, hV⟩ : ∃ z, M1.alloc (.map #[] 0) = z := ⟨_, rfl⟩
    have hs1 : M1.heap.size = W1.heap.size + 1 := by rw [← hM1]; simp
    have hs2 : V.heap.size = W1.heap.size + 2 := by rw [← hV]; simp [hs1]
    have hbM : Below W1.heap.size W1 M1 := by rw [← hM1]; exact (Below.refl _ _).alloc (Nat.le_refl _) _
    have hbV : Below M1.heap.size M1 V := by rw [← hV]; exact (Below.refl _ _).alloc (Nat.le_refl _) _
    have hm1 : MapI V W1.heap.size 0 (fromS d.blocks 0) := by
      have : MapI M1 W1.heap.size 0 (fromS d.blocks 0) := by rw [← hM1]; exact MapI.made W1
      exact this.keep hbV
    have hm2 : MapI V (W1.heap.size + 1) 0 (toS d.blocks 0) := by
      have : MapI V M1.heap.size 0 (toS d.blocks 0) := by rw [← hV]; exact MapI.made M1
      rw [hs1] at this
      exact this
    rw [hM1, hV]
    obtain ⟨FV, hFL⟩ : ∃ z : List Value, z = [.slice xA NB xc, .slice yA nt yc, .slice zA nz zc] := ⟨_, rfl⟩
    have HFL := Lib.hid hFL
    have hFV := (HF1.out.keep hbM).keep hbV
    have hBV := (HB1.out.trans (hbM.mono HB1.out.size)).trans (hbV.mono (Nat.le_trans HB1.out.size hbM.size))
    have hBF1 : BF < W1.heap.size := HF1.out.lt
    obtain ⟨B1, hB1⟩ : ∃ z, W1.heap.size = z := ⟨_, rfl⟩
    rw [hB1] at hm1 hm2 hs2 hBF1 ⊢
    obtain ⟨B2, hB2⟩ : ∃ z, B1 + 1 = z := ⟨_, rfl⟩
    rw [hB2] at hm2 ⊢
    have hne12 : BF ≠ B1 ∧ BF ≠ B2 ∧ B1 ≠ B2 ∧ BF ≤ B1 ∧ BF ≤ B2 := by omega
    have HNE := Lib.hid hne12
    have HM1 := Lib.hid hm1
    have HM2 := Lib.hid hm2
    have HFB : Hid (Blk V BF 33 FV) := Lib.hid (by rw [hFL]; exact hFV)
    clear hFL
    have HBV := Lib.hid hBV
    have f0 := hFV.cell 0 rfl
    have fl := hFV.lt
    have HSZ := Lib.hid (show BF < V.heap.size ∧ B2 < V.heap.size by omega)
    clear hM1 hV hs1 hs2 hbM hbV hm1 hm2 hFV hBV hBF1 hB1 hB2 hne12 HB1 HF1
    go_wp2_with fail
    clear f0 fl
    go_loopg [32] NB (fun gk s wr => ∃ i : Nat, i ≤ NB ∧ s = .int .i64 i ∧ Hid (Below w.heap.size w wr) ∧ Hid (Blk wr BF 33 FV) ∧ Hid (MapI wr B1 i (fromS d.blocks i)) ∧ Hid (MapI wr B2 i (toS d.blocks i)) ∧ NB - i ≤ gk)
    case atStart => exact ⟨0, Nat.zero_le _, rfl, HBV, HFB, HM1, HM2, Nat.le_refl _⟩
    case round =>
      clear HBV HFB HM1 HM2
      obtain ⟨i, hi, rfl, HB, HFW, HP1, HP2, hgk⟩ := hrel
      by_cases hlt : i < NB
      · have hltI : (i : Int) < (NB : Int) := by omega
        have hi0 : (0 : Int) ≤ (i : Int) := by omega
        have hblk : d.blocks[i]? = some (d.blocks[i]'(by have := HN.out.2.1; omega)) := List.getElem?_eq_getElem _
        generalize d.blocks[i]'(by have := HN.out.2.1; omega) = bq at hblk
        obtain ⟨hfit, hcl, hal, hats, hst⟩ := HD.out.blk i bq hblk
        obtain ⟨v, g, o, hxA, hg, hbr, hcs⟩ := (HF.out.below HB.out).at hblk
        have HFS : Hid (fromS d.blocks (i + 1) = if bq.ats.length = 0 then fromS d.blocks i else upF (fromS d.blocks i) (bq.ats.getD (bq.ats.length - 1) 0) (some (i : Int))) := Lib.hid (by show (if (d.blocks.getD i blkZ).ats.length = 0 then _ else _) = _; rw [getDz hblk])
        have HTS : Hid (toS d.blocks (i + 1) = upF (toS d.blocks i) bq.start (some (i : Int))) := Lib.hid (by show upF _ (d.blocks.getD i blkZ).start _ = _; rw [getDz hblk])
        obtain ⟨bf, bst, bco, bat, ⟨lk, lld, la, lb, ln, llb⟩, ben, bds, bel, bli⟩ := bq
        obtain ⟨cA, cc, aA, ac, liA, lic⟩ := v
        have hbrA := hbr.2.1
        simp only at hats hst hal HFS HTS hbrA
        obtain ⟨na, hna⟩ : ∃ z, bat.length = z := ⟨_, rfl⟩
        obtain ⟨NC, hNC⟩ : ∃ z, bco.length = z := ⟨_, rfl⟩
        obtain ⟨NL, hNL⟩ : ∃ z, bli.length = z := ⟨_, rfl⟩
        rw [hna] at HFS hal
        have b0 := hcs 0 _ rfl
        have b1 := hcs 1 _ rfl
        have b2 := hcs 2 _ rfl
        have b3 := hcs 3 _ rfl
        have b4 := hcs 4 _ rfl
        have b5 := hcs 5 _ rfl
        have b6 := hcs 6 _ rfl
        have b7 := hcs 7 _ rfl
        have b8 := hcs 8 _ rfl
        have b9 := hcs 9 _ rfl
        have b10 := hcs 10 _ rfl
        have b11 := hcs 11 _ rfl
        have b12 := hcs 12 _ rfl
        have b13 := hcs 13 _ rfl
        simp only [hNC, hna, hNL, Nat.add_zero] at b0 b2 b3 b13
        have hnac : na ≤ ac := by have h := hbrA.2.1; rw [hna] at h; exact h
        have HBR := Lib.hid hbrA
        have HNA := Lib.hid (And.intro hna hal)
        have HAT := Lib.hid hats
        have HI := Lib.hid (show N64 (i : Int) from ⟨by omega, by omega⟩)
        have HST := Lib.hid hst
        subst hxA
        clear hblk hfit hcl hal hats hst hbr hcs hbrA hna hNC hNL
        go_upto_region 9 with fail
        obtain ⟨Z, hZ⟩ : ∃ Z, wr.alloc (.cells #[.int .i64 bf, .int .i64 bst, .slice cA NC cc, .slice aA na ac, .int .i64 lk, .int .i64 lld, .int .i64 la, .int .i64 lb, .int .i64 ln, .bool llb, .int .i64 ben, .int .i64 bds, .int .i64 bel, .slice liA NL lic] 54) = Z := ⟨_, rfl⟩
        rw [hZ]
        have hz : Blk Z wr.heap.size 54 [.int .i64 bf, .int .i64 bst, .slice cA NC cc, .slice aA na ac, .int .i64 lk, .int .i64 lld, .int .i64 la, .int .i64 lb, .int .i64 ln, .bool llb, .int .i64 ben, .int .i64 bds, .int .i64 bel, .slice liA NL lic] := by rw [← hZ]; exact Blk.new wr _ _
        have hbZ : Below wr.heap.size wr Z := by rw [← hZ]; exact (Below.refl _ _).alloc (Nat.le_refl _) _
        have hsZ := hbZ.size
        have HZP1 := Lib.hid (HP1.out.keep hbZ)
        have HZP2 := Lib.hid (HP2.out.keep hbZ)
        have HZF := Lib.hid (HFW.out.keep hbZ)
        have HZB := Lib.hid (HB.out.trans (hbZ.mono HB.out.size))
        have HWZ := Lib.hid (show w.heap.size ≤ wr.heap.size from HB.out.size)
        obtain ⟨BZ, hBZ⟩ : ∃ z, wr.heap.size = z := ⟨_, rfl⟩
        rw [hBZ] at hz ⊢
        have HZ := Lib.hid hz
        have HLT := Lib.hid (show B1 ≠ BZ ∧ B2 ≠ BZ by have h1 := HP1.out.lt; have h2 := HP2.out.lt; rw [hBZ] at h1 h2; omega)
        have HBZ := Lib.hid hBZ
        have z3 := hz.cell 3 rfl
        have zl := hz.lt
        have HZW := Lib.hid hbZ
        clear hZ hz hbZ hsZ hBZ b0 b1 b2 b3 b4 b5 b6 b7 b8 b9 b10 b11 b12 b13 HP1 HP2 HFW HB hg
        go_upto_if 40 with fail
        go_cut [40] (fun _ wx => Hid (Below w.heap.size w wx) ∧ Hid (Blk wx BF 33 FV) ∧ Hid (MapI wx B1 (i + 1) (fromS d.blocks (i + 1))) ∧ Hid (MapI wx B2 i (toS d.blocks i)) ∧ Hid (Blk wx BZ 54 [.int .i64 bf, .int .i64 bst, .slice cA NC cc, .slice aA na ac, .int .i64 lk, .int .i64 lld, .int .i64 la, .int .i64 lb, .int .i64 ln, .bool llb, .int .i64 ben, .int .i64 bds, .int .i64 bel, .slice liA NL lic]))
        case first =>
          by_cases h0 : na = 0
          · have hn0 : decide (0 < na) = false := decide_eq_false (by omega)
            have HFE := HFS.out
            rw [if_pos h0] at HFE
            have HFE' := Lib.hid HFE
            clear HFE HFS
            go_wp2_with fail
            go_meet
            exact ⟨HZB, HZF, Lib.hid (by rw [HFE'.out]; exact HZP1.out.mono (Nat.le_succ _)), HZP2, HZ⟩
          · have hn0 : decide (0 < na) = true := decide_eq_true (by omega)
            have HFE := HFS.out
            rw [if_neg h0] at HFE
            obtain ⟨nk, rfl⟩ : ∃ k, na = k + 1 := ⟨na - 1, by omega⟩
            rw [Nat.add_sub_cancel] at HFE
            have hlast : bat[nk]? = some (bat[nk]'(by have := HNA.out.1; omega)) := List.getElem?_eq_getElem _
            obtain ⟨at_, hat⟩ : ∃ z, bat[nk]'(by have := HNA.out.1; omega) = z := ⟨_, rfl⟩
            rw [hat] at hlast
            rw [getDz hlast] at HFE
            have hat64 := HAT.out nk
            rw [getDz hlast] at hat64
            obtain ⟨ab, ao, hab, habl, hac⟩ := HBR.out.1.at (intsV_at .i64 hlast)
            have r1 := (HZW.out.cell (p := ⟨ab, ao + nk, none⟩) habl).trans hac
            have rl := Nat.lt_of_lt_of_le habl HZW.out.size
            have HFE' := Lib.hid HFE
            have H64 := Lib.hid hat64
            obtain ⟨na, hnae⟩ : ∃ z, nk + 1 = z := ⟨_, rfl⟩
            have hnk0 : (0 : Int) ≤ (nk : Int) := by omega
            have hnk1 : (nk : Int) < (na : Int) := by omega
            rw [hnae] at hn0 z3 hnac ⊢
            have qn : IntKind.i64.wrap ((na : Int) - 1) = (nk : Int) := by rw [IntWalk.i64_in _ (by have h := hnac; have h2 := HNA.out.2; omega)]; omega
            subst hab
            clear hlast hat hat64 habl hac hnae HFE HFS h0
            go_wp2_with (first | (at_mapUpdate; refine wpl_upI rfl _ _ _ rfl B1 i _ rfl HZP1.out (by omega) at_ i rfl rfl H64.out HI.out ?a1))
            case a1 =>
              intro w2 hm2 hg2
              have HM2 : Hid (MapI w2 B1 (i + 1) (fromS d.blocks (i + 1))) := Lib.hid (by rw [HFE'.out]; exact hm2)
              have HB2 := Lib.hid (HZB.out.grown hg2 HZB.out.size (fun q e => by injection e with e; have := HNE.out; have := HBF.out; omega))
              have HF2 := Lib.hid (HZF.out.gb hg2 (by have h := HNE.out; intro e; injection e with e; omega))
              have HP2' := Lib.hid (HZP2.out.gb hg2 (by have h := HNE.out; intro e; injection e with e; omega))
              have HZ' := Lib.hid (HZ.out.gb hg2 (by have h := HLT.out; intro e; injection e with e; omega))
              clear hm2 hg2 r1 z3 zl rl
              go_wp2_with fail
              go_meet
              exact ⟨HB2, HF2, HM2, HP2', HZ'⟩
        case rest =>
          obtain ⟨HXB, HXF, HX1, HX2, HXZ⟩ := hcut
          rename World => wx
          have y1 := HXZ.out.cell 1 rfl
          have yl := HXZ.out.lt
          clear z3 zl HZ HZB HZF HZP1 HZP2
          go_wp2_with (first | (at_mapUpdate; refine wpl_upI rfl _ _ _ rfl B2 i _ rfl HX2.out (by omega) bst i rfl rfl HST.out HI.out ?a1))
          case a1 =>
            intro w2 hm2 hg2
            have HM2 : Hid (MapI w2 B2 (i + 1) (toS d.blocks (i + 1))) := Lib.hid (by rw [HTS.out]; exact hm2)
            have HB2 := Lib.hid (HXB.out.grown hg2 HXB.out.size (fun q e => by injection e with e; have := HNE.out; have := HBF.out; omega))
            have HF2 := Lib.hid (HXF.out.gb hg2 (by have h := HNE.out; intro e; injection e with e; omega))
            have HP1' := Lib.hid (HX1.out.gb hg2 (by have h := HNE.out; intro e; injection e with e; omega))
            clear hm2 hg2 y1 yl
            go_wp2_with fail
            go_roundg (NB - (i + 1))
            case measure => omega
            case rel => exact ⟨i + 1, by omega, (by go_num), HB2, HF2, HP1', HM2, Nat.le_refl _⟩
      · obtain rfl : NB = i := by omega
        have hltI : ¬ (NB : Int) < (NB : Int) := by omega
        have hmm := @run_makeMap Tryz.prog
        go_upto_region 14 with fail
        clear hmm
        obtain ⟨V, hV⟩ : ∃ z, wr.alloc (.map #[] 0) = z := ⟨_, rfl⟩
        rw [hV]
        have hbV : Below wr.heap.size wr V := by rw [← hV]; exact (Below.refl _ _).alloc (Nat.le_refl _) _
        have hm3 : MapP V wr.heap.size 0 (cntS d l 0) := by rw [← hV]; exact MapP.made wr
        have HV1 := Lib.hid (HP1.out.keep hbV)
        have HV2 := Lib.hid (HP2.out.keep hbV)
        have HVF := Lib.hid (HFW.out.keep hbV)
        have HVB := Lib.hid (HB.out.trans (hbV.mono HB.out.size))
        have hl3 : B1 < wr.heap.size ∧ B2 < wr.heap.size := ⟨HP1.out.lt, HP2.out.lt⟩
        obtain ⟨B3, hB3⟩ : ∃ z, wr.heap.size = z := ⟨_, rfl⟩
        rw [hB3] at hm3 hl3 ⊢
        have HM3 := Lib.hid hm3
        have HN3 := Lib.hid (show BF ≠ B3 ∧ B1 ≠ B3 ∧ B2 ≠ B3 ∧ BF ≤ B3 by have h := HNE.out; omega)
        clear hV hbV hm3 hl3 hB3 hltI hlt hgk hi HP1 HP2 HFW HB
        rename World => wold
        go_wp2_with fail
        go_loopg [59] N (fun gk s wr => ∃ i : Nat, i ≤ N ∧ s = .int .i64 i ∧ Hid (Below w.heap.size w wr) ∧ Hid (Blk wr BF 33 FV) ∧ Hid (MapI wr B1 NB (fromS d.blocks NB)) ∧ Hid (MapI wr B2 NB (toS d.blocks NB)) ∧ Hid (MapP wr B3 i (cntS d l i)) ∧ N - i ≤ gk)
        case atStart => exact ⟨0, Nat.zero_le _, rfl, HVB, HVF, HV1, HV2, HM3, Nat.le_refl _⟩
        case round =>
          clear HVB HVF HV1 HV2 HM3
          obtain ⟨i, hi, rfl, HB, HFW, HP1, HP2, HP3, hgk⟩ := hrel
          by_cases hlt : i < N
          · have hltI : (i : Int) < (N : Int) := by omega
            have hi0 : (0 : Int) ≤ (i : Int) := by omega
            have hed : l[i]? = some (l[i]'(by have := HN.out.1; omega)) := List.getElem?_eq_getElem _
            generalize l[i]'(by have := HN.out.1; omega) = x at hed
            obtain ⟨xb, xo, hA, hxb, e0, e1, e2⟩ := ed_at3M (HR.out.below HB.out) hed
            obtain ⟨xa64, xb64, xc64⟩ := HE.out x (List.mem_of_getElem? hed)
            have hxc := HBC'.out x (List.mem_of_getElem? hed)
            have HNO : Hid (keyE d x = none → cntS d l (i + 1) = cntS d l i) := Lib.hid fun h => cnt_none hed h
            have HYE : Hid (∀ u t, keyE d x = some (u, t) → cntS d l (i + 1) = upP (cntS d l i) u t (capI (cntS d l i u t) x.c)) := Lib.hid fun u t h => cnt_some hed h
            have HBD : Hid (∀ u t, 0 ≤ cntS d l i u t ∧ cntS d l i u t ≤ 1073741824) := Lib.hid fun u t => cntS_bd HBC'.out u t i
            have HKE : Hid (keyE d x = keyO d (fromS d.blocks NB x.a) (toS d.blocks NB x.b)) := Lib.hid (by unfold keyE; rw [HN.out.2.1])
            obtain ⟨xa, xbb, xcc⟩ := x
            simp only at e0 e1 e2 xa64 xb64 xc64 hxc HYE HKE
            have HXC := Lib.hid hxc
            have HX64 := Lib.hid (And.intro xa64 (And.intro xb64 xc64))
            have hxbw := Nat.lt_of_lt_of_le hxb HB.out.size
            subst hA
            clear hed xa64 xb64 xc64 hxc hxb
            go_upto_block 3 with fail
            go_cut [61] (fun _ wx => Hid (Below w.heap.size w wx) ∧ Hid (Blk wx BF 33 FV) ∧ Hid (MapI wx B1 NB (fromS d.blocks NB)) ∧ Hid (MapI wx B2 NB (toS d.blocks NB)) ∧ Hid (MapP wx B3 (i + 1) (cntS d l (i + 1))))
            case first =>
              go_upto_region 17 with fail
              obtain ⟨Z, hZ⟩ : ∃ Z, wr.alloc (.cells #[.int .i64 xa, .int .i64 xbb, .int .i64 xcc] 43) = Z := ⟨_, rfl⟩
              rw [hZ]
              have hz : Blk Z wr.heap.size 43 [.int .i64 xa, .int .i64 xbb, .int .i64 xcc] := by rw [← hZ]; exact Blk.new wr _ _
              have hbZ : Below wr.heap.size wr Z := by rw [← hZ]; exact (Below.refl _ _).alloc (Nat.le_refl _) _
              have HZ1 := Lib.hid (HP1.out.keep hbZ)
              have HZ2 := Lib.hid (HP2.out.keep hbZ)
              have HZ3 := Lib.hid (HP3.out.keep hbZ)
              have HZF := Lib.hid (HFW.out.keep hbZ)
              have HZB := Lib.hid (HB.out.trans (hbZ.mono HB.out.size))
              have hlk1 := HZ1.out.look_ok HX64.out.1
              have hlk2 := HZ2.out.look_ok HX64.out.2.1
              obtain ⟨BZ, hBZ⟩ : ∃ z, wr.heap.size = z := ⟨_, rfl⟩
              have HLT := Lib.hid (show B1 ≠ BZ ∧ B2 ≠ BZ ∧ B3 ≠ BZ by have h1 := HP1.out.lt; have h2 := HP2.out.lt; have h3 := HP3.out.lt; rw [hBZ] at h1 h2 h3; omega)
              rw [hBZ] at hz ⊢
              have HZ := Lib.hid hz
              have z0 := hz.cell 0 rfl
              have z1 := hz.cell 1 rfl
              have zl := hz.lt
              rename_i wold2
              clear hZ hz hbZ hBZ e0 e1 e2 hxbw HP1 HP2 HP3 HFW HB
              rcases hfa : fromS d.blocks NB xa with _ | u
              · rw [hfa] at hlk1
                rw [show (none : Option Int).isSome = false from rfl, show (none : Option Int).getD 0 = 0 from rfl] at hlk1
                have hkn : keyE d ⟨xa, xbb, xcc⟩ = none := by rw [HKE.out, hfa]; rfl
                have HC := Lib.hid (HNO.out hkn)
                clear hfa hkn HKE HNO HYE
                go_wp2_with fail
                all_goals go_meet
                all_goals exact ⟨HZB, HZF, HZ1, HZ2, Lib.hid (by rw [HC.out]; exact HZ3.out.mono (Nat.le_succ _))⟩
              · rw [hfa] at hlk1
                rw [show (some u).isSome = true from rfl, show (some u).getD 0 = u from rfl] at hlk1
                rcases hfb : toS d.blocks NB xbb with _ | t
                · rw [hfb] at hlk2
                  rw [show (none : Option Int).isSome = false from rfl, show (none : Option Int).getD 0 = 0 from rfl] at hlk2
                  have hkn : keyE d ⟨xa, xbb, xcc⟩ = none := by rw [HKE.out, hfa, hfb]; rfl
                  have HC := Lib.hid (HNO.out hkn)
                  clear hfa hfb hkn HKE HNO HYE
                  go_wp2_with fail
                  all_goals go_meet
                  all_goals exact ⟨HZB, HZF, HZ1, HZ2, Lib.hid (by rw [HC.out]; exact HZ3.out.mono (Nat.le_succ _))⟩
                · rw [hfb] at hlk2
                  rw [show (some t).isSome = true from rfl, show (some t).getD 0 = t from rfl] at hlk2
                  obtain ⟨k, rfl⟩ := Int.eq_ofNat_of_zero_le (fromS_bd hfa).1
                  have hkl : k < NB := by have := (fromS_bd hfa).2; omega
                  have ht64 : N64 t := by have := toS_bd hfb; exact ⟨by omega, by omega⟩
                  have hblk : d.blocks[k]? = some (d.blocks[k]'(by have := HN.out.2.1; omega)) := List.getElem?_eq_getElem _
                  generalize d.blocks[k]'(by have := HN.out.2.1; omega) = bq at hblk
                  obtain ⟨hfit, hcl, -, -, -⟩ := HD.out.blk k bq hblk
                  have hke : keyE d ⟨xa, xbb, xcc⟩ = if t ∈ nextsL d bq then some ((k : Int), t) else none := by
                    rw [HKE.out, hfa, hfb]
                    show (if t ∈ nextsL d (d.blocks.getD (k : Int).toNat blkZ) then _ else _) = _
                    simp only [Int.toNat_natCast, getDz hblk]
                  have HNX := Lib.hid (nexts_any d xA yA zA xc yc zc Z (HF.out.below HZB.out) k bq hblk hfit hcl HD.out.tab)
                  rw [← HFV.out] at HNX
                  obtain ⟨NX, hNX⟩ : ∃ z, nextsL d bq = z := ⟨_, rfl⟩
                  have hnxl : NX.length ≤ 1000 := by rw [← hNX]; exact nexts_small HD.out bq
                  rw [hNX] at hke HNX
                  have HKX := Lib.hid hke
                  have HT64 := Lib.hid ht64
                  have HNL := Lib.hid hnxl
                  have HK64 : Hid (N64 (k : Int)) := Lib.hid ⟨by omega, by omega⟩
                  have hzf := HZF.out
                  rw [HFL.out] at hzf
                  have ff := hzf.cell 0 rfl
                  have ff1 := hzf.cell 1 rfl
                  have ff2 := hzf.cell 2 rfl
                  have ffl := hzf.lt
                  clear hzf
                  clear hfa hfb hkl ht64 hblk hfit hcl hke hNX HKE
                  go_upto_region 20 with fail
                  clear hlk1 hlk2 z0 z1
                  go_wp2_with fail
                  refine HNX.out.mono ?_
                  rintro e w3 ⟨A3, c3, rfl, hb3, ho3⟩
                  have HCT := Lib.hid (contains_any NX t A3 NX.length c3 w3 (own_rd3M ho3) rfl (by have := HNL.out; omega))
                  have H3B := Lib.hid (HZB.out.trans (hb3.mono HZB.out.size))
                  have H31 := Lib.hid (HZ1.out.keep hb3)
                  have H32 := Lib.hid (HZ2.out.keep hb3)
                  have H33 := Lib.hid (HZ3.out.keep hb3)
                  have H3F := Lib.hid (HZF.out.keep hb3)
                  have H3Z := Lib.hid (HZ.out.keep hb3)
                  clear hb3 ho3 HZB HZ1 HZ2 HZ3 HZF HZ ff ff1 ff2 ffl zl HNX
                  go_wp2_with fail
                  refine HCT.out.mono ?_
                  rintro e w4 ⟨rfl, rfl⟩
                  by_cases hin : t ∈ NX
                  · have hke := HKX.out
                    rw [if_pos hin] at hke
                    have HC := Lib.hid (HYE.out _ _ hke)
                    rw [decide_eq_true hin]
                    have hbd := HBD.out k t
                    have hlk3 : (Instr.lookup 88 (.map (some B3)) (.agg #[.int .i64 k, .int .i64 t]) false).run Tryz.prog w3.drew = .ok (.int .i64 (cntS d l i k t)) w3.drew := (show MapP w3.drew B3 i (cntS d l i) from H33.out).look HK64.out HT64.out
                    have HCP := Lib.hid (capped_any (cntS d l i k t) xcc hbd HXC.out)
                    have hcb : N64 (capI (cntS d l i k t) xcc) := by unfold capI; have := HXC.out; exact ⟨by omega, by omega⟩
                    obtain ⟨w5, hup, hm5, hg5⟩ := (show MapP w3.drew B3 i (cntS d l i) from H33.out).update (n := i) (by omega) HK64.out HT64.out hcb
                    unfold pairV at hup
                    have y2 : w3.drew.cell? ⟨BZ, 2, none⟩ = some (.int .i64 xcc) := (H3Z.out.drew).cell 2 rfl
                    have yl := H3Z.out.lt
                    have HM5 : Hid (MapP w5 B3 (i + 1) (cntS d l (i + 1))) := Lib.hid (by rw [HC.out]; exact hm5)
                    have HG5 := Lib.hid (show w3.grownBy w5 (some B3) from ⟨hg5.os, hg5.tape, hg5.output, hg5.size, hg5.block⟩)
                    obtain ⟨cv, hcv⟩ : ∃ z, cntS d l i k t = z := ⟨_, rfl⟩
                    rw [hcv] at hlk3 HCP hup
                    obtain ⟨cw, hcw⟩ : ∃ z, capI cv xcc = z := ⟨_, rfl⟩
                    rw [hcw] at HCP hup
                    clear hin hke hbd hcb hm5 hg5 hcv hcw
                    go_upto_region 22 with fail
                    refine wp_region_W (fun w' => w'.cell? ⟨BZ, 2, none⟩ = some (.int .i64 xcc)) 12 (by kernel_rfl) (by (try dsimp only); exact y2) (fun hHeld => ?_)
                    refine wpW_take 0 (v := ?_) rfl (by kernel_rfl) (by kernel_rfl) (by kernel_rfl) (by kernel_rfl) (fun _ _ _ h => h) (Or.inl ⟨by rfl, ?_⟩) hHeld ?_
                    rotate_left
                    · intro w hSw
                      try dsimp only at hSw
                      go_simp
                      try with_reducible rfl
                    try simp only [Act.put, List.setIfInBounds_toArray, List.set_cons_zero, List.set_cons_succ]
                    refine wpW_take 1 (v := ?_) rfl (by kernel_rfl) (by kernel_rfl) (by kernel_rfl) (by kernel_rfl) (fun _ _ _ h => h) (Or.inl ⟨by rfl, ?_⟩) hHeld ?_
                    rotate_left
                    · intro w hSw
                      try dsimp only at hSw
                      go_simp
                      try with_reducible rfl
                    try simp only [Act.put, List.setIfInBounds_toArray, List.set_cons_zero, List.set_cons_succ]
                    refine wpW_take 2 (v := ?_) rfl (by kernel_rfl) (by kernel_rfl) (by kernel_rfl) (by kernel_rfl) (fun _ _ _ h => h) (Or.inl ⟨by rfl, ?_⟩) hHeld ?_
                    rotate_left
                    · intro w hSw
                      try dsimp only at hSw
                      go_simp
                      try with_reducible rfl
                    try simp only [Act.put, List.setIfInBounds_toArray, List.set_cons_zero, List.set_cons_succ]
                    refine wpW_take 3 (v := ?_) rfl (by kernel_rfl) (by kernel_rfl) (by kernel_rfl) (by kernel_rfl) (fun _ _ _ h => h) (Or.inl ⟨by rfl, ?_⟩) hHeld ?_
                    rotate_left
                    · intro w hSw
                      try dsimp only at hSw
                      go_simp
                      try with_reducible rfl
                    try simp only [Act.put, List.setIfInBounds_toArray, List.set_cons_zero, List.set_cons_succ]
                    refine wpW_take 4 (v := ?_) rfl (by kernel_rfl) (by kernel_rfl) (by kernel_rfl) (by kernel_rfl) (fun _ _ _ h => h) (Or.inl ⟨by rfl, ?_⟩) hHeld ?_
                    rotate_left
                    · intro w hSw
                      try dsimp only at hSw
                      go_simp
                      try with_reducible rfl
                    try simp only [Act.put, List.setIfInBounds_toArray, List.set_cons_zero, List.set_cons_succ]
                    refine wpW_take 5 (v := ?_) rfl (by kernel_rfl) (by kernel_rfl) (by kernel_rfl) (by kernel_rfl) (fun _ _ _ h => h) (Or.inl ⟨by rfl, ?_⟩) hHeld ?_
                    rotate_left
                    · intro w hSw
                      try dsimp only at hSw
                      go_simp
                      try with_reducible rfl
                    try simp only [Act.put, List.setIfInBounds_toArray, List.set_cons_zero, List.set_cons_succ]
                    refine wpW_take 6 (v := ?_) rfl (by kernel_rfl) (by kernel_rfl) (by kernel_rfl) (by kernel_rfl) (fun _ _ _ h => h) (Or.inl ⟨by rfl, ?_⟩) hHeld ?_
                    rotate_left
                    · intro w hSw
                      try dsimp only at hSw
                      go_simp
                      try with_reducible rfl
                    try simp only [Act.put, List.setIfInBounds_toArray, List.set_cons_zero, List.set_cons_succ]
                    refine wpW_take 7 (v := ?_) rfl (by kernel_rfl) (by kernel_rfl) (by kernel_rfl) (by kernel_rfl) (fun _ _ _ h => h) (Or.inl ⟨by rfl, ?_⟩) hHeld ?_
                    rotate_left
                    · intro w hSw
                      try dsimp only at hSw
                      go_simp
                      try with_reducible rfl
                    try simp only [Act.put, List.setIfInBounds_toArray, List.set_cons_zero, List.set_cons_succ]
                    refine wpW_take 9 (v := ?_) rfl (by kernel_rfl) (by kernel_rfl) (by kernel_rfl) (by kernel_rfl) (fun _ _ _ h => h) (Or.inl ⟨by rfl, ?_⟩) hHeld ?_
                    rotate_left
                    · intro w hSw
                      try dsimp only at hSw
                      go_simp
                      try with_reducible rfl
                    try simp only [Act.put, List.setIfInBounds_toArray, List.set_cons_zero, List.set_cons_succ]
                    refine wpW_take 10 (v := ?_) rfl (by kernel_rfl) (by kernel_rfl) (by kernel_rfl) (by kernel_rfl) (fun _ _ _ h => h) (Or.inl ⟨by rfl, ?_⟩) hHeld ?_
                    rotate_left
                    · intro w hSw
                      try dsimp only at hSw
                      go_simp
                      try with_reducible rfl
                    try simp only [Act.put, List.setIfInBounds_toArray, List.set_cons_zero, List.set_cons_succ]
                    refine wpW_one 8 rfl (by kernel_rfl) (fun K hK => ?_)
                    go_simp
                    refine hK.out _ _ (by (try dsimp only); exact y2) (fun hHeld => ?_)
                    clear hK K
                    try simp only [Act.put, List.setIfInBounds_toArray, List.set_cons_zero, List.set_cons_succ]
                    refine wpW_one 11 rfl (by kernel_rfl) (fun K hK => ?_)
                    go_simp
                    refine (HCP.out _).mono ?_
                    rintro e wq ⟨rfl, rfl⟩
                    refine hK.out _ _ (by (try dsimp only); exact y2) (fun hHeld => ?_)
                    clear hK K
                    try simp only [Act.put, List.setIfInBounds_toArray, List.set_cons_zero, List.set_cons_succ]
                    refine wpW_last 12 rfl (by kernel_rfl) (by decide) (fun K hK => ?_)
                    go_simp
                    refine hK.out _ _ ?_
                    clear hK K
                    try simp only [Act.put, List.setIfInBounds_toArray, List.set_cons_zero, List.set_cons_succ]
                    refine wpW_done (by kernel_rfl) ?_ _
                    go_wp2_with fail
                    go_meet
                    exact ⟨Lib.hid (H3B.out.grown HG5.out H3B.out.size (fun q e => by injection e with e; have := HN3.out; have := HBF.out; omega)), Lib.hid (H3F.out.gb HG5.out (by have h := HN3.out; intro e; injection e with e; omega)), Lib.hid (H31.out.gb HG5.out (by have h := HN3.out; intro e; injection e with e; omega)), Lib.hid (H32.out.gb HG5.out (by have h := HN3.out; intro e; injection e with e; omega)), HM5⟩
                  · have hke := HKX.out
                    rw [if_neg hin] at hke
                    have HC := Lib.hid (HNO.out hke)
                    rw [decide_eq_false hin]
                    clear hin hke
                    go_wp2_with fail
                    go_meet
                    exact ⟨H3B, H3F, H31, H32, Lib.hid (by rw [HC.out]; exact H33.out.mono (Nat.le_succ _))⟩
            case rest =>
              obtain ⟨HXB, HXF, HX1, HX2, HX3⟩ := hcut
              go_wp2_with fail
              go_roundg (N - (i + 1))
              case measure => omega
              case rel => exact ⟨i + 1, by omega, (by go_num), HXB, HXF, HX1, HX2, HX3, Nat.le_refl _⟩
          · obtain rfl : N = i := by omega
            have hltI : ¬ (N : Int) < (N : Int) := by omega
            obtain ⟨G, hG⟩ : ∃ z, cntS d l N = z := ⟨_, rfl⟩
            have HGB : Hid (∀ u t, G u t ≠ 0 → 0 ≤ u ∧ u < d.blocks.length ∧ 0 ≤ t ∧ t < d.blocks.length) := Lib.hid fun u t h => by
              rw [← hG] at h
              obtain ⟨h1, h2, h3, h4, -⟩ := cntS_next h
              exact ⟨h1, h2, h3, h4⟩
            have HML : Hid (mapL d l = outL d.blocks.length G) := Lib.hid (by unfold mapL; rw [HN.out.1, hG])
            rw [hG] at HP3
            have HWR := Lib.hid HB.out.size
            clear hG HFW HP1 HP2 hlt hgk hi
            rename World => wo
            go_wp2_with (first | (at_range; refine wpl_rangeP rfl _ rfl B3 N G rfl HP3.out ?a5))
            case a5 =>
              intro w2 cnt h0 hcn hrg hg2 hs2
              have HB2 := Lib.hid (HB.out.trans (⟨hg2.os, hg2.tape, hg2.output, hg2.size, fun q hq => hg2.block q (Nat.lt_of_lt_of_le hq HB.out.size) (by simp)⟩ : Below w.heap.size wo w2))
              obtain ⟨RB, hRB⟩ : ∃ z, wo.heap.size = z := ⟨_, rfl⟩
              rw [hRB] at hrg ⊢
              have HRW : Hid (w.heap.size ≤ RB) := Lib.hid (by rw [← hRB]; exact HWR.out)
              have HRG := Lib.hid hrg
              have HCN := Lib.hid hcn
              clear hcn hrg hg2 hs2 hRB HB HP3 HWR
              go_wp2_with fail
              go_loopg [19] cnt (fun gk s19 wr => ∃ (acc : List EdgD) (left : Int → Int → Bool) (cnt : Nat) (A3 : Option Addr) (n c3 : Nat), s19 = .slice A3 n c3 ∧ Hid (acc.length = n) ∧ Hid (wr.ownsRow w.heap.size 43 3 (.slice A3 n c3) n (edgV acc)) ∧ Hid (RngP wr B3 RB N cnt G h0 left) ∧ Hid (AccM G h0 left acc) ∧ Hid (n + cnt ≤ N) ∧ Hid (Below w.heap.size w wr) ∧ cnt ≤ gk)
              case atStart => exact ⟨[], h0, cnt, none, 0, 0, rfl, Lib.hid rfl, Lib.hid ⟨rfl, .inl ⟨rfl, rfl⟩⟩, HRG, Lib.hid (AccM.start G h0), Lib.hid (by have := HCN.out; omega), HB2, Nat.le_refl _⟩
              case round =>
                clear HRG HB2 HCN
                obtain ⟨acc, left, cnt, A3, n, c3, rfl, HAN, HO, HR3, HAC, HLE, HB, hgk⟩ := hrel
                go_wp2_with (first | (at_next; refine wpl_nextP rfl _ rfl B3 RB N cnt G h0 left rfl HR3.out ?b1 ?b2))
                case b1 =>
                  intro h1 h2
                  have HLF := Lib.hid h2
                  have HNS : Hid (∀ e : EdgD, e ∈ acc ↔ 0 < G e.f e.t ∧ e.c = G e.f e.t) := Lib.hid fun e => by
                    rw [HAC.out.mem]
                    constructor
                    · rintro ⟨-, -, -, -, h5, h6⟩
                      exact ⟨h5, h6⟩
                    · rintro ⟨h5, h6⟩
                      have hb := HGB.out e.f e.t (by omega)
                      have hbl : (d.blocks.length : Int) ≤ 1600 := by have := HN.out.2.1; omega
                      have n1 : N64 e.f := ⟨by omega, by omega⟩
                      have n2 : N64 e.t := ⟨by omega, by omega⟩
                      obtain ⟨D, lf, -, hf⟩ := HR3.out
                      refine ⟨n1, n2, ?_, HLF.out _ _ n1 n2, h5, h6⟩
                      rcases hh : h0 e.f e.t with _ | _
                      · have := (hf _ _ n1 n2).2.2.1 hh
                        omega
                      · rfl
                  have HSRT := Lib.hid (sort_edgs HO.out (fun x hx => by
                    obtain ⟨h5, h6⟩ := (HNS.out x).1 hx
                    have hb := HGB.out x.f x.t (by omega)
                    have hbl : (d.blocks.length : Int) ≤ 1600 := by have := HN.out.2.1; omega
                    omega) (by have := HLE.out; omega))
                  clear h1 h2
                  go_wp2_with fail
                  refine HSRT.out.mono ?_
                  rintro e w5 ⟨rfl, L', hp, hs, ho5, hfr⟩
                  have hL : L' = mapL d l := by
                    rw [HML.out]
                    exact out_eq (hp.symm.nodup HAC.out.nodup) (fun e => hp.mem_iff.trans (HNS.out e)) HGB.out hs
                  have HB5 := Lib.hid (hfr _ _ HB.out (Nat.le_refl _))
                  have hln : (mapL d l).length = n := by rw [← hL, hp.length_eq, HAN.out]
                  rw [hL] at ho5
                  have HO5 := Lib.hid ho5
                  have HLN := Lib.hid hln
                  clear hp hs ho5 hfr hL hln HSRT
                  go_wp2_with fail
                  go_ret2
                  exact HPO.out _ _ HB5.out (fun h => by cases h) (fun _ => ⟨by rw [HLN.out, HN.out.1]; have := HLE.out; omega, A3, c3, by rw [HLN.out]; rfl, by rw [HLN.out]; exact HO5.out⟩)
                case b2 =>
                  intro x y w3 cnt3 hx hy hg64 hl hrg hlt hgr hsz hen
                  unfold pairV at hen ⊢
                  have hne := HR3.out.ne_own HO.out
                  have hO3 := gb_own HO.out hgr (.inr hne.2)
                  have hB3 := HB.out.grown hgr HB.out.size (fun q e => by injection e with e; have := HRW.out; omega)
                  obtain ⟨gv, hgv⟩ : ∃ z, G x y = z := ⟨_, rfl⟩
                  rw [hgv] at hen hg64 ⊢
                  have h01 : h0 x y = true := by
                    obtain ⟨D, lf, -, hf⟩ := HR3.out
                    exact (hf x y hx hy).2.2.2 hl
                  obtain ⟨Z, hZ⟩ : ∃ Z, w3.alloc (.cells #[.int .i64 x, .int .i64 y] 89) = Z := ⟨_, rfl⟩
                  have hz : Blk Z w3.heap.size 89 [.int .i64 x, .int .i64 y] := by rw [← hZ]; exact Blk.new w3 _ _
                  have hbZ : Below w3.heap.size w3 Z := by rw [← hZ]; exact (Below.refl _ _).alloc (Nat.le_refl _) _
                  have HOZ := Lib.hid (own_keep hO3 hbZ)
                  have HRZ := Lib.hid (hrg.gb (row := none) (gb_below hbZ) (by simp) (by simp))
                  have HBZ := Lib.hid (hB3.trans (hbZ.mono hB3.size))
                  have HZ := Lib.hid hz
                  have HXY := Lib.hid (And.intro hx (And.intro hy hl))
                  have HH0 := Lib.hid h01
                  have HGV := Lib.hid hgv
                  have HLT := Lib.hid hlt
                  have z0 := hz.cell 0 rfl
                  have z1 := hz.cell 1 rfl
                  have zl := hz.lt
                  have HZQ := Lib.hid hZ
                  clear hx hy hl hrg hgr hsz hne hO3 hB3 hgv h01 hlt hz hbZ hZ
                  go_upto_region 28 with fail
                  rw [HZQ.out]
                  clear hen
                  by_cases hp : 0 < gv
                  · have HC2 := Lib.hid (HAC.out.take HXY.out.1 HXY.out.2.1 (by rw [HGV.out]; exact hp) HH0.out HXY.out.2.2)
                    rw [HGV.out] at HC2
                    have hnl : n ≤ 4000 := by have := HLE.out; omega
                    go_wp2_with (first | (at_builtin; refine app_one rfl _ _ 36 43 3 24 _ Tryz.underlying36 infoEdgM rfl (by decide) rfl w.heap.size _ n _ rfl (World.ownsRow.alloc HOZ.out _) Z.heap.size 1 rfl [.int .i64 x, .int .i64 y, .int .i64 gv] 43 (0, 0) (heap_alloc_new Z _) rfl (by simp [Value.oneCell']) (by omega) (by omega) (by have := HBZ.out.size; simp; omega) (Z.heap.size + 1) (by simp) ?a1))
                    case a1 =>
                      intro g2 c2 w4 ho2 hgr2 hat2 hlt2
                      have hne2 := (HRZ.out.gb (row := none) (gb_below ((Below.refl Z.heap.size Z).alloc (Nat.le_refl _) (.cells #[.int .i64 x, .int .i64 y, .int .i64 gv] 43))) (by simp) (by simp)).ne_own (World.ownsRow.alloc HOZ.out _)
                      have HR4 := Lib.hid ((HRZ.out.gb (row := none) (gb_below ((Below.refl Z.heap.size Z).alloc (Nat.le_refl _) (.cells #[.int .i64 x, .int .i64 y, .int .i64 gv] 43))) (by simp) (by simp)).gb hgr2 hne2.1 hne2.2)
                      have HB4 : Hid (Below w.heap.size w w4) := Lib.hid (below_gbM (HBZ.out.trans (((Below.refl Z.heap.size Z).alloc (Nat.le_refl _) (.cells #[.int .i64 x, .int .i64 y, .int .i64 gv] 43)).mono HBZ.out.size)) hgr2 (fun q hq => (World.ownsRow.lt HOZ.out q hq).1))
                      have HO4 : Hid (w4.ownsRow w.heap.size 43 3 (.slice (some ⟨g2, 0, none⟩) (n + 1) c2) (n + 1) (edgV (acc ++ [⟨x, y, gv⟩]))) := Lib.hid (by rw [edgV_snocM]; exact ho2)
                      clear ho2 hgr2 hat2 hlt2 hne2 z0 z1 zl
                      go_wp2_with fail
                      go_roundg cnt3
                      case measure => have := HLT.out; omega
                      case rel => exact ⟨acc ++ [⟨x, y, gv⟩], _, cnt3, _, n + 1, _, rfl, Lib.hid (by rw [List.length_append, HAN.out]; rfl), HO4, HR4, HC2, Lib.hid (by have h5 := HLE.out; have h6 := HLT.out; omega), HB4, Nat.le_refl _⟩
                  · have HC2 := Lib.hid (HAC.out.skip (x := x) (y := y) (by rw [HGV.out]; exact hp))
                    go_wp2_with fail
                    go_roundg cnt3
                    case measure => have := HLT.out; omega
                    case rel => exact ⟨acc, _, cnt3, _, n, _, rfl, HAN, HOZ, HRZ, HC2, Lib.hid (by have h5 := HLE.out; have h6 := HLT.out; omega), HBZ, Nat.le_refl _⟩
end Go.Proofs.YtcdlgjhdbmmomaaGreatDoor
namespace Go.Proofs.YtcdlgjhdbmmomaaGreatDoor
open Go.RowKit Go.Deep
theorem FlwSt.mapOk {w : World} {l : List RawI} {m : Img} {v : ImgV} {d : FlowD} {xA yA zA : Option Addr} {xc yc zc : Nat} (h : FlwSt w l m v d xA yA zA xc yc zc) : MapOk d := by
  obtain ⟨ld, bm, S, gs, hF, -, -⟩ := gen_flow3 h.pgm.check h.rc
  have hT := h.pgm.text
  have ht := h.tal
  refine ⟨ht.few, fun i b hb => ?_, fun t ht => ?_⟩
  · obtain ⟨h1, h2, h3, -, -⟩ := ht.blk i b hb
    have h4 := hF.blen hb
    exact ⟨hF.fit hb, by omega, by omega, fun k => ⟨by have := h2 k; omega, by have := h2 k; omega⟩, ⟨by omega, by omega⟩⟩
  · rw [hF.tables] at ht
    obtain ⟨t0, ht0, rfl⟩ := List.mem_map.1 ht
    have := (check_tabs h.pgm.check).1 t0 ht0
    rw [List.length_map]
    omega
theorem one23 : readE [49, 32, 50, 32, 51, 10] = .inr [⟨1, 2, 3⟩] := by
  have h := readE_fmt [⟨1, 2, 3⟩] (fun e he => by rw [List.mem_singleton] at he; rw [he]; exact ⟨by decide, by decide, by decide⟩) (by decide)
  have e : List.flatMap fmtE [(⟨1, 2, 3⟩ : EdgE)] = [49, 32, 50, 32, 51, 10] := by kernel_rfl
  rw [e] at h
  exact h
set_option maxRecDepth 100000 in
theorem tallyTells_any (w : World) (hT : Tabs w) (hW : TlyW w) : Calls Tryz.prog 12 #[] w fun e w' => e = .returned (.bool true) ∧ Below w.heap.size w w' := by
  have HRD := Lib.hid (read_any ⟨#[49, 32, 50, 32, 51, 10]⟩ (by decide) w hW)
  rw [show (⟨#[49, 32, 50, 32, 51, 10]⟩ : ByteArray).data.toList = [49, 32, 50, 32, 51, 10] from rfl, one23] at HRD
  have HT := Lib.hid hT
  clear hT hW
  go_enter Tryz.func12, Tryz.ntmps12
  go_wp2_with fail
  refine HRD.out.mono ?_
  rintro e w1 ⟨hb1, A, c, rfl, ho1⟩
  have HB1 := Lib.hid hb1
  have HFT := Lib.hid (flowTells_any w1 (HT.out.below hb1))
  clear hb1 ho1
  go_wp2_with fail
  refine HFT.out.mono ?_
  rintro e w2 ⟨rfl, hb2⟩
  have HB2 := Lib.hid (HB1.out.trans (hb2.mono HB1.out.size))
  clear hb2
  go_wp2_with fail
  go_ret
  exact ⟨rfl, HB2.out⟩
end Go.Proofs.YtcdlgjhdbmmomaaGreatDoor
