/- step: (*machine).memory, walked. -/
import Derived.Test.YtlekjnnofhjgjaaDoorStepE
import Derived.StillTailTactics
namespace Go.Proofs.YtlekjnnofhjgjaaDoor
open Go.RowKit
/-- the machine, its lists, and the numbers in it -/
structure MInv (w : World) (B X : Nat) (iv : List Value) (s : MSt) (d : MAd) : Prop where
  blk : MBlk w X iv s d
  bx : B ≤ X
  data : w.ownsRow B 88 2 (.slice d.dA s.data.length d.dc) s.data.length (valsC s.data)
  told : w.ownsRow B 3 1 (.slice d.tA s.told.length d.tc) s.told.length (intsV .i64 s.told)
  inp : RdG w B d.iA (intsV .i64 s.inp)
  inc : s.inp.length ≤ d.ic
  s1 : (Value.slice d.dA s.data.length d.dc).ownBlock ≠ some X
  s2 : (Value.slice d.tA s.told.length d.tc).ownBlock ≠ some X
  s3 : (Value.slice d.dA s.data.length d.dc).ownBlock = none ∨ (Value.slice d.dA s.data.length d.dc).ownBlock ≠ (Value.slice d.tA s.told.length d.tc).ownBlock
  rb : ∀ v ∈ s.regs, N41 v.1
  db : ∀ v ∈ s.data, N41 v.1
  ib : ∀ x ∈ s.inp, N41 x
  dl : s.data.length ≤ 1000000
  tl : (s.told.length : Int) ≤ s.steps + 1
  il : s.inp.length ≤ 1000000
theorem regAt_bd {s : MSt} (h : ∀ v ∈ s.regs, N41 v.1) (r : Int) : N41 (regAt s r).1 := by
  unfold regAt
  by_cases hl : r.toNat < s.regs.length
  · have : s.regs.getD r.toNat (0, false) = s.regs[r.toNat] := by simp [List.getD, List.getElem?_eq_getElem hl]
    rw [this]
    exact h _ (List.getElem_mem hl)
  · have : s.regs.getD r.toNat (0, false) = (0, false) := by simp [List.getD, List.getElem?_eq_none (Nat.le_of_not_lt hl)]
    rw [this]
    exact ⟨by decide, by decide⟩
/-- load and store -/
def memS (s : MSt) (k d a b n : Int) : MSt × Int :=
  if (regAt s a).2 = true then (s, 4)
  else if 0 ≤ (regAt s a).1 + n ∧ (regAt s a).1 + n < s.data.length then
    (if k = 14 then ({ s with regs := s.regs.set d.toNat (s.data.getD ((regAt s a).1 + n).toNat (0, false)) }, 0) else ({ s with data := s.data.set ((regAt s a).1 + n).toNat (regAt s b) }, 0))
  else (s, 2)
/-- what a step of the machine leaves -/
def DoPost (w : World) (B X : Nat) (iv : List Value) (s' : MSt) (v : Value) (e : Ending) (w' : World) : Prop := e = .returned v ∧ Below B w w' ∧ ∃ d', MInv w' B X iv s' d'
theorem MInv.gb {w w' : World} {B X : Nat} {iv : List Value} {s s' : MSt} {d : MAd} (h : MInv w B X iv s d) (hg : w.grownBy w' (some X)) (hb : MBlk w' X iv s' d) (hr : ∀ v ∈ s'.regs, N41 v.1) (e1 : s'.data = s.data) (e2 : s'.told = s.told) (e3 : s'.inp = s.inp) (e4 : s.steps ≤ s'.steps) : MInv w' B X iv s' d := by
  have hB : Below B w w' := gb_to_below hg h.bx (by have := h.blk.lt; have := h.bx; omega)
  refine ⟨hb, h.bx, ?_, ?_, ?_, ?_, ?_, ?_, ?_, hr, ?_, ?_, ?_, ?_, ?_⟩
  · rw [e1]; exact own_gb h.data hg h.s1
  · rw [e2]; exact own_gb h.told hg h.s2
  · rw [e3]; exact h.inp.below hB
  · rw [e3]; exact h.inc
  · rw [e1]; exact h.s1
  · rw [e2]; exact h.s2
  · rw [e1, e2]; exact h.s3
  · rw [e1]; exact h.db
  · rw [e3]; exact h.ib
  · rw [e1]; exact h.dl
  · rw [e2]; have := h.tl; omega
  · rw [e3]; exact h.il
theorem data_at {w : World} {B X : Nat} {iv : List Value} {s : MSt} {d : MAd} (h : MInv w B X iv s d) {p : Nat} {v : Int × Bool} (hp : s.data[p]? = some v) :
    ∃ g cur, d.dA = some ⟨g, 0, none⟩ ∧ B ≤ g ∧ g ≠ X ∧ g < w.heap.size ∧ w.heap[g]? = some (.cells cur 88 (0, 0)) ∧ cur.size = d.dc * 2 ∧ s.data.length ≤ d.dc ∧ d.dc ≤ maxLen ∧ cur.toList.take (s.data.length * 2) = valsC s.data ∧ cur[p * 2]? = some (.int .i64 v.1) ∧ cur[p * 2 + 1]? = some (.bool v.2) := by
  have hpl := (List.getElem?_eq_some_iff.1 hp).1
  rcases h.data.2 with ⟨_, h0⟩ | ⟨g, c, cur, hv, hb, hg, hkc, hcm, hcs, htk⟩
  · omega
  · injection hv with h1 h2 h3
    have h1' := flat_at valC 2 (fun _ => rfl) s.data p v hp 0 _ (by decide) rfl
    have h2' := flat_at valC 2 (fun _ => rfl) s.data p v hp 1 _ (by decide) rfl
    have hs := h.s1
    rw [h1] at hs
    refine ⟨g, cur, h1, hb, fun e => hs (by rw [e]; rfl), (Array.getElem?_eq_some_iff.1 hg).1, hg, by rw [hcs, h3], by rw [h3]; exact hkc, by rw [h3]; exact hcm, htk, ?_, ?_⟩
    · have : (valsC s.data)[p * 2 + 0]? = some (Value.int .i64 v.1) := h1'
      rw [← htk, List.getElem?_take, if_pos (by omega)] at this
      simpa using this
    · have : (valsC s.data)[p * 2 + 1]? = some (Value.bool v.2) := h2'
      rw [← htk, List.getElem?_take, if_pos (by omega)] at this
      simpa using this
theorem MInv.setData {w : World} {B X : Nat} {iv : List Value} {s : MSt} {d : MAd} (h : MInv w B X iv s d) {p : Nat} (hp : p < s.data.length) (v : Int × Bool) (hv : N41 v.1) {g : Nat} (hgA : d.dA = some ⟨g, 0, none⟩) :
    MInv ((w.setCell ⟨g, p * 2, none⟩ (.int .i64 v.1)).setCell ⟨g, p * 2 + 1, none⟩ (.bool v.2)) B X iv { s with data := s.data.set p v } d ∧ Below B w ((w.setCell ⟨g, p * 2, none⟩ (.int .i64 v.1)).setCell ⟨g, p * 2 + 1, none⟩ (.bool v.2)) := by
  obtain ⟨g', cur, hgA', hgB, hgX, hglt, hgg, hcs, hlc, hcm, htk, -, -⟩ := data_at h (List.getElem?_eq_getElem hp)
  obtain rfl : g = g' := by rw [hgA] at hgA'; injection hgA' with e; injection e
  have hg2 : w.grownBy ((w.setCell ⟨g, p * 2, none⟩ (.int .i64 v.1)).setCell ⟨g, p * 2 + 1, none⟩ (.bool v.2)) (some g) := gb_setCell (gb_setCell (gb_refl _ _) _ _) _ _
  have hbw : Below B w ((w.setCell ⟨g, p * 2, none⟩ (.int .i64 v.1)).setCell ⟨g, p * 2 + 1, none⟩ (.bool v.2)) := gb_to_below hg2 hgB (by have := h.blk.lt; have := h.bx; omega)
  have hlen : (s.data.set p v).length = s.data.length := List.length_set ..
  have hX := h.blk.gb hg2 (fun e => hgX e.symm)
  refine ⟨⟨⟨?_, hX.ivl, hX.rl⟩, h.bx, ?_, ?_, h.inp.below hbw, h.inc, ?_, h.s2, ?_, h.rb, ?_, h.ib, ?_, h.tl, h.il⟩, hbw⟩
  · have := hX.blk
    unfold machC at this ⊢
    simp only [hlen]
    exact this
  · simp only [hlen]
    refine ⟨by rw [valsC_len, hlen], .inr ⟨g, d.dc, ((cur.setIfInBounds (p * 2) (.int .i64 v.1)).setIfInBounds (p * 2 + 1) (.bool v.2)), by rw [hgA], hgB, ?_, hlc, hcm, by simp [hcs], ?_⟩⟩
    · exact heap_setCell_same _ g _ _ _ _ (heap_setCell_same _ g _ _ _ _ hgg)
    · rw [valsC_set, ← htk]
      simp only [Array.toList_setIfInBounds]
      rw [List.take_set, List.take_set]
  · exact own_gb h.told hg2 (fun e => by
      have h3 := h.s3
      rw [hgA] at h3
      rcases h3 with h3 | h3
      · cases h3
      · exact h3 e.symm)
  · simp only [hlen]; exact h.s1
  · simp only [hlen]; exact h.s3
  · intro u hu
    rcases List.mem_or_eq_of_mem_set hu with hu | rfl
    · exact h.db u hu
    · exact hv
  · simp only [hlen]; exact h.dl
theorem MInv.setReg {w : World} {B X : Nat} {iv : List Value} {s : MSt} {d : MAd} (h : MInv w B X iv s d) (r : Nat) (hr : r < 8) (v : Int × Bool) (hv : N41 v.1) :
    MInv ((w.setCell ⟨X, 6 + r * 2, none⟩ (.int .i64 v.1)).setCell ⟨X, 6 + r * 2 + 1, none⟩ (.bool v.2)) B X iv { s with regs := s.regs.set r v } d :=
  h.gb (gb_setCell (gb_setCell (gb_refl _ _) _ _) _ _) (h.blk.setReg r hr v) (fun u hu => by
    rcases List.mem_or_eq_of_mem_set hu with hu | rfl
    · exact h.rb u hu
    · exact hv) rfl rfl rfl (Int.le_refl _)
theorem MInv.drew {w : World} {B X : Nat} {iv : List Value} {s : MSt} {d : MAd} (h : MInv w B X iv s d) : MInv w.drew B X iv s d := h.gb (gb_drew (gb_refl _ _)) ⟨h.blk.blk, h.blk.ivl, h.blk.rl⟩ h.rb rfl rfl rfl (Int.le_refl _)
theorem MInv.drewN {w : World} {B X : Nat} {iv : List Value} {s : MSt} {d : MAd} (h : MInv w B X iv s d) (n : Nat) : MInv (w.drewN n) B X iv s d := h.gb (gb_drewN (gb_refl _ _) n) (h.blk.drewN n) h.rb rfl rfl rfl (Int.le_refl _)
theorem MInv.alloc {w : World} {B X : Nat} {iv : List Value} {s : MSt} {d : MAd} (h : MInv w B X iv s d) (o : Obj) : MInv (w.alloc o) B X iv s d := h.gb (gb_alloc (gb_refl _ _) o) (h.blk.below ((Below.refl _ _).alloc (Nat.le_refl _) _)) h.rb rfl rfl rfl (Int.le_refl _)
theorem MInv.below {w w' : World} {B X : Nat} {iv : List Value} {s : MSt} {d : MAd} (h : MInv w B X iv s d) (hb : Below w.heap.size w w') : MInv w' B X iv s d := h.gb (gb_below hb) (h.blk.below hb) h.rb rfl rfl rfl (Int.le_refl _)
set_option maxHeartbeats 4000000 in
set_option maxRecDepth 100000 in
theorem memory_any {X B : Nat} {iv : List Value} {s : MSt} {d : MAd} (k dd a b n : Int) (l : Bool) (w : World) (h : MInv w B X iv s d) (hd : 0 ≤ dd ∧ dd < 8) (ha : 0 ≤ a ∧ a < 8) (hb : 0 ≤ b ∧ b < 8) (hn : -32768 ≤ n ∧ n ≤ 32767) :
    Calls Tryd.prog 69 #[.pointer (some ⟨X, 0, none⟩), .agg #[.int .i64 k, .int .i64 dd, .int .i64 a, .int .i64 b, .int .i64 n, .bool l]] w
      (DoPost w B X iv (memS s k dd a b n).1 (.int .i64 (memS s k dd a b n).2)) := by
  obtain ⟨n1, n2⟩ := hn
  have hlt := h.blk.lt
  have hBw : B ≤ w.heap.size := by have := h.bx; omega
  have hab := regAt_bd h.rb a
  obtain ⟨ra1, ra2⟩ := h.blk.reg (regAt_get h.blk ha.1 ha.2)
  have H := Lib.hid h
  have ext : ∀ {w' : World} {d' : MAd} {s' : MSt} {z : Int}, w.grownBy w' (some X) → MInv w' B X iv s' d' → DoPost w B X iv s' (.int .i64 z) (.returned (.int .i64 z)) w' := fun hg hm => ⟨rfl, gb_to_below hg H.out.bx hBw, _, hm⟩
  unfold memS
  have HAD := fun w h => address_any (X := X) (iv := iv) (s := s) (d := d) a n w h ha.1 ha.2 hab (by omega) (by omega) (by have := H.out.dl; omega)
  have HAD' := Lib.hid HAD
  clear HAD
  by_cases hc : (regAt s a).2 = true
  · rw [if_pos hc]
    rw [hc] at ra2
    clear hc
    go_enter Tryd.func69, Tryd.ntmps69
    go_wp2
    go_quiet (fail)
    go_wp2
    go_ret
    refine ext (gb_drewN (gb_alloc (gb_refl _ _) _) _) (H.out.gb (gb_drewN (gb_alloc (gb_refl _ _) _) _) ((H.out.blk.below ((Below.refl _ _).alloc (Nat.le_refl _) _)).drewN _) H.out.rb rfl rfl rfl (Int.le_refl _))
  · rw [if_neg hc]
    rw [Bool.not_eq_true] at hc
    rw [hc] at ra2
    by_cases hp : 0 ≤ (regAt s a).1 + n ∧ (regAt s a).1 + n < s.data.length
    · rw [if_pos hp]
      obtain ⟨p, hpp⟩ := Int.eq_ofNat_of_zero_le hp.1
      have hpl : p < s.data.length := by omega
      have hdp : s.data[p]? = some (s.data[p]'hpl) := List.getElem?_eq_getElem hpl
      obtain ⟨g, cur, hgA, hgB, hgX, hglt, hgg, hcs, hlc, hcm, htk, hc0, hc1⟩ := data_at H.out hdp
      have hq : (decide (0 ≤ (regAt s a).1 + n) && decide ((regAt s a).1 + n < s.data.length)) = true := by simp [hp.1, hp.2]
      have HQ := Lib.hid hq
      have hgd : s.data.getD p (0, false) = s.data[p]'hpl := by simp [List.getD, hdp]
      rw [hpp]
      simp only [Int.toNat_natCast]
      rw [hgd]
      obtain ⟨v, hv⟩ : ∃ v, s.data[p]'hpl = v := ⟨_, rfl⟩
      rw [hv] at hdp hc0 hc1 ⊢
      have hvb : N41 v.1 := H.out.db v (List.mem_of_getElem? hdp)
      have d0 : w.cell? ⟨g, p * 2, none⟩ = some (.int .i64 v.1) := (cell_of_row w g _ _ _ _ hgg).trans hc0
      have d1 : w.cell? ⟨g, p * 2 + 1, none⟩ = some (.bool v.2) := (cell_of_row w g _ _ _ _ hgg).trans hc1
      have c22 : w.cell? ⟨X, 22, none⟩ = some (.slice (some ⟨g, 0, none⟩) s.data.length d.dc) := by rw [← hgA]; exact H.out.blk.rest 0
      have hpI : (p : Int) < s.data.length := by omega
      have hdl := H.out.dl
      have HV := Lib.hid hvb
      have HPL := Lib.hid hpl
      have HGA := Lib.hid hgA
      have HPP := Lib.hid hpp
      have fzX : ∀ j, w.frozen? ⟨X, j, none⟩ = false := fun j => frozen_of_row _ _ _ _ _ H.out.blk.blk
      have fzg : ∀ j, w.frozen? ⟨g, j, none⟩ = false := fun j => frozen_of_row _ _ _ _ _ hgg
      obtain ⟨rd1, rd2⟩ := H.out.blk.reg (regAt_get H.out.blk hd.1 hd.2)
      obtain ⟨rb1, rb2⟩ := H.out.blk.reg (regAt_get H.out.blk hb.1 hb.2)
      clear hp hc hq hgd hv hdp hvb hcs hlc hcm htk hc0 hc1 hgg hpl hgA hpp
      by_cases hk : k = 14
      · subst hk
        rw [if_pos rfl]
        go_enter Tryd.func69, Tryd.ntmps69
        go_wp2
        go_quiet (fail)
        go_wp2_with fail
        refine (HAD'.out _ ((H.out.blk.below ((Below.refl _ _).alloc (Nat.le_refl _) _)).drewN _)).mono ?_
        rintro e w1 ⟨rfl, m1, rfl⟩
        rw [HQ.out, HPP.out]
        go_wp2
        obtain ⟨W, hW⟩ : ∃ W, (w.alloc (.cells #[.int .i64 14, .int .i64 dd, .int .i64 a, .int .i64 b, .int .i64 n, .bool l] 47)).drewN (nq + m1) = W := ⟨_, rfl⟩
        rw [hW]
        have hgr : w.grownBy W (some X) := by rw [← hW]; exact gb_drewN (gb_alloc (gb_refl _ _) _) _
        have hbl : Below w.heap.size w W := by rw [← hW]; exact below_dN ((Below.refl _ _).alloc (Nat.le_refl _) _) _
        have hbx : W.heap[w.heap.size]? = some (.cells #[.int .i64 14, .int .i64 dd, .int .i64 a, .int .i64 b, .int .i64 n, .bool l] 47 (0, 0)) := by rw [← hW]; exact heap_alloc_new w _
        clear hW
        have x1 : W.cell? ⟨w.heap.size, 1, none⟩ = some (.int .i64 dd) := cell_of_row _ _ 1 _ _ _ hbx
        have x3 : W.cell? ⟨w.heap.size, 3, none⟩ = some (.int .i64 b) := cell_of_row _ _ 3 _ _ _ hbx
        have y22 : W.cell? ⟨X, 22, none⟩ = some (.slice (some ⟨g, 0, none⟩) s.data.length d.dc) := (hbl.cell (p := ⟨X, 22, none⟩) hlt).trans c22
        have y0 : W.cell? ⟨g, p * 2, none⟩ = some (.int .i64 v.1) := (hbl.cell (p := ⟨g, p * 2, none⟩) hglt).trans d0
        have y1 : W.cell? ⟨g, p * 2 + 1, none⟩ = some (.bool v.2) := (hbl.cell (p := ⟨g, p * 2 + 1, none⟩) hglt).trans d1
        have z0 : W.cell? ⟨X, 6 + dd.toNat * 2, none⟩ = some (.int .i64 (regAt s dd).1) := (hbl.cell (p := ⟨X, 6 + dd.toNat * 2, none⟩) hlt).trans rd1
        have z1 : W.cell? ⟨X, 6 + dd.toNat * 2 + 1, none⟩ = some (.bool (regAt s dd).2) := (hbl.cell (p := ⟨X, 6 + dd.toNat * 2 + 1, none⟩) hlt).trans rd2
        have zf : ∀ j, W.frozen? ⟨X, j, none⟩ = false := fun j => (hbl.frozen (p := ⟨X, j, none⟩) hlt).trans (fzX j)
        have HBL := Lib.hid hbl
        have HGR := Lib.hid hgr
        clear hbl hgr hbx ra1 ra2 rd1 rd2 rb1 rb2 c22 d0 d1 fzX fzg
        go_still_tail 13, (by kernel_rfl)
        change wpList _ _ _ _ _ W.drew
        have hM : MInv W B X iv s d := H.out.gb HGR.out (H.out.blk.below HBL.out) H.out.rb rfl rfl rfl (Int.le_refl _)
        have HM := Lib.hid (hM.setReg dd.toNat (by omega) v HV.out).drew
        have HG2 := Lib.hid (gb_drew (gb_setCell (gb_setCell HGR.out (6 + dd.toNat * 2) (.int .i64 v.1)) (6 + dd.toNat * 2 + 1) (.bool v.2)))
        clear hM
        go_wp2
        go_ret
        exact ext HG2.out HM.out
      · rw [if_neg hk]
        have hk14 : (k == 14) = false := by simpa using hk
        have hrb := regAt_bd H.out.rb b
        have HRB := Lib.hid hrb
        clear hk hrb
        go_enter Tryd.func69, Tryd.ntmps69
        go_wp2
        go_quiet (fail)
        go_wp2_with fail
        refine (HAD'.out _ ((H.out.blk.below ((Below.refl _ _).alloc (Nat.le_refl _) _)).drewN _)).mono ?_
        rintro e w1 ⟨rfl, m1, rfl⟩
        rw [HQ.out, HPP.out]
        go_wp2
        obtain ⟨W, hW⟩ : ∃ W, (w.alloc (.cells #[.int .i64 k, .int .i64 dd, .int .i64 a, .int .i64 b, .int .i64 n, .bool l] 47)).drewN (nq + m1) = W := ⟨_, rfl⟩
        rw [hW]
        have hgr : w.grownBy W (some X) := by rw [← hW]; exact gb_drewN (gb_alloc (gb_refl _ _) _) _
        have hbl : Below w.heap.size w W := by rw [← hW]; exact below_dN ((Below.refl _ _).alloc (Nat.le_refl _) _) _
        have hbx : W.heap[w.heap.size]? = some (.cells #[.int .i64 k, .int .i64 dd, .int .i64 a, .int .i64 b, .int .i64 n, .bool l] 47 (0, 0)) := by rw [← hW]; exact heap_alloc_new w _
        clear hW
        have x3 : W.cell? ⟨w.heap.size, 3, none⟩ = some (.int .i64 b) := cell_of_row _ _ 3 _ _ _ hbx
        have y22 : W.cell? ⟨X, 22, none⟩ = some (.slice (some ⟨g, 0, none⟩) s.data.length d.dc) := (hbl.cell (p := ⟨X, 22, none⟩) hlt).trans c22
        have y0 : W.cell? ⟨g, p * 2, none⟩ = some (.int .i64 v.1) := (hbl.cell (p := ⟨g, p * 2, none⟩) hglt).trans d0
        have y1 : W.cell? ⟨g, p * 2 + 1, none⟩ = some (.bool v.2) := (hbl.cell (p := ⟨g, p * 2 + 1, none⟩) hglt).trans d1
        have z0 : W.cell? ⟨X, 6 + b.toNat * 2, none⟩ = some (.int .i64 (regAt s b).1) := (hbl.cell (p := ⟨X, 6 + b.toNat * 2, none⟩) hlt).trans rb1
        have z1 : W.cell? ⟨X, 6 + b.toNat * 2 + 1, none⟩ = some (.bool (regAt s b).2) := (hbl.cell (p := ⟨X, 6 + b.toNat * 2 + 1, none⟩) hlt).trans rb2
        have zf : ∀ j, W.frozen? ⟨g, j, none⟩ = false := fun j => (hbl.frozen (p := ⟨g, j, none⟩) hglt).trans (fzg j)
        have HBL := Lib.hid hbl
        have HGR := Lib.hid hgr
        clear hbl hgr hbx ra1 ra2 rd1 rd2 rb1 rb2 c22 d0 d1 fzX fzg
        go_still_tail 13, (by kernel_rfl)
        change wpList _ _ _ _ _ W.drew
        have hM : MInv W B X iv s d := H.out.gb HGR.out (H.out.blk.below HBL.out) H.out.rb rfl rfl rfl (Int.le_refl _)
        obtain ⟨hM2, hB2⟩ := hM.setData HPL.out (regAt s b) HRB.out HGA.out
        have HM := Lib.hid hM2.drew
        have HG2 := Lib.hid (((gb_to_below HGR.out H.out.bx hBw).trans hB2).drew)
        clear hM hM2 hB2
        go_wp2
        go_ret
        exact ⟨rfl, HG2.out, _, HM.out⟩
    · rw [if_neg hp]
      have hq : (decide (0 ≤ (regAt s a).1 + n) && decide ((regAt s a).1 + n < s.data.length)) = false := by
        rcases Classical.em (0 ≤ (regAt s a).1 + n) with q | q
        · have : ¬ (regAt s a).1 + n < s.data.length := fun q2 => hp ⟨q, q2⟩
          simp [this]
        · simp [q]
      have HQ := Lib.hid hq
      clear hq hp hc
      go_enter Tryd.func69, Tryd.ntmps69
      go_wp2
      go_quiet (fail)
      go_wp2_with fail
      refine (HAD'.out _ ((H.out.blk.below ((Below.refl _ _).alloc (Nat.le_refl _) _)).drewN _)).mono ?_
      rintro e w1 ⟨rfl, m1, rfl⟩
      rw [HQ.out]
      go_wp2
      go_ret
      refine ext (gb_drewN (gb_alloc (gb_refl _ _) _) _) (H.out.gb (gb_drewN (gb_alloc (gb_refl _ _) _) _) ((H.out.blk.below ((Below.refl _ _).alloc (Nat.le_refl _) _)).drewN _) H.out.rb rfl rfl rfl (Int.le_refl _))
end Go.Proofs.YtlekjnnofhjgjaaDoor
