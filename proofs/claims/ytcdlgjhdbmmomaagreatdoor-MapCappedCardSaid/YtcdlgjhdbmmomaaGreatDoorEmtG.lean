/- Emit's items, one by one: of what sort each is; how many bytes they take at most. -/
import Derived.Test.YtcdlgjhdbmmomaaGreatDoorEmtF
namespace Go.Proofs.YtcdlgjhdbmmomaaGreatDoor
open Go.RowKit
theorem chk_set {k k' d a b n n' : Int} {l l' : Bool} (h : chk k d a b n l = 0) (hk : 18 ≤ k ∧ k ≤ 21) (hk' : 18 ≤ k' ∧ k' ≤ 21) (hn : if l' = true then -32768 ≤ n' ∧ n' ≤ 32767 else -128 ≤ n' ∧ n' ≤ 127) : chk k' 0 a b n' l' = 0 := by
 obtain ⟨s, lo⟩ := tab_branch k hk; obtain ⟨s', lo'⟩ := tab_branch k' hk'; obtain ⟨-, h2, ⟨-, h3, h4⟩, -⟩ := chk_zero.1 h; have e1 : hasA 8 = true := by decide
 have e2 : hasB 8 = true := by decide
 have e3 : hasN 8 = true := by decide
 refine chk_zero.2 ⟨by omega, ?_, ⟨by omega, h3, h4⟩, ?_⟩
 · unfold formBad; rw [s', e1, e2, e3]; have : (longT k' == 0) = false := by simpa using lo'
   rw [this]; simp
 · unfold nOk; rw [s']
   cases l'
   · simp only [Bool.false_eq_true, if_false] at hn; simpa [inside_iff] using hn
   · simp only [if_true] at hn; simpa [inside_iff] using hn
theorem chk_jump {n : Int} {l : Bool} (hn : if l = true then -32768 ≤ n ∧ n ≤ 32767 else -128 ≤ n ∧ n ≤ 127) : chk 22 0 0 0 n l = 0 := by
 obtain ⟨s, lo⟩ := tab_22; have e3 : hasN 9 = true := by decide
 refine chk_zero.2 ⟨by omega, ?_, ⟨by omega, by omega, by omega⟩, ?_⟩
 · unfold formBad; rw [s, e3]; have : (longT 22 == 0) = false := by simpa using lo
   rw [this]; simp
 · unfold nOk; rw [s]
   cases l
   · simp only [Bool.false_eq_true, if_false] at hn; simpa [inside_iff] using hn
   · simp only [if_true] at hn; simpa [inside_iff] using hn
theorem chk_call {n : Int} (hn : -32768 ≤ n ∧ n ≤ 32767) : chk 23 0 0 0 n false = 0 := by
 obtain ⟨s, lo⟩ := tab_23; have e3 : hasN 10 = true := by decide
 refine chk_zero.2 ⟨by omega, ?_, ⟨by omega, by omega, by omega⟩, ?_⟩
 · unfold formBad; rw [s, e3]; simp
 · unfold nOk; rw [s]; simpa [inside_iff] using hn
theorem call_form {d a b n : Int} {l : Bool} (h : chk 23 d a b n l = 0) : d = 0 ∧ a = 0 ∧ b = 0 ∧ l = false := by
 obtain ⟨s, lo⟩ := tab_23; obtain ⟨-, h2, -, -⟩ := chk_zero.1 h; unfold formBad at h2; rw [s, lo] at h2; have e1 : hasD 10 = false := by decide
 have e2 : hasA 10 = false := by decide
 have e3 : hasB 10 = false := by decide
 rw [e1, e2, e3] at h2; simp at h2; obtain ⟨⟨⟨⟨h4, h5⟩, h6⟩, h7⟩, h8⟩ := h2; exact ⟨h4, h5, h6, h8⟩
theorem long_kind {k d a b n : Int} {l : Bool} (h : chk k d a b n l = 0) (hl : l = true) : 18 ≤ k ∧ k ≤ 22 := by
 obtain ⟨h1, h2, -, -⟩ := chk_zero.1 h
 have hlo : longT k ≠ 0 := by
  intro e; simp [formBad, hl, e] at h2
 have h0 : ∀ n : Fin 25, longT (n.val : Int) ≠ 0 → 18 ≤ n.val ∧ n.val ≤ 22 := by decide +kernel
 obtain ⟨q, rfl⟩ := Int.eq_ofNat_of_zero_le (show 0 ≤ k by omega); have := h0 ⟨q, by omega⟩ hlo; simp only at this; omega
theorem sizeK_kinds : (∀ k : Int, 18 ≤ k → k ≤ 21 → sizeK k false = 3 ∧ sizeK k true = 4) ∧ sizeK 22 false = 2 ∧ sizeK 22 true = 3 ∧ sizeK 23 false = 3 := by
 refine ⟨fun k h1 h2 => ?_, by decide, by decide, by decide⟩; have : k = 18 ∨ k = 19 ∨ k = 20 ∨ k = 21 := by omega
 rcases this with rfl | rfl | rfl | rfl <;> decide
inductive ItK (nB nF : Nat) (t : ItD) : Prop where
 | plain : t.blk = -1 → t.fn = -1 → t.i.chk = 0 → (t.i.k < 18 ∨ t.i.k = 24) → 0 ≤ t.old → ItK nB nF t
 | call : t.blk = -1 → 0 ≤ t.fn → t.fn < nF → t.i = ⟨23, 0, 0, 0, 0, false⟩ → 0 ≤ t.old → ItK nB nF t
 | jump (l : Bool) : 0 ≤ t.blk → t.blk < nB → t.fn = -1 → t.i = ⟨22, 0, 0, 0, 0, l⟩ → -1 ≤ t.old → ItK nB nF t
 | branch (k a b : Int) (l : Bool) : 0 ≤ t.blk → t.blk < nB → t.fn = -1 → t.i = ⟨k, 0, a, b, 0, l⟩ → 18 ≤ k → k ≤ 21 → chk k 0 a b 0 false = 0 → 0 ≤ t.old → ItK nB nF t
theorem ItK.le {nB nF : Nat} {t u : ItD} (h : ItK nB nF t) (hl : ItLe t u) : ItK nB nF u := by
 cases h with
 | plain h1 h2 h3 h4 h5 =>
  have e : u.i.l = t.i.l := by
   rcases Classical.em (u.i.l = t.i.l) with e | e
   · exact e
   · have := hl.ch e; omega
  have ei : u.i = t.i := by rw [hl.i, e]
  exact .plain (hl.blk.trans h1) (hl.fn.trans h2) (ei ▸ h3) (ei ▸ h4) (hl.old ▸ h5)
 | call h1 h2 h3 h4 h5 =>
  have e : u.i.l = t.i.l := by
   rcases Classical.em (u.i.l = t.i.l) with e | e
   · exact e
   · have := hl.ch e; omega
  have ei : u.i = t.i := by rw [hl.i, e]
  exact .call (hl.blk.trans h1) (hl.fn ▸ h2) (hl.fn ▸ h3) (ei.trans h4) (hl.old ▸ h5)
 | jump l h1 h2 h3 h4 h5 =>
  refine .jump u.i.l (hl.blk ▸ h1) (hl.blk ▸ h2) (hl.fn.trans h3) ?_ (hl.old ▸ h5); have := hl.i; rw [h4] at this; exact this
 | branch k a b l h1 h2 h3 h4 h5 h6 h7 h8 =>
  refine .branch k a b u.i.l (hl.blk ▸ h1) (hl.blk ▸ h2) (hl.fn.trans h3) ?_ h5 h6 h7 (hl.old ▸ h8); have := hl.i; rw [h4] at this; exact this
theorem ItK.chk {nB nF : Nat} {t : ItD} (h : ItK nB nF t) : t.i.chk = 0 := by
 cases h with
 | plain h1 h2 h3 h4 h5 => exact h3
 | call h1 h2 h3 h4 h5 =>
  rw [h4]; exact chk_call (n := 0) (by omega)
 | jump l h1 h2 h3 h4 h5 =>
  rw [h4]; exact chk_jump (n := 0) (l := l) (by split <;> omega)
 | branch k a b l h1 h2 h3 h4 h5 h6 h7 h8 =>
  rw [h4]; exact chk_set (n' := 0) (l' := l) h7 ⟨h5, h6⟩ ⟨h5, h6⟩ (by split <;> omega)
theorem ItK.lng {nB nF : Nat} {t : ItD} (h : ItK nB nF t) (hb : 0 ≤ t.blk) : ({ t.i with l := true } : Ins).chk = 0 := by
 cases h with
 | plain h1 h2 h3 h4 h5 => omega
 | call h1 h2 h3 h4 h5 => omega
 | jump l h1 h2 h3 h4 h5 =>
  rw [h4]; exact chk_jump (n := 0) (l := true) (by rw [if_pos rfl]; omega)
 | branch k a b l h1 h2 h3 h4 h5 h6 h7 h8 =>
  rw [h4]; exact chk_set (n' := 0) (l' := true) h7 ⟨h5, h6⟩ ⟨h5, h6⟩ (by rw [if_pos rfl]; omega)
inductive GrpB (m : Img) (gs : List (List FSp)) (i : Nat) (b : BlkD) (r : List FSp) (y : FSp) : Prop where
 | branch (j : Nat) (z : FSp) (rz : List FSp) (z' : FSp) (rz' : List FSp) : branchI y.2.i = true → b.ends = 4 → b.code = r.map (fun z => finPl m.funcs z.2) → b.last = ⟨y.2.i.k, 0, y.2.i.a, y.2.i.b, 0, false⟩ → b.dst = j → gs[j]? = some (z :: rz) → z.2.p = y.2.p + y.2.i.n → z.1 = b.fn → b.els = (i + 1 : Nat) → gs[i + 1]? = some (z' :: rz') → z'.2.p = y.2.p + y.2.z → z'.1 = b.fn → GrpB m gs i b r y
 | jump (j : Nat) (z : FSp) (rz : List FSp) : y.2.i.k = 22 → b.ends = 3 → b.code = r.map (fun z => finPl m.funcs z.2) → b.dst = j → gs[j]? = some (z :: rz) → z.2.p = y.2.p + y.2.i.n → z.1 = b.fn → GrpB m gs i b r y
 | stop : y.2.i.k ≤ 3 ∨ y.2.i.k = 24 → b.ends = 1 → b.code = (r ++ [y]).map (fun z => finPl m.funcs z.2) → GrpB m gs i b r y
 | fall (z' : FSp) (rz' : List FSp) : (4 ≤ y.2.i.k ∧ y.2.i.k < 18) ∨ y.2.i.k = 23 → b.ends = 2 → b.code = (r ++ [y]).map (fun z => finPl m.funcs z.2) → b.dst = (i + 1 : Nat) → gs[i + 1]? = some (z' :: rz') → z'.2.p = y.2.p + y.2.z → z'.1 = b.fn → GrpB m gs i b r y
theorem plainK_k {i : Ins} (h : PlainK i) : (4 ≤ i.k ∧ i.k < 18) ∨ i.k = 23 ∨ 24 < i.k := by
 unfold PlainK at h; rw [Bool.or_eq_false_iff, Bool.or_eq_false_iff] at h; obtain ⟨⟨d1, d2⟩, d3⟩ := h; unfold branchI at d1; unfold stopsI at d3; simp at d1 d2 d3; omega
section
variable {m : Img} {ld : Int → Bool} {bm : Int → Option Int} {S : List FSp} {gs : List (List FSp)} {d : FlowD}
theorem PgmF.chkS (h : PgmF m ld bm S gs d) {x : FSp} (hx : x ∈ S) : x.2.i.chk = 0 ∧ x.2.z = sizeK x.2.i.k x.2.i.l := by
 have hd := h.dec x hx; have h1 := decB_ok (show (decB m.text x.2.p).2.2 = 0 by rw [hd]); rw [hd] at h1; exact ⟨h1.1, h1.2.1⟩
theorem PgmF.grp (h : PgmF m ld bm S gs d) {i : Nat} {b : BlkD} (hb : d.blocks[i]? = some b) : ∃ (r : List FSp) (y : FSp), gs[i]? = some (r ++ [y]) ∧ (∀ z ∈ r, PlainK z.2.i) ∧ (∀ z ∈ r ++ [y], z ∈ S ∧ z.1 = b.fn) ∧ b.ats = (r ++ [y]).map (fun z => z.2.p) ∧ GrpB m gs i b r y := by
 obtain ⟨x, r, hg, e, bf, -, b3⟩ := h.blk hb; obtain ⟨r', y, hs, hp, hyS⟩ := h.snoc hg; have hfn := h.fnAll hg
 have hmem : ∀ z ∈ r' ++ [y], z ∈ S ∧ z.1 = b.fn := fun z hz => by
  rw [← hs] at hz; obtain ⟨j, hj⟩ := List.getElem?_of_mem hz; exact ⟨(h.spot hg hj).2.2.1, by rw [bf]; exact hfn z hz⟩
 have hy1 : y.1 = b.fn := (hmem y (by simp)).2; have hkk : 1 ≤ y.2.i.k ∧ y.2.i.k ≤ 24 := chk_kind (h.chkS hyS).1; refine ⟨r', y, by rw [← hs]; exact hg, hp, hmem, by rw [b3, hs], ?_⟩; obtain ⟨-, -, j3, j4, j5, j6⟩ := joinB_f bm (blkOf m (x :: r)); obtain ⟨g1, g2, -⟩ := joinB_g bm (blkOf m (x :: r)); rw [← e] at g1 g2 j3 j4 j5 j6; have hends := blk_ends m r' y hp; rw [← hs] at hends; obtain ⟨e1, e2, e3, e4⟩ := hends; rw [hs] at hg; rcases ends_cases y.2.i with c1 | ⟨c1, c2⟩ | ⟨c1, c2, c3⟩ | c1
 · obtain ⟨k1, k2, k3, k4, k5⟩ := e1 c1; obtain ⟨j, z, rz, t1, t2, t3, t4⟩ := h.to hyS (by rw [c1]; rfl)
   have hns : (stopsI y.2.i || y.2.i.k == 22) = false := by
    unfold branchI at c1; unfold stopsI; simp at c1 ⊢; omega
   obtain ⟨z', rz', u1, u2, u3, u4⟩ := h.next hg hns; refine .branch j z rz z' rz' c1 (j5.trans k1) (j4.trans k5) (j6.trans k2) ?_ t1 t2 (t3.trans hy1) ?_ u1 u2 (u3.trans hy1)
   · rw [g1, if_neg (by rw [k1]; decide), k3, t4]
     rfl
   · rw [g2, if_pos k1, k4, u4]
     rfl
 · obtain ⟨k1, k3, k5⟩ := e2 c1 c2; obtain ⟨j, z, rz, t1, t2, t3, t4⟩ := h.to hyS (by rw [c2]; simp); refine .jump j z rz c2 (j5.trans k1) (j4.trans k5) ?_ t1 t2 (t3.trans hy1); rw [g1, if_neg (by rw [k1]; decide), k3, t4]
   rfl
 · obtain ⟨k1, k5⟩ := e3 c1 c2 c3; refine .stop ?_ (j5.trans k1) (j4.trans (k5.trans (by rw [hs]))); unfold stopsI at c3; simpa using c3
 · obtain ⟨k1, k3, k5⟩ := e4 c1; have c1' := c1; unfold PlainK at c1'; rw [Bool.or_eq_false_iff, Bool.or_eq_false_iff] at c1'; obtain ⟨z', rz', u1, u2, u3, u4⟩ := h.next hg (by rw [c1'.2, c1'.1.2]; rfl); refine .fall z' rz' ?_ (j5.trans k1) (j4.trans (k5.trans (by rw [hs]))) ?_ u1 u2 (u3.trans hy1)
   · have := plainK_k c1; omega
   · rw [g1, if_neg (by rw [k1]; decide), k3, u4]
     rfl
theorem GrpB.code {i : Nat} {b : BlkD} {r : List FSp} {y : FSp} (h : GrpB m gs i b r y) (hr : ∀ z ∈ r, PlainK z.2.i) : ∃ g : List FSp, b.code = g.map (fun z => finPl m.funcs z.2) ∧ (∃ t, r ++ [y] = g ++ t) ∧ ∀ z ∈ g, z.2.i.k < 18 ∨ 23 ≤ z.2.i.k := by
 have hp : ∀ z ∈ r, z.2.i.k < 18 ∨ 23 ≤ z.2.i.k := fun z hz => by
  have := plainK_k (hr z hz); omega
 have hpy : (y.2.i.k < 18 ∨ 23 ≤ y.2.i.k) → ∀ z ∈ r ++ [y], z.2.i.k < 18 ∨ 23 ≤ z.2.i.k := fun hy z hz => by
  rcases List.mem_append.1 hz with hz | hz
  · exact hp z hz
  · rw [List.mem_singleton] at hz; rw [hz]; exact hy
 cases h with
 | branch j z rz z' rz' h1 h2 h3 => exact ⟨r, h3, ⟨[y], rfl⟩, hp⟩
 | jump j z rz h1 h2 h3 => exact ⟨r, h3, ⟨[y], rfl⟩, hp⟩
 | stop h1 h2 h3 => exact ⟨r ++ [y], h3, ⟨[], by simp⟩, hpy (by omega)⟩
 | fall z' rz' h1 h2 h3 => exact ⟨r ++ [y], h3, ⟨[], by simp⟩, hpy (by omega)⟩
theorem PgmF.codeK (h : PgmF m ld bm S gs d) {i : Nat} {b : BlkD} (hb : d.blocks[i]? = some b) {k : Nat} {c : Ins} (hc : b.code[k]? = some c) :
 ∃ y : FSp, y ∈ S ∧ b.ats[k]? = some y.2.p ∧ c = finPl m.funcs y.2 ∧ (codeIt b k c).old = y.2.p ∧ sizeK (codeIt b k c).i.k (codeIt b k c).i.l = y.2.z ∧ ItK d.blocks.length d.firsts.length (codeIt b k c) ∧ (codeIt b k c).blk = -1 := by
 obtain ⟨r, y0, hg, hr, hm, ha, hG⟩ := h.grp hb; obtain ⟨g, e1, ⟨t, e2⟩, e3⟩ := hG.code hr; rw [e1, List.getElem?_map, Option.map_eq_some_iff] at hc; obtain ⟨y, hy, rfl⟩ := hc
 have hy2 : (r ++ [y0])[k]? = some y := by
  rw [e2, List.getElem?_append_left (List.getElem?_eq_some_iff.1 hy).1]; exact hy
 have hyS := (hm y (mG' hy2)).1; have hat : b.ats[k]? = some y.2.p := by rw [ha, List.getElem?_map, hy2]; rfl
 have hgd : b.ats.getD k 0 = y.2.p := by rw [List.getD_eq_getElem?_getD, hat]; rfl
 obtain ⟨c1, c2⟩ := h.chkS hyS; have hk := e3 y (mG' hy); have hk2 := chk_kind c1; have hp := h.posb hyS; refine ⟨y, hyS, hat, rfl, ?_⟩
 by_cases h23 : y.2.i.k = 23
 · have hcc : b.code[k]? = some (finPl m.funcs y.2) := by rw [e1, List.getElem?_map, hy]; rfl
   obtain ⟨p, yi, z, q, f, n1, n2, n3, n4, n5⟩ := h.named hb hcc (by unfold finPl; rw [if_pos h23]; exact h23); have hql := (List.getElem?_eq_some_iff.1 n4).1; have hkk : (finPl m.funcs y.2).k = 23 := by unfold finPl; rw [if_pos h23]; exact h23
   have c1' : chk 23 y.2.i.d y.2.i.a y.2.i.b y.2.i.n y.2.i.l = 0 := by rw [← h23]; exact c1
   obtain ⟨f1, f2, f3, f4⟩ := call_form c1'
   have hi : ({ finPl m.funcs y.2 with n := 0 } : Ins) = ⟨23, 0, 0, 0, 0, false⟩ := by
    unfold finPl; rw [if_pos h23]; show (⟨y.2.i.k, y.2.i.d, y.2.i.a, y.2.i.b, 0, y.2.i.l⟩ : Ins) = _; rw [h23, f1, f2, f3, f4]
   unfold codeIt; rw [if_pos hkk, hi, hgd]; refine ⟨rfl, ?_, .call rfl ?_ ?_ rfl (show 0 ≤ y.2.p by omega), rfl⟩
   · show sizeK 23 false = y.2.z; rw [c2, h23, f4]
   · simp only; omega
   · simp only; rw [n3, h.firsts.1]; omega
 · have hf : finPl m.funcs y.2 = y.2.i := by unfold finPl; rw [if_neg h23]
   rw [hf]; unfold codeIt; rw [if_neg h23, hgd]; exact ⟨rfl, c2.symm, .plain rfl rfl c1 (by simp only; omega) (by simp only; omega), rfl⟩
theorem mem_codeIts {b : BlkD} {t : ItD} (h : t ∈ codeIts b) : ∃ (k : Nat) (c : Ins), b.code[k]? = some c ∧ t = codeIt b k c := by
 unfold codeIts at h; obtain ⟨k, hk⟩ := List.getElem?_of_mem h; rw [List.getElem?_mapIdx, Option.map_eq_some_iff] at hk; obtain ⟨c, hc, rfl⟩ := hk; exact ⟨k, c, hc, rfl⟩
theorem PgmF.atsNN (h : PgmF m ld bm S gs d) {i : Nat} {b : BlkD} (hb : d.blocks[i]? = some b) (k : Nat) : 0 ≤ b.ats.getD k 0 := by
 obtain ⟨r, y, -, -, hm, ha, -⟩ := h.grp hb; rw [List.getD_eq_getElem?_getD]; rcases hk : b.ats[k]? with _ | p
 · exact Int.le_refl _
 · rw [ha, List.getElem?_map, Option.map_eq_some_iff] at hk; obtain ⟨z, hz, rfl⟩ := hk; have := h.posb (hm z (mG' hz)).1; show 0 ≤ z.2.p; omega
theorem PgmF.atsLe (h : PgmF m ld bm S gs d) {i : Nat} {b : BlkD} (hb : d.blocks[i]? = some b) (k : Nat) : b.ats.getD k 0 ≤ m.text.length := by
 obtain ⟨r, y, -, -, hm, ha, -⟩ := h.grp hb; rw [List.getD_eq_getElem?_getD]; rcases hk : b.ats[k]? with _ | p
 · simp
 · rw [ha, List.getElem?_map, Option.map_eq_some_iff] at hk; obtain ⟨z, hz, rfl⟩ := hk; have := h.posb (hm z (mG' hz)).1; show z.2.p ≤ _; omega
theorem PgmF.oldLe (h : PgmF m ld bm S gs d) {i : Nat} {b : BlkD} (hb : d.blocks[i]? = some b) (next : Int) : ∀ t ∈ blkIts b next, t.old ≤ m.text.length := by
 intro t ht; unfold blkIts at ht; rcases List.mem_append.1 ht with ht | ht
 · obtain ⟨k, c, hc, rfl⟩ := mem_codeIts ht; obtain ⟨y, hy, -, -, ho, -⟩ := h.codeK hb hc; have := h.posb hy; rw [ho]; omega
 · have ha := h.atsLe hb b.code.length
   have hj : ∀ (i : Ins) (q l : Int), (⟨i, q, -1, -1, l, 0⟩ : ItD).old ≤ m.text.length := fun i q l => by
    show (-1 : Int) ≤ _; omega
   unfold tailIts at ht
   split at ht
   · split at ht
     · cases ht
     · rw [List.mem_singleton] at ht; subst ht; exact hj _ _ _
   · split at ht
     · split at ht
       · cases ht
       · rw [List.mem_singleton] at ht; subst ht; exact ha
     · split at ht
       · split at ht
         · rw [List.mem_singleton] at ht; subst ht; exact ha
         · rcases List.mem_cons.1 ht with rfl | ht
           · exact ha
           · split at ht
             · cases ht
             · rw [List.mem_singleton] at ht; subst ht; exact hj _ _ _
       · cases ht
theorem PgmF.tailK (h : PgmF m ld bm S gs d) {i : Nat} {b : BlkD} (hb : d.blocks[i]? = some b) (next : Int) : ∀ t ∈ tailIts b next, ItK d.blocks.length d.firsts.length t := by
 have hfit := h.fit hb; have ha := h.atsNN hb b.code.length; obtain ⟨r, y, -, -, hm, -, hG⟩ := h.grp hb; intro t ht; unfold tailIts at ht
 cases hG with
 | branch j z rz z' rz' h1 h2 h3 h4 =>
  rw [if_neg (by omega), if_neg (by omega), if_pos h2] at ht; obtain ⟨d1, d2, -⟩ := hfit.dst (by omega); obtain ⟨l1, l2, -⟩ := hfit.els h2; obtain ⟨c1, -⟩ := h.chkS (hm y (by simp)).1; have hk : 18 ≤ y.2.i.k ∧ y.2.i.k ≤ 21 := by unfold branchI at h1; simpa using h1
  have hc0 : ∀ k' : Int, 18 ≤ k' ∧ k' ≤ 21 → chk k' 0 y.2.i.a y.2.i.b 0 false = 0 := fun k' hk' => chk_set c1 hk hk' (by rw [if_neg (by decide)]; omega)
  have hop : 18 ≤ oppK y.2.i.k ∧ oppK y.2.i.k ≤ 21 := by unfold oppK; repeat' split <;> omega
  split at ht
  · rw [List.mem_singleton] at ht; subst ht; refine .branch (oppK y.2.i.k) y.2.i.a y.2.i.b false l1 l2 rfl ?_ hop.1 hop.2 (hc0 _ hop) ha; simp only [h4]
  · rw [List.mem_cons] at ht; rcases ht with rfl | ht
    · exact .branch y.2.i.k y.2.i.a y.2.i.b false d1 d2 rfl h4 hk.1 hk.2 (hc0 _ hk) ha
    · split at ht
      · cases ht
      · rw [List.mem_singleton] at ht; subst ht; exact .jump false l1 l2 rfl rfl (by simp)
 | jump j z rz h1 h2 h3 =>
  rw [if_neg (by omega), if_pos h2] at ht; obtain ⟨d1, d2, -⟩ := hfit.dst (by omega)
  split at ht
  · cases ht
  · rw [List.mem_singleton] at ht; subst ht; exact .jump false d1 d2 rfl rfl (by simp only; omega)
 | stop h1 h2 h3 =>
  rw [if_neg (by omega), if_neg (by omega), if_neg (by omega)] at ht
  cases ht
 | fall z' rz' h1 h2 h3 =>
  rw [if_pos h2] at ht; obtain ⟨d1, d2, -⟩ := hfit.dst (by omega)
  split at ht
  · cases ht
  · rw [List.mem_singleton] at ht; subst ht; exact .jump false d1 d2 rfl rfl (by simp)
theorem PgmF.itK (h : PgmF m ld bm S gs d) {i : Nat} {b : BlkD} (hb : d.blocks[i]? = some b) (next : Int) : ∀ t ∈ blkIts b next, ItK d.blocks.length d.firsts.length t := by
 intro t ht; unfold blkIts at ht; rcases List.mem_append.1 ht with ht | ht
 · obtain ⟨k, c, hc, rfl⟩ := mem_codeIts ht; obtain ⟨-, -, -, -, -, -, hk, -⟩ := h.codeK hb hc; exact hk
 · exact h.tailK hb next t ht
def wT (t : ItD) : Nat := if 0 ≤ t.blk then (sizeK t.i.k true).toNat else (sizeK t.i.k t.i.l).toNat
def gsz (g : List FSp) : Nat := (g.map fun y => y.2.z.toNat).sum
theorem PgmF.codeW (h : PgmF m ld bm S gs d) {i : Nat} {b : BlkD} (hb : d.blocks[i]? = some b) {g : List FSp} (hg : ∃ r, gs[i]? = some (g ++ r)) (hc : b.code = g.map (fun z => finPl m.funcs z.2)) : ((codeIts b).map wT).sum = gsz g := by
 unfold gsz
 congr 1
 apply List.ext_getElem?; intro k; rw [List.getElem?_map, List.getElem?_map]; rcases hk : g[k]? with _ | y
 · have : (codeIts b)[k]? = none := by
    unfold codeIts; rw [List.getElem?_mapIdx, hc, List.getElem?_map, hk]
    rfl
   rw [this]
   rfl
 · have hcc : b.code[k]? = some (finPl m.funcs y.2) := by rw [hc, List.getElem?_map, hk]; rfl
   have : (codeIts b)[k]? = some (codeIt b k (finPl m.funcs y.2)) := by
    unfold codeIts; rw [List.getElem?_mapIdx, hcc]
    rfl
   rw [this]; obtain ⟨y', -, k2, -, -, k5, -, k7⟩ := h.codeK hb hcc; obtain ⟨r, hr⟩ := hg; obtain ⟨r0, y0, q1, -, -, q4, -⟩ := h.grp hb; rw [hr] at q1; injection q1 with q1; rw [q4, ← q1, List.getElem?_map, List.getElem?_append_left (List.getElem?_eq_some_iff.1 hk).1, hk] at k2; have hp : y.2.p = y'.2.p := by simpa using k2
   have e : wT (codeIt b k (finPl m.funcs y.2)) = y.2.z.toNat := by
    unfold wT; rw [if_neg (by omega)]; have hyS := (h.spot hr (j := k) (x := y) (by rw [List.getElem?_append_left (List.getElem?_eq_some_iff.1 hk).1]; exact hk)).2.2.1; obtain ⟨c1, c2⟩ := h.chkS hyS
    congr 1
    unfold codeIt
    by_cases h23 : y.2.i.k = 23
    · have e1 : (finPl m.funcs y.2).k = 23 := by unfold finPl; rw [if_pos h23]; exact h23
      rw [if_pos e1]; show sizeK (finPl m.funcs y.2).k (finPl m.funcs y.2).l = _; unfold finPl; rw [if_pos h23, c2]
    · have hf : finPl m.funcs y.2 = y.2.i := by unfold finPl; rw [if_neg h23]
      rw [hf, if_neg h23, c2]
   show some (wT _) = some y.2.z.toNat; rw [e]
theorem gsz_app (a b : List FSp) : gsz (a ++ b) = gsz a + gsz b := by simp [gsz]
theorem PgmF.blkW (h : PgmF m ld bm S gs d) {i : Nat} {b : BlkD} (hb : d.blocks[i]? = some b) (next : Int) : ∃ g, gs[i]? = some g ∧ ((blkIts b next).map wT).sum ≤ 4 * gsz g := by
 obtain ⟨r, y, hg, hr, hm, ha, hG⟩ := h.grp hb; refine ⟨r ++ [y], hg, ?_⟩; obtain ⟨c1, c2⟩ := h.chkS (hm y (by simp)).1; have hp := h.posb (hm y (by simp)).1; have hy1 : gsz [y] = y.2.z.toNat := by simp [gsz]
 obtain ⟨z1, z2, z3, z4⟩ := sizeK_kinds
 have hj : ∀ (q o l : Int), 0 ≤ q → wT ⟨jmpI, q, -1, o, l, 0⟩ = 3 := fun q o l hq => by
  unfold wT; rw [if_pos hq]; show (sizeK 22 true).toNat = 3; rw [z3]
  rfl
 have hbr : ∀ (k a b q o l : Int), 0 ≤ q → 18 ≤ k → k ≤ 21 → wT ⟨⟨k, 0, a, b, 0, false⟩, q, -1, o, l, 0⟩ = 4 := fun k a b q o l hq h1 h2 => by
  unfold wT; rw [if_pos hq]; show (sizeK k true).toNat = 4; rw [(z1 k h1 h2).2]
  rfl
 have hfit := h.fit hb; unfold blkIts; rw [List.map_append, List.sum_append]; rw [gsz_app, hy1]
 cases hG with
 | branch j z rz z' rz' h1 h2 h3 h4 =>
  have hk : 18 ≤ y.2.i.k ∧ y.2.i.k ≤ 21 := by unfold branchI at h1; simpa using h1
  have hop : 18 ≤ oppK y.2.i.k ∧ oppK y.2.i.k ≤ 21 := by unfold oppK; repeat' split <;> omega
  rw [h.codeW hb ⟨[y], hg⟩ h3]; obtain ⟨d1, d2, -⟩ := hfit.dst (by omega); obtain ⟨l1, l2, -⟩ := hfit.els h2
  have hz : 3 ≤ y.2.z := by
   rw [c2]; rcases hl : y.2.i.l with _ | _
   · rw [(z1 _ hk.1 hk.2).1]; omega
   · rw [(z1 _ hk.1 hk.2).2]; omega
  have ht : ((tailIts b next).map wT).sum ≤ 7 := by
   unfold tailIts; rw [if_neg (by omega), if_neg (by omega), if_pos h2, h4]
   split
   · simp only [List.map_cons, List.map_nil, List.sum_cons, List.sum_nil]; rw [hbr _ _ _ _ _ _ l1 hop.1 hop.2]; omega
   · simp only [List.map_cons, List.sum_cons]; rw [hbr _ _ _ _ _ _ d1 hk.1 hk.2]
     split
     · simp
     · simp only [List.map_cons, List.map_nil, List.sum_cons, List.sum_nil]; rw [hj _ _ _ l1]; omega
  omega
 | jump j z rz h1 h2 h3 =>
  rw [h.codeW hb ⟨[y], hg⟩ h3]; obtain ⟨d1, d2, -⟩ := hfit.dst (by omega)
  have ht : ((tailIts b next).map wT).sum ≤ 3 := by
   unfold tailIts; rw [if_neg (by omega), if_pos h2]
   split
   · simp
   · simp only [List.map_cons, List.map_nil, List.sum_cons, List.sum_nil]; rw [hj _ _ _ d1]; omega
  omega
 | stop h1 h2 h3 =>
  rw [h.codeW hb ⟨[], by rw [List.append_nil]; exact hg⟩ h3, gsz_app, hy1]
  have ht : ((tailIts b next).map wT).sum = 0 := by
   unfold tailIts; rw [if_neg (by omega), if_neg (by omega), if_neg (by omega)]
   rfl
  omega
 | fall z' rz' h1 h2 h3 =>
  rw [h.codeW hb ⟨[], by rw [List.append_nil]; exact hg⟩ h3, gsz_app, hy1]; obtain ⟨d1, d2, -⟩ := hfit.dst (by omega)
  have ht : ((tailIts b next).map wT).sum ≤ 3 := by
   unfold tailIts; rw [if_pos h2]
   split
   · simp
   · simp only [List.map_cons, List.map_nil, List.sum_cons, List.sum_nil]; rw [hj _ _ _ d1]; omega
  omega
end
end Go.Proofs.YtcdlgjhdbmmomaaGreatDoor
