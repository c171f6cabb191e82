/- Recover, walked: where it finds fault. -/
import Derived.Test.YtokbgdlenbhklaaDoorEmtM
import Derived.Test.YtokbgdlenbhklaaDoorRegX
import Derived.Deep.DeepCutAuto
import Derived.Deep.CutBlock
import Derived.Deep.QuietTactic
import Derived.BigQuiet
import Derived.IntWalk
import Derived.Test.YtokbgdlenbhklaaDoorFlowM
import Derived.Deep.LoopGhost
namespace Go.Proofs.YtokbgdlenbhklaaDoor
open Go.RowKit Go.Deep
theorem infoItem : (Tryd.prog.info? 138).map (fun i => (i.zero, i.size, i.bytes)) = some (some (.agg #[.int .i64 0, .int .i64 0, .int .i64 0, .int .i64 0, .int .i64 0, .bool false, .int .i64 0, .int .i64 0, .int .i64 0, .int .i64 0, .int .i64 0]), 11, 88) := by kernel_rfl
set_option maxRecDepth 100000 in
theorem opposite_any (k : Int) (w : World) (h : 18 ≤ k ∧ k ≤ 21) : Calls Tryd.prog 55 #[.int .i64 k] w fun e w' => e = .returned (.int .i64 (oppK k)) ∧ w' = w := by
 have h4 : k = 18 ∨ k = 19 ∨ k = 20 ∨ k = 21 := by omega
 have hix : ∀ (j : Nat) (x : Int), ([0, 0, 0, 0, 0, 0, 0, 0, 0, 0, 0, 0, 0, 0, 0, 0, 0, 0, 19, 18, 21, 20] : List Int)[j]? = some x → (18 ≤ j) → (Instr.index 170 (.agg #[.int .i64 0, .int .i64 0, .int .i64 0, .int .i64 0, .int .i64 0, .int .i64 0, .int .i64 0, .int .i64 0, .int .i64 0, .int .i64 0, .int .i64 0, .int .i64 0, .int .i64 0, .int .i64 0, .int .i64 0, .int .i64 0, .int .i64 0, .int .i64 0, .int .i64 19, .int .i64 18, .int .i64 21, .int .i64 20]) (.int .i64 j)).run Tryd.prog w = .ok (.int .i64 x) w := by
  intro j x hx hj; have hl := (List.getElem?_eq_some_iff.1 hx).1; simp only [List.length_cons, List.length_nil] at hl; have : j = 18 ∨ j = 19 ∨ j = 20 ∨ j = 21 := by omega
  rcases this with rfl | rfl | rfl | rfl
  all_goals
   simp only [List.getElem?_cons_succ, List.getElem?_cons_zero, Option.some.injEq] at hx; subst hx
   rfl
 have h18 := hix 18 19 rfl (by decide); have h19 := hix 19 18 rfl (by decide); have h20 := hix 20 21 rfl (by decide); have h21 := hix 21 20 rfl (by decide); simp only [Int.cast_ofNat_Int] at h18 h19 h20 h21; clear hix; rcases h4 with rfl | rfl | rfl | rfl
 all_goals
  go_enter Tryd.func55, Tryd.ntmps55
  go_wp2
  go_ret
  exact ⟨rfl, rfl⟩
set_option maxHeartbeats 4000000 in
set_option maxRecDepth 100000 in
theorem address_any {W0 w : World} {X : Nat} {m : Img} {v : ImgV} {d : FlowD} {xA yA zA : Option Addr} {xc yc zc : Nat} {its : List ItD} {iA : Option Addr} {ic fg bg : Nat} {fs bs : List Int} (h : MkM W0 w X m v d xA yA zA xc yc zc its iA ic fg bg fs bs) (j : Nat) (size : Int) :
 Calls Tryd.prog 57 #[.pointer (some ⟨X, 0, none⟩), .int .i64 j, .int .i64 size] w fun e w' => e = .returned (.int .i64 (addrK its size j)) ∧ w' = w := by
 obtain ⟨R, hR⟩ : ∃ z, addrK its size (j : Int) = z := ⟨_, rfl⟩
 rw [hR]; unfold addrK at hR; have x9 := h.blk.cell 9 rfl; have xl := h.blk.lt; obtain ⟨ni, hni⟩ : ∃ z, its.length = z := ⟨_, rfl⟩
 rw [hni] at x9 hR
 by_cases hj : j < ni
 · have hjI : (j : Int) < (ni : Int) := by omega
   rw [if_pos hjI] at hR; have ht : its[j]? = some (its[j]'(by omega)) := List.getElem?_eq_getElem _; obtain ⟨t, hte⟩ : ∃ z, its[j]'(by omega) = z := ⟨_, rfl⟩
   rw [hte] at ht; obtain ⟨gi, rfl, hgl, hg0, hc⟩ := h.item ht; have c10 := (hc 10 _ rfl).1; have hcap : ni ≤ ic := by have := own_capG h.its; omega
   have hp : t.pos = R := by
    rw [← hR]; unfold posAt; rw [Int.toNat_natCast, ht]
    rfl
   rw [hp] at c10; have hj0 : (0 : Int) ≤ (j : Int) := by omega
   have hw := Lib.hid h; clear h ht hte hc hp hR hni
   go_enter Tryd.func57, Tryd.ntmps57
   go_wp2
   go_ret
   exact ⟨rfl, rfl⟩
 · have hjI : ¬ (j : Int) < (ni : Int) := by omega
   rw [if_neg hjI] at hR; clear h hni
   go_enter Tryd.func57, Tryd.ntmps57
   go_wp2
   go_ret
   exact ⟨rfl, rfl⟩
def AddPost (Ts : List TypeId) (w W0 : World) (X : Nat) (m : Img) (v : ImgV) (d : FlowD) (xA yA zA : Option Addr) (xc yc zc : Nat) (its : List ItD) (fg bg : Nat) (fs bs : List Int) (e : Ending) (w' : World) : Prop :=
 e = .returned (.tuple #[]) ∧ KeepT Ts w w' ∧ ∃ (iA : Option Addr) (ic : Nat), MkM W0 w' X m v d xA yA zA xc yc zc its iA ic fg bg fs bs
set_option maxHeartbeats 4000000 in
set_option maxRecDepth 100000 in
theorem add_any {W0 w : World} {X : Nat} {m : Img} {v : ImgV} {d : FlowD} {xA yA zA : Option Addr} {xc yc zc : Nat} {its : List ItD} {iA : Option Addr} {ic fg bg : Nat} {fs bs : List Int} (h : MkM W0 w X m v d xA yA zA xc yc zc its iA ic fg bg fs bs) (hl : its.length ≤ 1000000) (k dd a b n : Int) (l : Bool) (bk fnn old line : Int) :
 Calls Tryd.prog 54 #[.pointer (some ⟨X, 0, none⟩), .agg #[.int .i64 k, .int .i64 dd, .int .i64 a, .int .i64 b, .int .i64 n, .bool l], .int .i64 bk, .int .i64 fnn, .int .i64 old, .int .i64 line] w (AddPost [138, 92] w W0 X m v d xA yA zA xc yc zc (its ++ [⟨⟨k, dd, a, b, n, l⟩, bk, fnn, old, line, 0⟩]) fg bg fs bs) := by
 have HPO : Hid (∀ e w' iA ic, e = .returned (.tuple #[]) → KeepT [138, 92] w w' → MkM W0 w' X m v d xA yA zA xc yc zc (its ++ [⟨⟨k, dd, a, b, n, l⟩, bk, fnn, old, line, 0⟩]) iA ic fg bg fs bs → AddPost [138, 92] w W0 X m v d xA yA zA xc yc zc (its ++ [⟨⟨k, dd, a, b, n, l⟩, bk, fnn, old, line, 0⟩]) fg bg fs bs e w') := Lib.hid fun e w' iA ic h1 hk h2 => ⟨h1, hk, iA, ic, h2⟩
 obtain ⟨ni, hni⟩ : ∃ z, its.length = z := ⟨_, rfl⟩
 have HNI := Lib.hid hni; have HM := Lib.hid h; have hs0 := h.bel.size; rw [hni] at hl; clear h hni
 go_enter Tryd.func54, Tryd.ntmps54
 go_upto_region 1 with fail
 obtain ⟨W1, hW1⟩ : ∃ q, w.alloc (.cells #[.int .i64 k, .int .i64 dd, .int .i64 a, .int .i64 b, .int .i64 n, .bool l] 61) = q := ⟨_, rfl⟩
 rw [hW1]; have hb1 : Below w.heap.size w W1 := by rw [← hW1]; exact (Below.refl _ _).alloc (Nat.le_refl _) _
 have hi1 : Blk W1 w.heap.size 61 [.int .i64 k, .int .i64 dd, .int .i64 a, .int .i64 b, .int .i64 n, .bool l] := by rw [← hW1]; exact Blk.new w _ _
 have HM1 := Lib.hid (HM.out.below hb1); have HI1 := Lib.hid hi1; have hs1 := hb1.size; have HK1 : Hid (KeepT [138, 92] w W1) := Lib.hid (KeepT.below hb1); have x9 := HM1.out.blk.cell 9 rfl; rw [HNI.out] at x9; have xl := HM1.out.blk.lt; have i0 := hi1.cell 0 rfl; have i1 := hi1.cell 1 rfl; have i2 := hi1.cell 2 rfl; have i3 := hi1.cell 3 rfl; have i4 := hi1.cell 4 rfl; have i5 := hi1.cell 5 rfl; have il := hi1.lt; clear hW1 hb1 hi1
 refine wp_region_W (fun w' => w'.cell? ⟨X, 9, none⟩ = some (.slice iA ni ic) ∧ w'.cell? ⟨w.heap.size, 0, none⟩ = some (.int .i64 k) ∧ w'.cell? ⟨w.heap.size, 1, none⟩ = some (.int .i64 dd) ∧ w'.cell? ⟨w.heap.size, 2, none⟩ = some (.int .i64 a) ∧ w'.cell? ⟨w.heap.size, 3, none⟩ = some (.int .i64 b) ∧ w'.cell? ⟨w.heap.size, 4, none⟩ = some (.int .i64 n) ∧ w'.cell? ⟨w.heap.size, 5, none⟩ = some (.bool l)) 15 (by kernel_rfl) (by (try dsimp only); go_keep) (fun hHeld => ?_); refine wpW_q 0 hHeld ?_; (try simp only [putE]); refine wpW_q 1 hHeld ?_; (try simp only [putE]); refine wpW_q 2 hHeld ?_
 (try simp only [putE]); refine wpW_q 3 hHeld ?_; (try simp only [putE]); refine wpW_q 4 hHeld ?_; (try simp only [putE]); refine wpW_q 5 hHeld ?_; (try simp only [putE]); refine wpW_q 6 hHeld ?_; (try simp only [putE]); refine wpW_q 7 hHeld ?_; (try simp only [putE]); refine wpW_q 8 hHeld ?_; (try simp only [putE]); refine wpW_q 9 hHeld ?_; (try simp only [putE]); refine wpW_q 10 hHeld ?_; (try simp only [putE]); refine wpW_one 11 rfl (by kernel_rfl) (fun K hK => ?_)
 go_simp
 have hblA : Below W1.heap.size W1 (W1.drew.alloc (.cells #[.int .i64 k, .int .i64 dd, .int .i64 a, .int .i64 b, .int .i64 n, .bool l, .int .i64 bk, .int .i64 fnn, .int .i64 old, .int .i64 line, .int .i64 0] 138)) := (Below.refl _ _).drew.alloc (Nat.le_refl _) _; have hMA := HM1.out.below hblA; have hiA := HI1.out.keep hblA; have a9 := hMA.blk.cell 9 rfl; have a0 := hiA.cell 0 rfl; have a1 := hiA.cell 1 rfl; have a2 := hiA.cell 2 rfl; have a3 := hiA.cell 3 rfl; have a4 := hiA.cell 4 rfl; have a5 := hiA.cell 5 rfl; rw [HNI.out] at a9
 refine hK.out _ _ (by (try dsimp only); exact ⟨a9, a0, a1, a2, a3, a4, a5⟩) (fun hHeld => ?_); clear hK K; (try simp only [putE]); refine wpW_one 12 rfl (by kernel_rfl) (fun K hK => ?_)
 refine step_app_one rfl _ _ 90 138 11 88 _ Tryd.underlying90 infoItem rfl (by decide) rfl W0.heap.size _ ni _ rfl (by have := hMA.its; rw [HNI.out] at this; exact this) W1.heap.size 1 rfl [.int .i64 k, .int .i64 dd, .int .i64 a, .int .i64 b, .int .i64 n, .bool l, .int .i64 bk, .int .i64 fnn, .int .i64 old, .int .i64 line, .int .i64 0] 138 (0, 0) (heap_alloc_new W1.drew _) rfl (by simp [Value.oneCell']) (by omega) (by omega) (by simp; omega) (W1.heap.size + 1) (by simp) (fun g3 c3 w3 ho3 hgr3 hat3 hlt3 => ?_)
 have hty3 : ∀ q, (Value.slice iA ni ic).ownBlock = some q → TypB (W1.drew.alloc (.cells #[.int .i64 k, .int .i64 dd, .int .i64 a, .int .i64 b, .int .i64 n, .bool l, .int .i64 bk, .int .i64 fnn, .int .i64 old, .int .i64 line, .int .i64 0] 138)) q 138 := fun q e => own_typ (by have := hMA.its; rw [HNI.out] at this; exact this) e
 have hx3 : Blk w3 X 92 _ := hMA.blk.keepT hgr3 hty3 (by decide); rw [HNI.out] at hx3; have hi3 := hiA.keepT hgr3 hty3 (by decide); have b9 := hx3.cell 9 rfl; have b0 := hi3.cell 0 rfl; have b1 := hi3.cell 1 rfl; have b2 := hi3.cell 2 rfl; have b3 := hi3.cell 3 rfl; have b4 := hi3.cell 4 rfl; have b5 := hi3.cell 5 rfl; have bf := hx3.free 9; have bl := hx3.lt; refine hK.out _ _ (by (try dsimp only); exact ⟨b9, b0, b1, b2, b3, b4, b5⟩) (fun hHeld => ?_); clear hK K; (try simp only [putE]); refine wpW_one 13 rfl (by kernel_rfl) (fun K hK => ?_)
 go_simp
 refine hK.out _ _ (by (try dsimp only); exact ⟨b9, b0, b1, b2, b3, b4, b5⟩) (fun hHeld => ?_); clear hK K; (try simp only [putE]); refine wpW_one 14 rfl (by kernel_rfl) (fun K hK => ?_)
 go_simp
 refine hK.out _ _ (by (try dsimp only); exact ⟨b9, b0, b1, b2, b3, b4, b5⟩) (fun hHeld => ?_); clear hK K; (try simp only [putE]); refine wpW_last 15 rfl (by kernel_rfl) (by decide) (fun K hK => ?_)
 go_simp
 refine hK.out _ _ ?_; clear hK K; (try simp only [putE]); refine wpW_done (by kernel_rfl) ?_ _; have hkk := (HK1.out.trans (KeepT.below hblA)).trans ((KeepT.gb hgr3 (T := 138) (by simp) hty3).trans (KeepT.gb (gb_setCell (gb_refl w3 (some X)) 9 (.slice (some ⟨g3, 0, none⟩) (ni + 1) c3)) (T := 92) (by simp) (fun g e => by injection e with e; subst e; exact hx3.typ))); have hpu := hMA.push (t := ⟨⟨k, dd, a, b, n, l⟩, bk, fnn, old, line, 0⟩) HNI.out ho3 hgr3; clear ho3 hgr3 hat3 hlt3 hx3 hi3 hty3 b9 b0 b1 b2 b3 b4 b5 bf bl a9 a0 a1 a2 a3 a4 a5 x9 i0 i1 i2 i3 i4 i5
 go_wp2
 go_end0
 exact HPO.out _ _ _ _ rfl hkk hpu
end Go.Proofs.YtokbgdlenbhklaaDoor
namespace Go.Proofs.YtokbgdlenbhklaaDoor
open Go.RowKit Go.Deep
structure RecW (w wr : World) (mc : List Value) : Prop where
 bm : Blk wr w.heap.size 41 mc
 br : Blk wr (w.heap.size + 1) 44 nil3
 bel : Below w.heap.size w wr
 sz : w.heap.size + 2 ≤ wr.heap.size
theorem RecW.below {w wr w' : World} {mc : List Value} (h : RecW w wr mc) (hb : Below (w.heap.size + 2) wr w') : RecW w w' mc :=
 ⟨(hb.block _ (by omega)).trans h.bm, (hb.block _ (by omega)).trans h.br, h.bel.trans (hb.mono (by omega)), Nat.le_trans h.sz hb.size⟩
theorem infoSps : (Tryd.prog.info? 127).map (fun i => (i.zero, i.size, i.bytes)) = some (some (.slice none 0 0), 1, 24) := by kernel_rfl
def BadPost (w : World) (E : Int) (e : Ending) (w' : World) : Prop := e = .returned (.tuple #[.agg #[.slice none 0 0, .slice none 0 0, .slice none 0 0], .int .i64 E]) ∧ Below w.heap.size w w'
theorem recE_C {m : Img} (h : checkE m ≠ 0) : recE m = checkE m := by
 unfold recE; rw [if_pos h]
theorem recE_T {m : Img} (h : checkE m = 0) (ht : 2000 < m.text.length) : recE m = 1 := by
 unfold recE; rw [if_neg (by omega), if_pos ht]
theorem recE_N {m : Img} (h : checkE m = 0) (ht : m.text.length ≤ 2000) (hr : recL m = none) : recE m = 9 := by
 unfold recE; rw [if_neg (by omega), if_neg (by omega), hr]
 rfl
theorem recE_S {m : Img} {d : FlowD} (h : checkE m = 0) (ht : m.text.length ≤ 2000) (hr : recL m = some d) : recE m = 0 := by
 unfold recE; rw [if_neg (by omega), if_neg (by omega), hr]
 rfl
end Go.Proofs.YtokbgdlenbhklaaDoor
