/- image.writer's number, image's Encode, walked. -/
import Derived.Test.YtlekjnnofhjgjaaDoorEncP
import Derived.Test.YtlekjnnofhjgjaaDoorAppG
import Derived.Lib.AppendStr
import Derived.Deep.RegionHeld3
import Derived.Deep.RegionLaw
import Derived.StillTailTactics
import Derived.Deep.QuietTactic
import Derived.BigQuiet
import Derived.Deep.LoopGhost
import Derived.Deep.DeepCutAuto
import Derived.Deep.CutBlock
import Derived.IntWalk
import Derived.WalkLawsBesides
namespace Go.Proofs.YtlekjnnofhjgjaaDoor
open Go.RowKit
theorem infoU8' : (Tryd.prog.info? 5).map (fun i => (i.zero, i.size, i.bytes)) = some (some (.int .u8 0), 1, 1) := by kernel_rfl
/-- a row of bytes of the call's own; or a full one, whatever of it is frozen -/
def OwnU (w : World) (base : Nat) (A : Option Addr) (c : Nat) (L : List Int) : Prop :=
  w.ownsRow base 5 1 (.slice A L.length c) L.length (intsV .u8 L) ∨
  ∃ g fz, A = some ⟨g, 0, none⟩ ∧ c = L.length ∧ base ≤ g ∧ w.heap[g]? = some (.cells (intsV .u8 L).toArray 5 fz)
theorem OwnU.lt {w : World} {base : Nat} {A : Option Addr} {c n : Nat} {L : List Int} (h : OwnU w base A c L) : ∀ g, (Value.slice A n c).ownBlock = some g → base ≤ g ∧ g < w.heap.size := by
  intro g hg
  rcases h with h | ⟨g', fz, rfl, -, h2, h3⟩
  · exact World.ownsRow.lt h g (by cases A <;> exact hg)
  · simp only [Value.ownBlock] at hg
    injection hg with hg
    subst hg
    exact ⟨h2, (Array.getElem?_eq_some_iff.1 h3).1⟩
theorem OwnU.gb {w w' : World} {base : Nat} {A : Option Addr} {c : Nat} {L : List Int} {row : Option Nat} (h : OwnU w base A c L) (hg : w.grownBy w' row) (hne : (Value.slice A L.length c).ownBlock = none ∨ (Value.slice A L.length c).ownBlock ≠ row) : OwnU w' base A c L := by
  rcases h with h | ⟨g', fz, rfl, h1, h2, h3⟩
  · exact .inl (gb_own h hg hne)
  · refine .inr ⟨g', fz, rfl, h1, h2, (hg.block g' (Array.getElem?_eq_some_iff.1 h3).1 ?_).trans h3⟩
    rcases hne with e | e
    · cases e
    · exact e
theorem OwnU.keep {w w' : World} {base : Nat} {A : Option Addr} {c : Nat} {L : List Int} (h : OwnU w base A c L) (hb : Below w.heap.size w w') : OwnU w' base A c L := by
  rcases h with h | ⟨g', fz, rfl, h1, h2, h3⟩
  · exact .inl (own_keep h hb)
  · exact .inr ⟨g', fz, rfl, h1, h2, (hb.block g' (Array.getElem?_eq_some_iff.1 h3).1).trans h3⟩
theorem OwnU.alloc {w : World} {base : Nat} {A : Option Addr} {c : Nat} {L : List Int} (h : OwnU w base A c L) (o : Obj) : OwnU (w.alloc o) base A c L := h.keep ((Below.refl _ _).alloc (Nat.le_refl _) _)
/-- it reads so -/
theorem OwnU.rd {w : World} {base : Nat} {A : Option Addr} {c : Nat} {L : List Int} (h : OwnU w base A c L) : RdG w w.heap.size A (intsV .u8 L) ∧ L.length ≤ c := by
  rcases h with h | ⟨g', fz, rfl, h1, h2, h3⟩
  · rcases h.2 with ⟨e, e2⟩ | ⟨g, cap, cur, hv, -, hg, hnc, -, -, htk⟩
    · refine ⟨fun hn => absurd ?_ hn, by omega⟩
      rw [List.length_eq_zero_iff.1 e2]
      rfl
    · injection hv with e1 _ e3
      subst e1
      subst e3
      refine ⟨fun _ => ⟨g, 0, rfl, (Array.getElem?_eq_some_iff.1 hg).1, fun j u hu => ?_⟩, hnc⟩
      rw [Nat.zero_add, cell_of_row w g j _ _ _ hg]
      rw [← htk, List.getElem?_take] at hu
      split at hu
      · simpa using hu
      · cases hu
  · refine ⟨fun _ => ⟨g', 0, rfl, (Array.getElem?_eq_some_iff.1 h3).1, fun j u hu => ?_⟩, by omega⟩
    rw [Nat.zero_add, cell_of_row w g' j _ _ _ h3]
    simpa using hu
theorem intsV_one (k : IntKind) (L : List Int) : ∀ u ∈ intsV k L, u.oneCell' = true := by
  intro u hu
  simp only [intsV, List.mem_map] at hu
  obtain ⟨x, _, rfl⟩ := hu
  rfl
theorem intsV_app (k : IntKind) (a b : List Int) : intsV k (a ++ b) = intsV k a ++ intsV k b := by simp [intsV]
/-- bytes that stand at an address are appended -/
theorem run_app_u {w : World} (ty : TypeId) {base : Nat} {A : Option Addr} {c : Nat} {L : List Int} (hown : OwnU w base A c L) (a : Addr) (m cx : Nat) (l : List Int) (hl : l.length = m) (hnews : ∀ j u, (intsV .u8 l)[j]? = some u → w.cell? (a.add j) = some u)
    (hm : 0 < m) (hn : L.length + m ≤ 1000000000000) (hbase : base ≤ w.heap.size) :
    ∃ g' c' w', (Builtin.append_ #[23, 23] ty #[.slice A L.length c, .slice (some a) m cx]).run Tryd.prog w = .ok (.slice (some ⟨g', 0, none⟩) (L.length + m) c') w' ∧
      w'.ownsRow base 5 1 (.slice (some ⟨g', 0, none⟩) (L.length + m) c') (L.length + m) (intsV .u8 (L ++ l)) ∧ w.grownBy w' (Value.slice A L.length c).ownBlock ∧ ((Value.slice A L.length c).ownBlock = some g' ∨ g' = w.heap.size) ∧ g' < w'.heap.size := by
  obtain ⟨i0, hi, hz0, hz1, hz2⟩ := info_parts infoU8'
  rw [intsV_app]
  rcases hown with h | ⟨g, fz, rfl, hc, hbg, hg⟩
  · obtain ⟨g', c', w', hr, h2, h3, h4, h5⟩ := run_append_lies (P := Tryd.prog) w 23 ty base 5 i0 (.int .u8 0) 1 1 Tryd.underlying23 hi hz0 hz1 hz2 rfl (by decide) _ _ _ h a m cx (intsV .u8 l) (by rw [intsV_len, hl, Nat.mul_one]) hnews (intsV_one _ _) hm (by unfold maxLen; omega) (by omega) hbase w.heap.size rfl
    exact ⟨g', c', w', hr, h2, h3, h4, h5⟩
  · have holds : ∀ j u, (intsV .u8 L)[j]? = some u → w.cell? ((⟨g, 0, none⟩ : Addr).add j) = some u := by
      intro j u hu
      have e : ((⟨g, 0, none⟩ : Addr).add j) = ⟨g, j, none⟩ := by unfold Addr.add; split <;> simp_all
      rw [e, cell_of_row w g j _ _ _ hg]
      simpa using hu
    have hsm : L.length + m ≤ 9223372036854775807 := by omega
    have hr := run_append_grow (P := Tryd.prog) w 23 ty 5 i0 (.int .u8 0) Tryd.underlying23 hi hz0 ⟨g, 0, none⟩ L.length c (intsV .u8 L) (by rw [hz1, intsV_len, Nat.mul_one]) holds a m cx (intsV .u8 l) (by rw [hz1, intsV_len, hl, Nat.mul_one]) hnews (by omega) (by omega) (by rw [hz2]; exact growslice_fits (by omega) (by omega))
    have hge := grownCap_ge w (L.length + m) c 5
    have hcm2 : grownCap w (L.length + m) c 5 ≤ maxLen := grownCap_le_maxLen w (L.length + m) c 5 (by unfold maxLen; omega)
    refine ⟨_, _, _, hr, ⟨?_, .inr ⟨w.heap.size, _, _, rfl, hbase, heap_alloc_new w.drew _, hge, hcm2, ?_, ?_⟩⟩, ⟨rfl, rfl, rfl, by simp, fun k hk _ => heap_alloc_old w.drew _ hk⟩, .inr rfl, by simp⟩
    · rw [List.length_append, intsV_len, intsV_len, hl, Nat.mul_one]
    · have hz3 : (Value.int IntKind.u8 0).cells.size = 1 := rfl
      simp only [Array.size_append, List.size_toArray, size_zeroCells, hz3, intsV_len, hl]
      omega
    · simp only [Array.toList_append, List.append_assoc]
      rw [← List.append_assoc]
      have : (intsV .u8 L ++ intsV .u8 l).length = (L.length + m) * 1 := by rw [List.length_append, intsV_len, intsV_len, hl, Nat.mul_one]
      rw [← this]
      exact List.take_left
theorem own_shape {w : World} {base : Nat} {e : TypeId} {size n : Nat} {v : Value} {xs : List Value} (h : w.ownsRow base e size v n xs) : ∃ A c, v = .slice A n c := by
  rcases h.2 with ⟨h1, h2⟩ | ⟨g, cap, cur, hv, _⟩
  · exact ⟨none, 0, by rw [h1, h2]⟩
  · exact ⟨some ⟨g, 0, none⟩, cap, hv⟩
theorem gb_belowU {w w' : World} {B : Nat} {row : Option Nat} (h : w.grownBy w' row) (hr : ∀ g, row = some g → B ≤ g) (hB : B ≤ w.heap.size) : Below B w w' :=
  ⟨h.os, h.tape, h.output, h.size, fun q hq => h.block q (by omega) (fun e => by have := hr q e.symm; omega)⟩
/-- a step of a region that draws its order: bytes that stand at an address are appended -/
theorem step_app_u {w : World} {ops : Array Oper} {o : Oper} {a : Act} {K : Act → World → Prop} {Q : Exit → Act → World → Prop} {E : Prop} (hgd : o.guard = none) (s x : Operand)
    (ho : o.op = .call { callee := .builtin .append, args := #[s, x], argTypes := #[23, 23] }) (base : Nat) (A : Option Addr) (c N : Nat) (L : List Int) (hN : L.length = N) (hs : a.eval s = .slice A N c) (hown : OwnU w base A c L)
    (g og m cx : Nat) (hx : a.eval x = .slice (some ⟨g, og, none⟩) m cx) (l : List Int) (hl : l.length = m) (hb : ∀ j u, (intsV .u8 l)[j]? = some u → w.cell? ⟨g, og + j, none⟩ = some u) (hm : 0 < m)
    (hn : N + m ≤ 1000000000000) (hbase : base ≤ w.heap.size) (H : Nat) (hH : w.heap.size = H)
    (h : ∀ g' c' w', w'.ownsRow base 5 1 (.slice (some ⟨g', 0, none⟩) (N + m) c') (N + m) (intsV .u8 (L ++ l)) → w.grownBy w' (Value.slice A N c).ownBlock → ((Value.slice A N c).ownBlock = some g' ∨ g' = H) → g' < w'.heap.size → K (a.put o.dst (.slice (some ⟨g', 0, none⟩) (N + m) c')) w') :
    if Region.wanted o (yielded ops a.tmps) = true then Oper.wp Tryd.prog o a w K Q else E := by
  have hw : Region.wanted o (yielded ops a.tmps) = true := by simp [Region.wanted, hgd]
  rw [if_pos hw]
  subst hN
  subst hH
  obtain ⟨g', c', w', hr, h2, h3, h4, h5⟩ := run_app_u o.type hown ⟨g, og, none⟩ m cx l hl (fun j u hu => by
    have e : ((⟨g, og, none⟩ : Addr).add j) = ⟨g, og + j, none⟩ := by unfold Addr.add; split <;> simp_all
    rw [e]
    exact hb j u hu) hm hn hbase
  unfold Oper.wp execOp
  simp only [ho, resolve, invoke, builtin, Sem.run_bind, Sem.run_pure, Result.andThen_ok, List.map_toArray, List.map_cons, List.map_nil, hs, hx, hr]
  exact h g' c' w' h2 h3 h4 h5
/-- a writer of the call's own; one whose row may be full and frozen -/
def WrSt (w : World) (base X : Nat) (L : List Int) : Prop := ∃ A c, Blk w X 131 [.slice A L.length c] ∧ w.ownsRow base 5 1 (.slice A L.length c) L.length (intsV .u8 L) ∧ base ≤ X ∧ (Value.slice A L.length c).ownBlock ≠ some X
def WrF (w : World) (base X : Nat) (L : List Int) : Prop := ∃ A c, Blk w X 131 [.slice A L.length c] ∧ OwnU w base A c L ∧ base ≤ X ∧ (Value.slice A L.length c).ownBlock ≠ some X
theorem WrSt.f {w : World} {base X : Nat} {L : List Int} (h : WrSt w base X L) : WrF w base X L := by
  obtain ⟨A, c, h1, h2, h3, h4⟩ := h
  exact ⟨A, c, h1, .inl h2, h3, h4⟩
theorem WrSt.keep {w w' : World} {base X : Nat} {L : List Int} (h : WrSt w base X L) (hb : Below w.heap.size w w') : WrSt w' base X L := by
  obtain ⟨A, c, h1, h2, h3, h4⟩ := h
  exact ⟨A, c, h1.keep hb, own_keep h2 hb, h3, h4⟩
/-- what is of another type stays -/
def KeptO (w w' : World) : Prop := ∀ (g : Nat) (cs : Array Value) (T : TypeId) (fz : Nat × Nat), w.heap[g]? = some (.cells cs T fz) → T ≠ 131 → T ≠ 5 → w'.heap[g]? = some (.cells cs T fz)
theorem KeptO.refl (w : World) : KeptO w w := fun _ _ _ _ h _ _ => h
theorem KeptO.trans {a b c : World} (h : KeptO a b) (k : KeptO b c) : KeptO a c := fun g cs T fz h1 h2 h3 => k g cs T fz (h g cs T fz h1 h2 h3) h2 h3
theorem KeptO.below {a b : World} (h : Below a.heap.size a b) : KeptO a b := fun g _ _ _ h1 _ _ => (h.block g (Array.getElem?_eq_some_iff.1 h1).1).trans h1
theorem OwnU.kept {w w2 : World} {base : Nat} {A : Option Addr} {c n : Nat} {L : List Int} (h : OwnU w base A c L) (hg : w.grownBy w2 (Value.slice A n c).ownBlock) : KeptO w w2 := by
  intro g cs T fz h1 _ h3
  refine (hg.block g (Array.getElem?_eq_some_iff.1 h1).1 ?_).trans h1
  intro e
  rcases h with h | ⟨g', fz', rfl, -, h2, h4⟩
  · rcases h.2 with ⟨e1, -⟩ | ⟨g', cap, cur, hv, -, hg', -⟩
    · injection e1 with e1
      subst e1
      cases e
    · injection hv with e1
      subst e1
      simp only [Value.ownBlock] at e
      injection e with e
      subst e
      rw [hg'] at h1
      injection h1 with h1
      injection h1 with _ h5 _
      exact h3 h5.symm
  · simp only [Value.ownBlock] at e
    injection e with e
    subst e
    rw [h4] at h1
    injection h1 with h1
    injection h1 with _ h5 _
    exact h3 h5.symm
/-- bytes appended, and the writer's cell written -/
theorem wr_push {w w2 : World} {base X N : Nat} {L l : List Int} {A A2 : Option Addr} {c c2 : Nat} (hB : Blk w X 131 [.slice A L.length c]) (hO : OwnU w base A c L) (hbX : base ≤ X)
    (hne : (Value.slice A L.length c).ownBlock ≠ some X) (hN : (L ++ l).length = N) (ho : w2.ownsRow base 5 1 (.slice A2 N c2) N (intsV .u8 (L ++ l))) (hg : w.grownBy w2 (Value.slice A L.length c).ownBlock) (hX : (Value.slice A2 N c2).ownBlock ≠ some X) :
    WrSt (w2.setCell ⟨X, 0, none⟩ (.slice A2 N c2)) base X (L ++ l) ∧ Below base w (w2.setCell ⟨X, 0, none⟩ (.slice A2 N c2)) ∧ KeptO w (w2.setCell ⟨X, 0, none⟩ (.slice A2 N c2)) := by
  subst hN
  have hl := hB.lt
  have hs := hg.size
  have hb2 : Blk w2 X 131 [.slice A L.length c] := hB.gb hg hne
  have hst : w2.grownBy (w2.setCell ⟨X, 0, none⟩ (.slice A2 (L ++ l).length c2)) (some X) := gb_setCell (gb_refl _ _) _ _
  refine ⟨⟨A2, c2, hb2.set 0 _, own_gb ho hst hX, hbX, hX⟩, (gb_belowU hg (fun g hg => (hO.lt g hg).1) (by omega)).trans (gb_to_below hst hbX (by omega)), (hO.kept hg).trans fun g cs T fz h1 h2 _ => (hst.block g (Array.getElem?_eq_some_iff.1 h1).1 (fun e => ?_)).trans h1⟩
  injection e with e
  subst e
  have h3 : w2.heap[g]? = some (.cells _ _ _) := hb2
  rw [h3] at h1
  injection h1 with h1
  injection h1 with _ h5 _
  exact h2 h5.symm
/-- a number's byte -/
def byN (n : Int) (i : Nat) : Int := n / 256 ^ i % 256
theorem wr_byte {wr w2 : World} {base X g2 c2 c N1 : Nat} {L1 : List Int} {A : Option Addr} {b : Int} (O : Obj) (hB : Blk wr X 131 [.slice A L1.length c]) (hO : OwnU wr base A c L1) (hbX : base ≤ X)
    (hne : (Value.slice A L1.length c).ownBlock ≠ some X) (hN : L1.length = N1) (ho : w2.ownsRow base 5 1 (.slice (some ⟨g2, 0, none⟩) (N1 + 1) c2) (N1 + 1) (intsV .u8 (L1 ++ [b])))
    (hg : (wr.alloc O).drew.grownBy w2 (Value.slice A L1.length c).ownBlock) (hat : (Value.slice A L1.length c).ownBlock = some g2 ∨ g2 = wr.heap.size + 1) :
    WrSt (w2.setCell ⟨X, 0, none⟩ (.slice (some ⟨g2, 0, none⟩) (N1 + 1) c2)) base X (L1 ++ [b]) ∧ Below base wr (w2.setCell ⟨X, 0, none⟩ (.slice (some ⟨g2, 0, none⟩) (N1 + 1) c2)) ∧ KeptO wr (w2.setCell ⟨X, 0, none⟩ (.slice (some ⟨g2, 0, none⟩) (N1 + 1) c2)) := by
  have hlt := hB.lt
  have hgX : g2 ≠ X := by
    rcases hat with e | e
    · rintro rfl
      exact hne e
    · omega
  have h := wr_push (w := (wr.alloc O).drew) (l := [b]) (N := N1 + 1) (hB.alloc O) (hO.alloc O) hbX hne (by simp [hN]) ho hg (by
    simp only [Value.ownBlock]
    intro e
    injection e with e
    exact hgX e)
  have hd := ((Below.refl wr.heap.size wr).alloc (Nat.le_refl _) O).drew
  exact ⟨h.1, (hd.mono (by omega)).trans h.2.1, (KeptO.below hd).trans h.2.2⟩
theorem numB_step (n : Int) (k i : Nat) (h : i + 1 ≤ k) : numB (n / 256 ^ i) (k - i) = numB (n / 256 ^ (i + 1)) (k - (i + 1)) ++ [n / 256 ^ i % 256] := by
  obtain ⟨d, rfl⟩ : ∃ d, k = i + 1 + d := ⟨k - (i + 1), by omega⟩
  rw [show i + 1 + d - i = d + 1 by omega, show i + 1 + d - (i + 1) = d by omega, numB, Int.pow_succ, ← Int.ediv_ediv_of_nonneg (Int.le_of_lt (Int.pow_pos (by decide)))]
theorem shr_run (n : Int) (i : Nat) (hi : i < 8) (w : World) : (binOp .shr 3 (.int .i64 n) (.int .i64 (8 * (i : Int)))).run Tryd.prog w = .ok (.int .i64 (n / 256 ^ i)) w := by
  have h : i = 0 ∨ i = 1 ∨ i = 2 ∨ i = 3 ∨ i = 4 ∨ i = 5 ∨ i = 6 ∨ i = 7 := by omega
  rcases h with rfl | rfl | rfl | rfl | rfl | rfl | rfl | rfl <;> simp [binOp]
set_option maxHeartbeats 4000000 in
set_option maxRecDepth 100000 in
theorem wnum_any (base X : Nat) (L : List Int) (n : Int) (k : Nat) (w : World) (hk0 : 0 < k) (hk : k ≤ 8) (hL : L.length ≤ 1000000) (h : WrF w base X L) :
    Calls Tryd.prog 50 #[.pointer (some ⟨X, 0, none⟩), .int .i64 n, .int .i64 (k : Int)] w fun e w' => e = .returned (.tuple #[]) ∧ Below base w w' ∧ WrSt w' base X (L ++ numB n k) ∧ KeptO w w' := by
  have H0 := Lib.hid h
  clear h
  go_enter Tryd.func50, Tryd.ntmps50
  go_wp2
  go_loopg [6] k (fun gk s6 wr => ∃ (j : Nat), j ≤ k ∧ s6 = .int .i64 ((j : Int) - 1) ∧ Hid (WrF wr base X (L ++ numB (n / 256 ^ j) (k - j)) ∧ (j < k → WrSt wr base X (L ++ numB (n / 256 ^ j) (k - j)))) ∧ Hid (Below base w wr) ∧ Hid (KeptO w wr) ∧ j ≤ gk)
  case atStart => exact ⟨k, Nat.le_refl _, rfl, Lib.hid (by rw [Nat.sub_self]; exact ⟨by simpa [numB] using H0.out, fun h => by omega⟩), Lib.hid (Below.refl _ _), Lib.hid (KeptO.refl _), Nat.le_refl _⟩
  case round =>
    obtain ⟨j, hj, rfl, HW, HB, HK, hgk⟩ := hrel
    rcases Nat.eq_zero_or_pos j with rfl | hj0
    · go_wp2_with fail
      go_end0
      exact ⟨rfl, HB.out, by simpa using HW.out.2 hk0, HK.out⟩
    · obtain ⟨i, rfl⟩ : ∃ i, j = i + 1 := ⟨j - 1, by omega⟩
      rw [show (((i + 1 : Nat) : Int) - 1) = (i : Int) by omega]
      obtain ⟨A, c, hb1, ho1, hbX, hne⟩ := HW.out.1
      obtain ⟨L1, hL1⟩ : ∃ z, L ++ numB (n / 256 ^ (i + 1)) (k - (i + 1)) = z := ⟨_, rfl⟩
      rw [hL1] at hb1 ho1 hne
      have hl1 : L1.length ≤ 1000008 := by rw [← hL1, List.length_append, numB_len]; omega
      obtain ⟨N1, hN1⟩ : ∃ z, L1.length = z := ⟨_, rfl⟩
      obtain ⟨M, hM⟩ : ∃ z, n / 256 ^ i = z := ⟨_, rfl⟩
      obtain ⟨q, hq⟩ : ∃ z : Int, 8 * (i : Int) = z := ⟨_, rfl⟩
      have hshr : ∀ W : World, (Op.shift .shr .i64 n .i64 q).run Tryd.prog W = .ok (.int .i64 M) W := fun W => by rw [← hq, ← hM]; exact shr_run n i (by omega) W
      have hmul : IntKind.i64.wrap (8 * (i : Int)) = q := by rw [← hq]; exact IntWalk.i64_in _ (by omega)
      have HFIN : Hid (∀ (g2 c2 : Nat) (w2 : World), w2.ownsRow base 5 1 (.slice (some ⟨g2, 0, none⟩) (N1 + 1) c2) (N1 + 1) (intsV .u8 (L1 ++ [M % 256])) → (wr.alloc (.cells #[.int .u8 (IntKind.u8.wrap M)] 5)).drew.grownBy w2 (Value.slice A N1 c).ownBlock →
          ((Value.slice A N1 c).ownBlock = some g2 ∨ g2 = wr.heap.size + 1) → Hid (WrF (w2.setCell ⟨X, 0, none⟩ (.slice (some ⟨g2, 0, none⟩) (N1 + 1) c2)) base X (L ++ numB (n / 256 ^ i) (k - i)) ∧ (i < k → WrSt (w2.setCell ⟨X, 0, none⟩ (.slice (some ⟨g2, 0, none⟩) (N1 + 1) c2)) base X (L ++ numB (n / 256 ^ i) (k - i)))) ∧
            Hid (Below base w (w2.setCell ⟨X, 0, none⟩ (.slice (some ⟨g2, 0, none⟩) (N1 + 1) c2))) ∧ Hid (KeptO w (w2.setCell ⟨X, 0, none⟩ (.slice (some ⟨g2, 0, none⟩) (N1 + 1) c2)))) := Lib.hid fun g2 c2 w2 ho hg hat => by
        subst hN1
        obtain ⟨r1, r2, r3⟩ := wr_byte _ hb1 ho1 hbX hne rfl ho hg hat
        rw [numB_step n k i hj, hM, ← List.append_assoc, hL1]
        exact ⟨⟨r1.f, fun _ => r1⟩, HB.out.trans r2, HK.out.trans r3⟩
      rw [hN1] at hb1 hne hl1
      have x0 := hb1.cell 0 rfl
      have xf := hb1.free 0
      have xl := hb1.lt
      have HB1 := Lib.hid hb1
      have HO1 := Lib.hid ho1
      have HNE := Lib.hid hne
      have HN1 := Lib.hid hN1
      clear hb1 ho1 hne hL1 HW hM hq hN1
      go_upto_region 3 with fail
      go_region_law ((first | (have hr1 : ∀ j u, (intsV .u8 [M % 256])[j]? = some u → (wr.alloc (.cells #[.int .u8 (M % 256)] 5)).drew.cell? ⟨wr.heap.size, 0 + j, none⟩ = some u := (fun j u hu => by rw [Nat.zero_add]; exact (Blk.new wr [.int .u8 (M % 256)] 5).cell j hu); have hz1 : (wr.alloc (.cells #[.int .u8 (M % 256)] 5)).drew.heap.size = wr.heap.size + 1 := (by simp); have hbb : base ≤ (wr.alloc (.cells #[.int .u8 (M % 256)] 5)).drew.heap.size := (by rw [hz1]; omega); have ho1 : OwnU (wr.alloc (.cells #[.int .u8 (M % 256)] 5)).drew base A c L1 := HO1.out.alloc _; refine step_app_u rfl _ _ rfl base A c N1 L1 HN1.out rfl ho1 wr.heap.size 0 1 1 rfl [M % 256] rfl hr1 (by omega) (by omega) hbb (wr.heap.size + 1) hz1 ?_; intro g2 c2 w2 ho2 hgr2 hat2 hlt2; have hx2 : Blk w2 X 131 [.slice A N1 c] := (HB1.out.alloc (.cells #[.int .u8 (M % 256)] 5)).drew.gb hgr2 HNE.out; have x20 := hx2.cell 0 rfl; have x2f := hx2.free 0; have x2l := hx2.lt; have HO2 := Lib.hid ho2; have HG2 := Lib.hid hgr2; have HA2 := Lib.hid hat2; clear hx2 ho2 hgr2 hat2 hr1 ho1 hz1 hbb)))
      all_goals (go_wp2; go_roundg i)
      case measure => omega
      case rel =>
        obtain ⟨r1, r2, r3⟩ := HFIN.out _ _ _ HO2.out HG2.out HA2.out
        exact ⟨i, by omega, rfl, r1, r2, r3, Nat.le_refl _⟩
      case measure => omega
      case rel =>
        obtain ⟨r1, r2, r3⟩ := HFIN.out _ _ _ HO2.out HG2.out HA2.out
        exact ⟨i, by omega, rfl, r1, r2, r3, Nat.le_refl _⟩
/-- append of a string's bytes -/
theorem step_app_str {w : World} {ops : Array Oper} {o : Oper} {a : Act} {K : Act → World → Prop} {Q : Exit → Act → World → Prop} {E : Prop} (hgd : o.guard = none) (s x : Operand)
    (ho : o.op = .call { callee := .builtin .append, args := #[s, x], argTypes := #[23, 9] }) (base : Nat) (A : Option Addr) (c N : Nat) (L : List Int) (hs : a.eval s = .slice A N c) (hown : w.ownsRow base 5 1 (.slice A N c) N (intsV .u8 L))
    (st : ByteArray) (hx : a.eval x = .string st) (M : Nat) (hM : st.size = M) (hn : N + M ≤ 1000000000000) (hbase : base ≤ w.heap.size)
    (h : ∀ A' c' w', w'.ownsRow base 5 1 (.slice A' (N + M) c') (N + M) (intsV .u8 (L ++ strL st)) → w.grownBy w' (Value.slice A N c).ownBlock → K (a.put o.dst (.slice A' (N + M) c')) w') :
    if Region.wanted o (yielded ops a.tmps) = true then Oper.wp Tryd.prog o a w K Q else E := by
  have hw : Region.wanted o (yielded ops a.tmps) = true := by simp [Region.wanted, hgd]
  rw [if_pos hw]
  subst hM
  obtain ⟨i0, hi, hz0, hz1, hz2⟩ := info_parts infoU8'
  obtain ⟨v', w', hr, h1, h2, -⟩ := Lib.run_append_own_string (P := Tryd.prog) w base 23 9 o.type 5 i0 Tryd.underlying23 Tryd.underlying9 hi hz0 hz1 hz2 _ _ _ hown st (by unfold maxLen; omega) (by omega) hbase
  obtain ⟨A', c', rfl⟩ := own_shape h1
  have e : intsV .u8 (L ++ strL st) = intsV .u8 L ++ Lib.strCells st := by
    unfold intsV strL Lib.strCells
    rw [List.map_append, List.map_map]
    rfl
  unfold Oper.wp execOp
  simp only [ho, resolve, invoke, builtin, Sem.run_bind, Sem.run_pure, Result.andThen_ok, List.map_toArray, List.map_cons, List.map_nil, hs, hx, hr]
  exact h A' c' w' (by rw [e]; exact h1) h2
/-- the writing of an image: these bytes are still to come -/
def EncSt (w0 : World) (B X : Nat) (m : Img) (R : List Int) (w : World) : Prop := Below B w0 w ∧ ∃ L, WrSt w B X L ∧ L ++ R = encF m
theorem EncSt.keep {w0 w w' : World} {B X : Nat} {m : Img} {R : List Int} (h : EncSt w0 B X m R w) (hb : Below w.heap.size w w') : EncSt w0 B X m R w' := by
  obtain ⟨h1, L, h2, h3⟩ := h
  obtain ⟨A, c, k1, k2, k3, k4⟩ := h2
  exact ⟨h1.trans (hb.mono (by have := k1.lt; omega)), L, WrSt.keep ⟨A, c, k1, k2, k3, k4⟩ hb, h3⟩
theorem num_stepF {w0 w : World} {B X : Nat} {m : Img} {R L : List Int} (hF : Fits m) (n : Int) (k : Nat) (hk0 : 0 < k) (hk : k ≤ 8) (h1 : Below B w0 w) (h2 : WrF w B X L) (h3 : L ++ (numB n k ++ R) = encF m) :
    Calls Tryd.prog 50 #[.pointer (some ⟨X, 0, none⟩), .int .i64 n, .int .i64 (k : Int)] w fun e w' => e = .returned (.tuple #[]) ∧ EncSt w0 B X m R w' ∧ KeptO w w' := by
  have hl := hF.len
  refine (wnum_any B X L n k w hk0 hk (by rw [← h3] at hl; simp only [List.length_append] at hl; omega) h2).mono fun e w' ⟨he, hb, hw, hk⟩ => ⟨he, ⟨h1.trans hb, _, hw, ?_⟩, hk⟩
  rw [List.append_assoc]
  exact h3
theorem num_step {w0 w : World} {B X : Nat} {m : Img} {R : List Int} (hF : Fits m) (n : Int) (k : Nat) (hk0 : 0 < k) (hk : k ≤ 8) (h : EncSt w0 B X m (numB n k ++ R) w) :
    Calls Tryd.prog 50 #[.pointer (some ⟨X, 0, none⟩), .int .i64 n, .int .i64 (k : Int)] w fun e w' => e = .returned (.tuple #[]) ∧ EncSt w0 B X m R w' ∧ KeptO w w' := by
  obtain ⟨h1, L, h2, h3⟩ := h
  exact num_stepF hF n k hk0 hk h1 h2.f h3
theorem own_blk_neU {w : World} {b q : Nat} {e t : TypeId} {size n c : Nat} {A : Option Addr} {xs : List Value} {u : Value} {cs : List Value} (h : w.ownsRow b e size (.slice A n c) n xs) (hB : Blk w q t (u :: cs)) (hne : e ≠ t) : (Value.slice A n c).ownBlock ≠ some q := by
  rcases h.2 with ⟨h1, _⟩ | ⟨g, cap, cur, hv, _, hg, _⟩
  · injection h1 with h1
    subst h1
    simp [Value.ownBlock]
  · injection hv with h1
    subst h1
    simp only [Value.ownBlock]
    intro e2
    injection e2 with e2
    subst e2
    have : w.heap[g]? = some (.cells (u :: cs).toArray t (0, 0)) := hB
    rw [hg] at this
    injection this with this
    injection this with _ h3 _
    exact hne h3
/-- behind an append to the writer's bytes -/
theorem enc_push {w0 w w2 : World} {B X N : Nat} {m : Img} {R L l : List Int} {A A2 : Option Addr} {c c2 : Nat} (hb : Below B w0 w) (hB : Blk w X 131 [.slice A L.length c]) (hO : OwnU w B A c L) (hbX : B ≤ X)
    (hne : (Value.slice A L.length c).ownBlock ≠ some X) (he : L ++ (l ++ R) = encF m) (hN : (L ++ l).length = N) (ho : w2.ownsRow B 5 1 (.slice A2 N c2) N (intsV .u8 (L ++ l))) (hg : w.drew.grownBy w2 (Value.slice A L.length c).ownBlock) :
    EncSt w0 B X m R (w2.setCell ⟨X, 0, none⟩ (.slice A2 N c2)) ∧ KeptO w (w2.setCell ⟨X, 0, none⟩ (.slice A2 N c2)) := by
  have hB2 : Blk w2 X 131 [.slice A L.length c] := Blk.gb (w := w.drew) hB hg hne
  obtain ⟨h1, h2, h4⟩ := wr_push (w := w.drew) (l := l) hB hO hbX hne hN ho hg (own_blk_neU ho hB2 (by decide))
  refine ⟨⟨(hb.drew).trans h2, _, h1, ?_⟩, h4⟩
  rw [List.append_assoc]
  exact he
end Go.Proofs.YtlekjnnofhjgjaaDoor
