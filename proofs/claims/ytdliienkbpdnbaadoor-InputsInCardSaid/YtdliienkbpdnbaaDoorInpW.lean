/- A slice of numbers among a law's arguments, opened; the keep's inputs, walked. -/
import Derived.Test.YtdliienkbpdnbaaDoorLawS
import Derived.Test.YtdliienkbpdnbaaDoorIsaG
import Derived.Test.YtdliienkbpdnbaaDoorAppG
import Derived.Test.YtdliienkbpdnbaaDoorPgmA
import Derived.Deep.LoopGhost
import Derived.Deep.DeepCutAuto
import Derived.IntWalk
import Derived.WalkLawsBesides
namespace Go.Proofs.YtdliienkbpdnbaaDoor
open Go.ChangeShapes Go.WideShapes Go.ChangeAt Go.RowKit Go.Joins Go.Deep
set_option maxRecDepth 100000 in
theorem open_nums {H : Type} {enc : TypeId × Value → H} {w : World} {r : Reach} {b0 : Nat} {v : Value} {d : DataW H} {p : List MemPlace} (hv : Value.okWide Tryd.prog w r b0 26 v) (h : DataW.Trod enc Tryd.prog w 0 (fun _ => true) true 26 v d p) :
    ∃ (A : Option Addr) (cap : Nat) (L : List Int), v = .slice A L.length cap ∧ L.length ≤ cap ∧ cap ≤ maxLen ∧ (∀ x ∈ L, N64 x) ∧ RdG w w.heap.size A (intsV .i64 L) ∧ (A = none ∧ L = [] ∧ cap = 0 ∨ ∃ elems spare : List (DataW H), d = .slice elems spare ∧ elems.length = L.length) := by
  obtain ⟨a0, len, cap, rfl⟩ := okWide_slice Tryd.underlying26 hv
  obtain ⟨fuel, hf⟩ := h
  rcases open_ints Tryd.underlying26 Tryd.underlying3 (by kernel_rfl) hf with ⟨hcs, hx⟩ | ⟨a, len', cap', zs, hcs, _, hl, hm, hmm, hx, hcell, hwf⟩
  · simp only [Value.cells, List.cons.injEq, Value.slice.injEq, and_true] at hcs
    obtain ⟨rfl, rfl, rfl⟩ := hcs
    exact ⟨none, 0, [], rfl, Nat.le_refl _, by decide, by simp, RdG.nil _ _ _, .inl ⟨rfl, rfl, rfl⟩⟩
  · simp only [Value.cells, List.cons.injEq, Value.slice.injEq, and_true] at hcs
    obtain ⟨rfl, rfl, rfl⟩ := hcs
    simp only [Prod.mk.injEq] at hx
    obtain ⟨rfl, -⟩ := hx
    have hmc : zs.length = cap := by simpa using hmm
    have hlen : (zs.take len).length = len := by rw [List.length_take]; omega
    refine ⟨some a, cap, zs.take len, by rw [hlen], by rw [hlen]; exact hl, hm, fun x hx => i64_of_wf (hwf x (List.mem_of_mem_take hx)), fun hn => ?_, .inr ⟨_, _, rfl, by simp [lits]⟩⟩
    have h0 : 0 < len := by
      rcases Nat.eq_zero_or_pos len with h | h
      · subst h; exact absurd rfl hn
      · exact h
    have hc0 := hcell 0 (by omega)
    obtain ⟨b, off, spot⟩ := a
    have hspot : spot = none := by simpa [Addr.add] using World.cell?_spot hc0
    subst hspot
    refine ⟨b, off, rfl, ?_, fun j u hu => ?_⟩
    · have := lt_of_cell hc0
      simpa [Addr.add] using this
    · simp only [intsV, List.getElem?_map, Option.map_eq_some_iff] at hu
      obtain ⟨x, hx, rfl⟩ := hu
      have hj := (List.getElem?_eq_some_iff.1 hx).1
      rw [hlen] at hj
      have hx2 : zs[j]? = some x := by
        rw [List.getElem?_take] at hx
        simpa [hj] using hx
      have := hcell j (by omega)
      rw [List.getD_eq_getElem?_getD, hx2] at this
      simpa only [add_plain, Option.getD_some] using this
/-- what inputs makes of some numbers -/
def inpL (l : List Int) : List Int := (l.take 8).map fun x => pickL x 20 - 5
theorem inpL_len (l : List Int) : (inpL l).length ≤ 8 := by unfold inpL; rw [List.length_map, List.length_take]; omega
theorem inpL_bd (l : List Int) : ∀ x ∈ inpL l, -5 ≤ x ∧ x ≤ 14 := by
  intro x hx
  unfold inpL at hx
  obtain ⟨y, _, rfl⟩ := List.mem_map.1 hx
  have := pickL_bd y 20 (by decide)
  omega
theorem infoIntI : (Tryd.prog.info? 3).map (fun i => (i.zero, i.size, i.bytes)) = some (some (.int .i64 0), 1, 8) := by kernel_rfl
def InpPost (w : World) (l : List Int) (e : Ending) (w' : World) : Prop :=
  Below w.heap.size w w' ∧ ∃ A c, e = .returned (.slice A (inpL l).length c) ∧ w'.ownsRow w.heap.size 3 1 (.slice A (inpL l).length c) (inpL l).length (intsV .i64 (inpL l))
set_option maxHeartbeats 2000000 in
set_option maxRecDepth 100000 in
theorem inputs_any (l : List Int) (A : Option Addr) (c : Nat) (w : World) (hl : ∀ x ∈ l, N64 x) (hR : RdG w w.heap.size A (intsV .i64 l)) (_hn : l.length ≤ 140737488355328) (_hc : l.length ≤ c) :
    Calls Tryd.prog 32 #[.slice A l.length c] w (InpPost w l) := by
  obtain ⟨n, hnl⟩ : ∃ z, l.length = z := ⟨_, rfl⟩
  rw [hnl] at _hn _hc ⊢
  have HNL := Lib.hid hnl
  have HL := Lib.hid hl
  have HR := Lib.hid hR
  clear hnl hl hR
  go_enter Tryd.func32, Tryd.ntmps32
  go_wp2_with fail
  go_loopg [3, 4] n (fun gk s3 s4 wr => ∃ (k : Nat) (B : Option Addr) (d : Nat), k ≤ n ∧ k ≤ 8 ∧ s4 = .int .i64 k ∧ s3 = .slice B k d ∧ Hid (wr.ownsRow w.heap.size 3 1 (.slice B k d) k (intsV .i64 (inpL (l.take k)))) ∧ Hid (Below w.heap.size w wr) ∧ n - k ≤ gk)
  case atStart => exact ⟨0, none, 0, Nat.zero_le _, by omega, rfl, rfl, ⟨rfl, .inl ⟨rfl, rfl⟩⟩, Below.refl _ _, Nat.le_refl _⟩
  case round =>
    obtain ⟨k, B, d, hk, hk8, rfl, rfl, HO, HB, hgk⟩ := hrel
    by_cases hlt : k < n ∧ k < 8
    · obtain ⟨h1, h2⟩ := hlt
      have h1I : (k : Int) < (n : Int) := by omega
      have h2I : (k : Int) < 8 := by omega
      have hx : l[k]? = some (l[k]'(by rw [HNL.out]; exact h1)) := List.getElem?_eq_getElem _
      obtain ⟨x, hxe⟩ : ∃ z, l[k]'(by rw [HNL.out]; exact h1) = z := ⟨_, rfl⟩
      rw [hxe] at hx
      obtain ⟨b, o, rfl, hbl, hcx⟩ := HR.out.at (intsV_at .i64 hx)
      have hx64 := HL.out x (List.mem_of_getElem? hx)
      unfold N64 at hx64
      obtain ⟨x1, x2⟩ := hx64
      have hcx2 : wr.cell? ⟨b, o + k, none⟩ = some (.int .i64 x) := (HB.out.cell hbl).trans hcx
      have HPK : Hid (∀ W, Calls Tryd.prog 18 #[.int .i64 x, .int .i64 20] W fun e w' => e = .returned (.int .i64 (pickL x 20)) ∧ W = w') := Lib.hid fun W => picked_any x 20 W x1 x2 (by decide) (by decide)
      have hpb := pickL_bd x 20 (by decide)
      obtain ⟨p, hp⟩ : ∃ z, pickL x 20 = z := ⟨_, rfl⟩
      rw [hp] at hpb HPK
      obtain ⟨p1, p2⟩ := hpb
      have HTK : Hid (inpL (l.take (k + 1)) = inpL (l.take k) ++ [p - 5]) := Lib.hid (by
        unfold inpL
        rw [List.take_take, List.take_take, Nat.min_eq_right (by omega), Nat.min_eq_right (by omega), List.take_add_one, hx]
        simp [hp])
      have hs := HB.out.size
      have hw5 : IntKind.i64.wrap (p - 5) = p - 5 := IntWalk.i64_in _ (by omega)
      clear hcx hxe hx hp hbl
      go_wp2_with (first | (go_at_call 18; refine (HPK.out _).mono ?_; rintro e w4 ⟨rfl, rfl⟩) | (refine app_one rfl _ _ 26 3 1 8 _ Tryd.underlying26 infoIntI rfl (by decide) rfl w.heap.size _ k _ rfl (World.ownsRow.alloc HO.out _) wr.heap.size 1 rfl [.int .i64 (p - 5)] 3 (0, 0) (heap_alloc_new wr _) rfl (by simp [Value.oneCell']) (by omega) (by omega) (by simp; omega) (wr.heap.size + 1) (by simp) ?a1))
      case a1 =>
        intro g2 c2 w2 ho2 hgr2 hat2 hlt2
        have hb2 : Below w.heap.size wr w2 := (((Below.refl wr.heap.size wr).alloc (Nat.le_refl _) (.cells #[.int .i64 (p - 5)] 3)).mono hs).trans (gb_below_of hgr2 (fun q hq => (World.ownsRow.lt HO.out q hq).1) (by simp; omega))
        have HO2 := Lib.hid ho2
        have HB2 := Lib.hid (HB.out.trans hb2)
        clear ho2 hgr2 hat2 hb2
        go_wp2
        go_roundg (n - (k + 1))
        case measure => omega
        case rel =>
          refine ⟨k + 1, some ⟨g2, 0, none⟩, c2, by omega, by omega, by go_num, rfl, Lib.hid ?_, HB2, Nat.le_refl _⟩
          rw [HTK.out]
          simpa [intsV] using HO2.out
    · have HE : Hid (inpL (l.take k) = inpL l ∧ (inpL l).length = k) := Lib.hid (by
        have e : inpL (l.take k) = inpL l := by
          unfold inpL
          rw [List.take_take]
          rcases Nat.lt_or_ge k n with h | h
          · rw [show min 8 k = 8 by omega]
          · rw [show min 8 k = k by omega, List.take_of_length_le (l := l) (by rw [HNL.out]; omega), List.take_of_length_le (l := l) (by rw [HNL.out]; omega)]
        refine ⟨e, ?_⟩
        have h := HO.out.1
        rw [e, intsV_len] at h
        omega)
      by_cases h1 : k < n
      · have h1I : (k : Int) < (n : Int) := by omega
        have h2I : ¬ (k : Int) < 8 := by omega
        clear hlt
        go_wp2
        go_ret
        obtain ⟨e1, e2⟩ := HE.out
        have h := HO.out
        rw [e1] at h
        exact ⟨HB.out, B, d, by rw [e2]; rfl, by rw [e2]; exact h⟩
      · have h1I : ¬ (k : Int) < (n : Int) := by omega
        clear hlt
        go_wp2
        go_ret
        obtain ⟨e1, e2⟩ := HE.out
        have h := HO.out
        rw [e1] at h
        exact ⟨HB.out, B, d, by rw [e2]; rfl, by rw [e2]; exact h⟩
end Go.Proofs.YtdliienkbpdnbaaDoor
