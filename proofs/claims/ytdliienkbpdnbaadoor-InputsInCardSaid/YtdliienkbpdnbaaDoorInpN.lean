/- told at the nil list and at a row of the call's own; the program (In 1, Out 1)^k, run. -/
import Derived.Test.YtdliienkbpdnbaaDoorKeepN
import Derived.Lib.BufferMore
namespace Go.Proofs.YtdliienkbpdnbaaDoor
open Go.RowKit
set_option maxRecDepth 100000 in
theorem clone_nil (w : World) : Calls Tryd.prog 63 #[.slice none 0 0] w fun e w' => e = .returned (.slice none 0 0) ∧ Below w.heap.size w w' := by
  have hu : (binOp .eql 55 (.slice none 0 0) (.slice none 0 0)).run Tryd.prog w = .ok (.bool true) w := run_eql_slice_nil w _ _ _ 0 0 Tryd.underlying55
  go_enter Tryd.func63, Tryd.ntmps63
  go_wp2
  go_ret
  exact ⟨rfl, Below.refl _ _⟩
set_option maxHeartbeats 4000000 in
set_option maxRecDepth 100000 in
theorem alone_nil (w : World) (hT : Tabs w) : Calls Tryd.prog 28 #[.slice none 0 0] w (AlonePost w []) := by
  obtain ⟨L, hL0⟩ : ∃ L : List Ins, L = [] := ⟨_, rfl⟩
  rw [← hL0]
  have hk : ∀ i ∈ L, i.chk = 0 := by rw [hL0]; simp
  have HT := Lib.hid hT
  have HK := Lib.hid hk
  have HCL := Lib.hid (fun (W : World) (_ : Below w.heap.size w W) => clone_nil W)
  obtain ⟨n, hn⟩ : ∃ n, L.length = n := ⟨_, rfl⟩
  have hm : n ≤ 1000 := by rw [← hn, hL0]; decide
  have HN := Lib.hid hn
  have HL0 := Lib.hid hL0
  clear hT hk hn hL0
  go_enter Tryd.func28, Tryd.ntmps28
  go_wp2_with fail
  obtain ⟨w0, hw0⟩ : ∃ w0, (((w.alloc
              (Obj.cells
                #[Value.slice none 0 0, Value.slice none 0 0, Value.slice none 0 0, Value.slice none 0 0,
                  Value.slice none 0 0, Value.int IntKind.i64 0]
                29)).alloc
          (Obj.cells
            #[Value.int IntKind.i64 5, Value.int IntKind.i64 (-3), Value.int IntKind.i64 0, Value.int IntKind.i64 7,
              Value.int IntKind.i64 1, Value.int IntKind.i64 2]
            3)).alloc
      (Obj.cells
        #[Value.slice none 0 0, Value.slice none 0 0, Value.slice none 0 0,
          Value.slice (some { block := w.heap.size + 1, off := 0 }) 6 6, Value.slice none 0 0, Value.int IntKind.i64 0]
        29)) = w0 := ⟨_, rfl⟩
  rw [hw0]
  have hb0 : Below w.heap.size w w0 := by rw [← hw0]; exact (((Below.refl _ _).alloc (Nat.le_refl _) _).alloc (by simp) _).alloc (by simp; omega) _
  have hz0 : w0.heap.size = w.heap.size + 3 := by rw [← hw0]; simp
  have hr0 : w0.heap[w.heap.size]? = some (.cells #[.slice none 0 0, .slice none 0 0, .slice none 0 0, .slice none 0 0, .slice none 0 0, .int .i64 0] 29 (0, 0)) := by
    rw [← hw0]
    exact (heap_alloc_old _ _ (by simp; omega)).trans ((heap_alloc_old _ _ (by simp)).trans (heap_alloc_new w _))
  have hd0 : w0.heap[w.heap.size + 1]? = some (.cells #[.int .i64 5, .int .i64 (-3), .int .i64 0, .int .i64 7, .int .i64 1, .int .i64 2] 3 (0, 0)) := by
    rw [← hw0]
    exact (heap_alloc_old _ _ (by simp)).trans (heap_alloc2_new w _ _)
  have hi0 : w0.heap[w.heap.size + 2]? = some (.cells (imgC (w.heap.size + 1) none 0 0).toArray 29 (0, 0)) := by
    rw [← hw0]
    have := heap_alloc2_new (w.alloc (Obj.cells #[Value.slice none 0 0, Value.slice none 0 0, Value.slice none 0 0, Value.slice none 0 0, Value.slice none 0 0, Value.int IntKind.i64 0] 29)) (Obj.cells #[Value.int IntKind.i64 5, Value.int IntKind.i64 (-3), Value.int IntKind.i64 0, Value.int IntKind.i64 7, Value.int IntKind.i64 1, Value.int IntKind.i64 2] 3) (Obj.cells #[Value.slice none 0 0, Value.slice none 0 0, Value.slice none 0 0, Value.slice (some { block := w.heap.size + 1, off := 0 }) 6 6, Value.slice none 0 0, Value.int IntKind.i64 0] 29)
    simpa [imgC] using this
  have HB0 := Lib.hid hb0
  have HR0 := Lib.hid hr0
  have HD0 := Lib.hid hd0
  have HI0 := Lib.hid hi0
  clear hb0 hr0 hd0 hi0 hw0
  refine (HCL.out w0 HB0.out).mono ?_
  rintro e w1 ⟨rfl, hb1⟩
  have ho1 : w1.ownsRow w0.heap.size 57 6 (.slice none 0 0) n (insR L) := by rw [← HN.out, HL0.out]; exact ⟨rfl, .inl ⟨rfl, rfl⟩⟩
  have HB1 := Lib.hid hb1
  have HO1 := Lib.hid ho1
  have hs1 : w0.heap.size ≤ w1.heap.size := hb1.size
  have hn1 : n + 1 ≤ 1000000000000 := by omega
  clear hb1 ho1
  go_wp2_with (first | (refine app_insL_lies rfl _ _ rfl w0.heap.size _ n L [haltI] rfl (World.ownsRow.alloc HO1.out _) w1.heap.size 0 1 1 rfl rfl (by decide) ?c1 (by omega) (by simp; omega) ?a1))
  case c1 =>
    intro j u hj
    have hrow : (w1.alloc (.cells #[.int .i64 1, .int .i64 0, .int .i64 0, .int .i64 0, .int .i64 0, .bool false] 57)).heap[w1.heap.size]? = _ := heap_alloc_new w1 _
    rw [Nat.zero_add, cell_of_row _ _ j _ _ _ hrow]
    simpa [insR, insC, haltI] using hj
  case a1 =>
    intro g2 c2 w2 ho2 hgr2 hat2 hlt2
    have hb2 : Below w0.heap.size w0 w2 := HB1.out.trans ((((Below.refl w1.heap.size w1).alloc (Nat.le_refl _) _).mono hs1).grown hgr2 (by simp; omega) (fun q hq => (World.ownsRow.lt HO1.out q hq).1))
    have HO2 := Lib.hid ho2
    have HB2 := Lib.hid hb2
    clear hgr2 hat2 ho2 hb2
    obtain ⟨MM, hMM⟩ : ∃ M, L ++ [haltI] = M := ⟨_, rfl⟩
    have hML : MM.length = n + 1 := by rw [← hMM]; simp [HN.out]
    have hMK : ∀ i ∈ MM, i.chk = 0 := by
      intro i hi
      rw [← hMM, List.mem_append] at hi
      rcases hi with hi | hi
      · exact HK.out i hi
      · rw [List.mem_singleton] at hi
        rw [hi]
        exact halt_chk
    have HMM := Lib.hid hMM
    have HML := Lib.hid hML
    have HMK := Lib.hid hMK
    clear hMM hML hMK
    go_wp2_with fail
    go_loopw [17] (fun v17 wr => ∃ (k : Nat) (A : Option Addr) (c : Nat), k ≤ n + 1 ∧ v17 = .int .i64 k ∧ Hid (w2.grownBy wr (some (w.heap.size + 2)) ∧ wr.heap[w.heap.size + 2]? = some (.cells (imgC (w.heap.size + 1) A (encAll (MM.take k)).length c).toArray 29 (0, 0)) ∧ OwnB wr w2.heap.size (.slice A (encAll (MM.take k)).length c) (encAll (MM.take k)))) (fun v17 _ => n + 1 - (intOf v17).toNat)
    case atStart => exact ⟨0, none, 0, Nat.zero_le _, rfl, gb_refl _ _, (HB2.out.block _ (by omega)).trans HI0.out, ⟨rfl, .inl ⟨rfl, rfl⟩⟩⟩
    case round =>
      obtain ⟨k, A, c3, hk, rfl, HH⟩ := hrel
      obtain ⟨hgb, hib, hob⟩ := HH
      have HGB := Lib.hid hgb
      have HIB := Lib.hid hib
      have HOB := Lib.hid hob
      have hzr : w2.heap.size ≤ wr.heap.size := hgb.size
      have hz2 : w0.heap.size ≤ w2.heap.size := HB2.out.size
      have hbw : Below w.heap.size w wr := HB0.out.trans ((HB2.out.mono (by omega)).trans (gb_to_below hgb (by omega) (by omega)))
      have HBW := Lib.hid hbw
      have HTr := Lib.hid (HT.out.below hbw)
      have i0 : wr.cell? ⟨w.heap.size + 2, 0, none⟩ = some (.slice A (encAll (MM.take k)).length c3) := cell_of_row _ _ 0 _ _ _ hib
      have i1 : wr.cell? ⟨w.heap.size + 2, 1, none⟩ = some (.slice none 0 0) := cell_of_row _ _ 1 _ _ _ hib
      have fi0 : wr.frozen? ⟨w.heap.size + 2, 0, none⟩ = false := frozen_of_row _ _ _ _ _ hib
      have fi1 : wr.frozen? ⟨w.heap.size + 2, 1, none⟩ = false := frozen_of_row _ _ _ _ _ hib
      have hIr : w.heap.size + 2 < wr.heap.size := by omega
      clear hgb hib hob hbw
      by_cases hlt : k < n + 1
      · have hx : MM[k]? = some (MM[k]'(by have := HML.out; omega)) := List.getElem?_eq_getElem _
        obtain ⟨i, hii⟩ : ∃ i, MM[k]'(by have := HML.out; omega) = i := ⟨_, rfl⟩
        rw [hii] at hx
        have htk : MM.take (k + 1) = MM.take k ++ [i] := by rw [List.take_add_one, hx]; rfl
        have hce := encAll_snoc (MM.take k) i
        rw [← htk] at hce
        have hchk := HMK.out i (List.mem_of_getElem? hx)
        have hep := enc_pos hchk
        have HENC := Lib.hid (fun (W : World) (hT : Tabs W) => encode_any i W hT hchk)
        have HCE := Lib.hid hce
        have hlen : (encAll (MM.take k)).length ≤ 4 * (MM.take k).length := encAll_len _ (fun j hj => HMK.out j (List.mem_of_mem_take hj))
        have hlk : (MM.take k).length ≤ k := by rw [List.length_take]; omega
        obtain ⟨hc21, hc22, hc23, hc24⟩ := own_at HO2.out
        have hne2 : ¬ g2 = w.heap.size + 2 := by omega
        have cell : ∀ (q : Nat) (u : Value), q < 6 → (insC i)[q]? = some u → wr.cell? ⟨g2, 0 + k * 6 + q, none⟩ = some u := by
          intro q u hq hu
          have h1 := flat_at insC 6 (fun _ => rfl) MM k i hx q u hq hu
          have h2 := hc24 (k * 6 + q) u (by rw [HMM.out]; exact h1)
          rw [Nat.zero_add]
          refine Eq.trans ?_ h2
          have hblk := HGB.out.block g2 hc23 (fun e => hne2 (by injection e))
          simp [World.cell?, hblk]
        have q0 := cell 0 _ (by decide) rfl
        have q1 := cell 1 _ (by decide) rfl
        have q2 := cell 2 _ (by decide) rfl
        have q3 := cell 3 _ (by decide) rfl
        have q4 := cell 4 _ (by decide) rfl
        have q5 := cell 5 _ (by decide) rfl
        obtain ⟨ik, id, ia, ib, iN, il⟩ := i
        simp only at q0 q1 q2 q3 q4 q5
        simp only [Nat.zero_add, Nat.add_zero] at q0 q1 q2 q3 q4 q5
        have hg2r : g2 < wr.heap.size := by omega
        have hkn : (k : Int) < (n : Int) + 1 := by omega
        obtain ⟨T, hT⟩ : ∃ T, encAll (MM.take k) = T := ⟨_, rfl⟩
        rw [hT] at HIB HOB i0 hlen HCE
        clear hx hii htk hce hchk cell hc24
        go_wp2_with fail
        refine (HENC.out _ (HTr.out.alloc _)).mono ?_
        rintro e w4 ⟨g4, cap4, rfl, h41, h42, h43, h44, h45, -⟩
        have hb4 : Below wr.heap.size wr w4 := ((Below.refl _ _).alloc (Nat.le_refl _) _).trans (h44.mono (by simp))
        have hz4 : wr.heap.size < w4.heap.size := by have := h44.size; simp at this; omega
        have i0' : w4.cell? ⟨w.heap.size + 2, 0, none⟩ = some (.slice A T.length c3) := (hb4.cell (p := ⟨w.heap.size + 2, 0, none⟩) hIr).trans i0
        have fi0' : w4.frozen? ⟨w.heap.size + 2, 0, none⟩ = false := (hb4.frozen (p := ⟨w.heap.size + 2, 0, none⟩) hIr).trans fi0
        have hI4 : w.heap.size + 2 < w4.heap.size := by omega
        have HB4 := Lib.hid hb4
        have HG4 := Lib.hid (And.intro h41 (And.intro h42 (And.intro h43 h45)))
        have hep1 := hep.1
        have hep2 := hep.2
        clear h41 h42 h43 h44 h45 hb4 q0 q1 q2 q3 q4 q5 i0 i1 fi0 fi1 hep
        go_wp2_with (first | (refine app_bytes_lies rfl _ _ rfl w2.heap.size _ T _ rfl (own_keep HOB.out HB4.out) g4 _ cap4 rfl rfl hep1 HG4.out.2.2.2 (by omega) (by omega) ?a2))
        case a2 =>
          intro g5 c5 w5 ho5 hgr5 hat5 hlt5
          have hN : (encAll (MM.take (k + 1))).length = T.length + (Ins.enc ⟨ik, id, ia, ib, iN, il⟩).length := by rw [HCE.out, List.length_append]
          have hTown := own_keep HOB.out HB4.out
          have hXne : ∀ q, (Value.slice A T.length c3).ownBlock = some q → q ≠ w.heap.size + 2 := fun q hq => by have := (World.ownsRow.lt hTown q hq).1; omega
          have hI5 := (hgr5.block (w.heap.size + 2) hI4 (fun e => hXne _ e.symm rfl)).trans ((HB4.out.block _ hIr).trans HIB.out)
          have hg5 : g5 ≠ w.heap.size + 2 := by
            rcases hat5 with e | e
            · exact hXne _ e
            · omega
          have hgb4 : w2.grownBy w4 (some (w.heap.size + 2)) := gb_trans HGB.out (gb_below HB4.out)
          have hgb5 : w2.grownBy w5 (some (w.heap.size + 2)) := by
            refine ⟨hgr5.os.trans hgb4.os, hgr5.tape.trans hgb4.tape, hgr5.output.trans hgb4.output, Nat.le_trans hgb4.size hgr5.size, fun q hq hne => ?_⟩
            exact (hgr5.block q (by have := hgb4.size; omega) (fun e => by have := (World.ownsRow.lt hTown q e.symm).1; omega)).trans (hgb4.block q hq hne)
          have i05 : w5.cell? ⟨w.heap.size + 2, 0, none⟩ = some (.slice A T.length c3) := cell_of_row _ _ 0 _ _ _ hI5
          have fi05 : w5.frozen? ⟨w.heap.size + 2, 0, none⟩ = false := frozen_of_row _ _ _ _ _ hI5
          have hI55 : w.heap.size + 2 < w5.heap.size := by have := hgr5.size; omega
          have HRL := Lib.hid (show w2.grownBy (w5.setCell ⟨w.heap.size + 2, 0, none⟩ (.slice (some ⟨g5, 0, none⟩) (encAll (MM.take (k + 1))).length c5)) (some (w.heap.size + 2)) ∧ (w5.setCell ⟨w.heap.size + 2, 0, none⟩ (.slice (some ⟨g5, 0, none⟩) (encAll (MM.take (k + 1))).length c5)).heap[w.heap.size + 2]? = some (.cells (imgC (w.heap.size + 1) (some ⟨g5, 0, none⟩) (encAll (MM.take (k + 1))).length c5).toArray 29 (0, 0)) ∧ OwnB (w5.setCell ⟨w.heap.size + 2, 0, none⟩ (.slice (some ⟨g5, 0, none⟩) (encAll (MM.take (k + 1))).length c5)) w2.heap.size (.slice (some ⟨g5, 0, none⟩) (encAll (MM.take (k + 1))).length c5) (encAll (MM.take (k + 1))) from by
            refine ⟨gb_setCell hgb5 _ _, blk_set hI5 0 _, ?_⟩
            have h1 : OwnB w5 w2.heap.size (.slice (some ⟨g5, 0, none⟩) (encAll (MM.take (k + 1))).length c5) (encAll (MM.take (k + 1))) := by rw [HCE.out, List.length_append]; exact ho5
            exact own_gb h1 (gb_setCell (gb_refl _ _) _ _) (fun e => hg5 (by injection e)))
          have HN5 := Lib.hid hN
          have hk1 : k + 1 ≤ n + 1 := by omega
          clear hN hTown hXne hI5 hg5 hgb4 hgb5 ho5 hgr5 hat5
          rw [HN5.out] at HRL
          go_wp2
          go_roundw
          case rel => exact ⟨k + 1, _, _, hk1, by go_num, by rw [HN5.out]; exact HRL⟩
          case measure => simp [intOf]; omega
      · obtain rfl : k = n + 1 := by omega
        clear hlt
        have htk : MM.take (n + 1) = MM := List.take_of_length_le (by have := HML.out; omega)
        rw [htk] at i0 HIB HOB
        have hl8 : (encAll MM).length ≤ 8000 := by have := encAll_len MM HMK.out; have := HML.out; omega
        have hrb : wr.heap[w.heap.size]? = some (.cells #[.slice none 0 0, .slice none 0 0, .slice none 0 0, .slice none 0 0, .slice none 0 0, .int .i64 0] 29 (0, 0)) := (HGB.out.block _ (by omega) (fun e => by injection e with e'; omega)).trans ((HB2.out.block _ (by omega)).trans HR0.out)
        have hdb : wr.heap[w.heap.size + 1]? = _ := (HGB.out.block _ (by omega) (fun e => by injection e with e'; omega)).trans ((HB2.out.block _ (by omega)).trans HD0.out)
        have i2 : wr.cell? ⟨w.heap.size + 2, 2, none⟩ = some (.slice none 0 0) := cell_of_row _ _ 2 _ _ _ HIB.out
        have i3 : wr.cell? ⟨w.heap.size + 2, 3, none⟩ = some (.slice (some ⟨w.heap.size + 1, 0, none⟩) 6 6) := cell_of_row _ _ 3 _ _ _ HIB.out
        have i4 : wr.cell? ⟨w.heap.size + 2, 4, none⟩ = some (.slice none 0 0) := cell_of_row _ _ 4 _ _ _ HIB.out
        have i5 : wr.cell? ⟨w.heap.size + 2, 5, none⟩ = some (.int .i64 0) := cell_of_row _ _ 5 _ _ _ HIB.out
        have r0 : wr.cell? ⟨w.heap.size, 0, none⟩ = some (.slice none 0 0) := cell_of_row _ _ 0 _ _ _ hrb
        have r1 : wr.cell? ⟨w.heap.size, 1, none⟩ = some (.slice none 0 0) := cell_of_row _ _ 1 _ _ _ hrb
        have r2 : wr.cell? ⟨w.heap.size, 2, none⟩ = some (.slice none 0 0) := cell_of_row _ _ 2 _ _ _ hrb
        have r3 : wr.cell? ⟨w.heap.size, 3, none⟩ = some (.slice none 0 0) := cell_of_row _ _ 3 _ _ _ hrb
        have r4 : wr.cell? ⟨w.heap.size, 4, none⟩ = some (.slice none 0 0) := cell_of_row _ _ 4 _ _ _ hrb
        have r5 : wr.cell? ⟨w.heap.size, 5, none⟩ = some (.int .i64 0) := cell_of_row _ _ 5 _ _ _ hrb
        have fr : ∀ j, wr.frozen? ⟨w.heap.size, j, none⟩ = false := fun j => frozen_of_row _ _ _ _ _ hrb
        have hrr : w.heap.size < wr.heap.size := by omega
        have hfin : ∀ (x1 a0 a1 a2 a3 a4 a5 : Value), AlonePost w L (.returned (.tuple #[.agg #[.slice A (encAll MM).length c3, .slice (some ⟨wr.heap.size, 0, none⟩) 1 1, .slice none 0 0, .slice (some ⟨w.heap.size + 1, 0, none⟩) 6 6, .slice none 0 0, .int .i64 0], .bool true]))
            ((((((((wr.setCell ⟨w.heap.size + 2, 1, none⟩ x1).setCell ⟨w.heap.size, 0, none⟩ a0).setCell ⟨w.heap.size, 1, none⟩ a1).setCell ⟨w.heap.size, 2, none⟩ a2).setCell ⟨w.heap.size, 3, none⟩ a3).setCell ⟨w.heap.size, 4, none⟩ a4).setCell ⟨w.heap.size, 5, none⟩ a5).alloc (.cells #[.string ⟨#[102]⟩, .int .i64 0, .int .i64 (encAll MM).length] 36)) := by
          intro x1 a0 a1 a2 a3 a4 a5
          have g0 : wr.grownBy (wr.setCell ⟨w.heap.size + 2, 1, none⟩ x1) (some (w.heap.size + 2)) := gb_setCell (gb_refl _ _) _ _
          have g1 := gb_setCell (gb_setCell (gb_setCell (gb_setCell (gb_setCell (gb_setCell (gb_refl (wr.setCell ⟨w.heap.size + 2, 1, none⟩ x1) (some w.heap.size)) 0 a0) 1 a1) 2 a2) 3 a3) 4 a4) 5 a5
          have b0 : Below w.heap.size wr (wr.setCell ⟨w.heap.size + 2, 1, none⟩ x1) := gb_to_below g0 (by omega) (by omega)
          have b1 := gb_to_below g1 (B := w.heap.size) (Nat.le_refl _) (by have := b0.size; omega)
          have bb := (HBW.out.trans b0).trans b1
          have o1 := own_gb (own_gb HOB.out g0 (fun e => by have := (World.ownsRow.lt HOB.out _ e).1; omega)) g1 (fun e => by have := (World.ownsRow.lt HOB.out _ e).1; omega)
          have hs : ((((((((wr.setCell ⟨w.heap.size + 2, 1, none⟩ x1).setCell ⟨w.heap.size, 0, none⟩ a0).setCell ⟨w.heap.size, 1, none⟩ a1).setCell ⟨w.heap.size, 2, none⟩ a2).setCell ⟨w.heap.size, 3, none⟩ a3).setCell ⟨w.heap.size, 4, none⟩ a4).setCell ⟨w.heap.size, 5, none⟩ a5)).heap.size = wr.heap.size := by simp [World.setCell]
          have hd := (g1.block (w.heap.size + 1) (by have := g0.size; omega) (fun e => by injection e with e'; omega)).trans ((g0.block (w.heap.size + 1) (by omega) (fun e => by injection e with e'; omega)).trans hdb)
          generalize ((((((((wr.setCell ⟨w.heap.size + 2, 1, none⟩ x1).setCell ⟨w.heap.size, 0, none⟩ a0).setCell ⟨w.heap.size, 1, none⟩ a1).setCell ⟨w.heap.size, 2, none⟩ a2).setCell ⟨w.heap.size, 3, none⟩ a3).setCell ⟨w.heap.size, 4, none⟩ a4).setCell ⟨w.heap.size, 5, none⟩ a5)) = W' at *
          have hm := HMM.out
          have hmk := HMK.out
          rw [← hm] at o1 hl8 hmk ⊢
          rw [← hs]
          exact alone_fin L w _ w2.heap.size W'.heap.size (w.heap.size + 1) c3 A (bb.alloc bb.size _) (OwnB.alloc o1 _) (heap_alloc_new W' _) ((heap_alloc_old _ _ (Array.getElem?_eq_some_iff.1 hd).1).trans hd) hmk hl8
        have HFIN := Lib.hid hfin
        clear hfin hrb hdb
        go_wp2
        refine bodyPost_ret (v := .tuple #[.agg #[.slice A (encAll MM).length c3, .slice (some ⟨wr.heap.size, 0, none⟩) 1 1, .slice none 0 0, .slice (some ⟨w.heap.size + 1, 0, none⟩) 6 6, .slice none 0 0, .int .i64 0], .bool true]) (by simp [results, Tryd.results28, go_sem, *]) rfl (HFIN.out _ _ _ _ _ _ _)
set_option maxHeartbeats 4000000 in
set_option maxRecDepth 100000 in
theorem told_gen (L : List Ins) (S : Option Addr) (c : Nat) (I : List Int) (iA : Option Addr) (ic : Nat) (w : World) (hT : Tabs w) (hA : Calls Tryd.prog 28 #[.slice S L.length c] w (AlonePost w L))
    (hin : RdG w w.heap.size iA (intsV .i64 I)) (hic : I.length ≤ ic) (hil : I.length ≤ 1000) (hI : ∀ x ∈ I, N64 x) (hr : runE (aloneM L) I 100 = 0) :
    Calls Tryd.prog 33 #[.slice iA I.length ic, .slice S L.length c] w (ToldPost w L I) := by
  have HT := Lib.hid hT
  have HIN := Lib.hid hin
  have HII := Lib.hid hI
  have HR := Lib.hid hr
  have HAL := Lib.hid (hA)
  have HB0 := Lib.hid (Below.refl w.heap.size w)
  clear hT hin hI hr hA
  go_enter Tryd.func33, Tryd.ntmps33
  go_wp2_with fail
  refine HAL.out.mono ?_
  rintro e w1 ⟨hb1, v, rfl, hrd, hok⟩
  unfold Img.val
  have HB1 := Lib.hid hb1
  have HRD := Lib.hid hrd
  have HOK := Lib.hid hok
  clear hb1 hrd hok
  go_wp2_with fail
  obtain ⟨M, hM⟩ : ∃ M, aloneM L = M := ⟨_, rfl⟩
  rw [hM] at HRD HOK HR
  have HMM := Lib.hid hM
  obtain ⟨w2, hw2⟩ : ∃ w2, w1.alloc (.cells (M.val v) 29) = w2 := ⟨_, rfl⟩
  have hb2 : Below w1.heap.size w1 w2 := by rw [← hw2]; exact (Below.refl _ _).alloc (Nat.le_refl _) _
  have hB2 : Below w.heap.size w w2 := HB1.out.trans (hb2.mono HB1.out.size)
  have hrun := run_any M v iA ic I 100 w2 (HT.out.below hB2) ((HRD.out.below hb2).more hb2.size) HOK.out ((HIN.out.below hB2).more hB2.size) hic (by omega) ⟨by decide, by decide⟩ HII.out
  rw [← hw2] at hrun hB2
  rw [← hM] at hrun hB2
  refine hrun.mono ?_
  rintro e w3 ⟨hb3, -, hpost⟩
  obtain ⟨A, c3, rfl, ho3⟩ := hpost (by rw [hM]; exact HR.out)
  have HB3 := Lib.hid (hB2.trans (hb3.mono hB2.size))
  have HO3 := Lib.hid (own_more ho3 (show w.heap.size ≤ _ from hB2.size))
  clear hrun hpost ho3 hb3 hb2 hw2
  unfold runV
  obtain ⟨S, hS⟩ : ∃ S, runS (aloneM L) I 100 = S := ⟨_, rfl⟩
  rw [hS] at HO3 ⊢
  go_wp2
  go_quiet (fail)
  go_wp2
  go_ret3
  have hz := HB3.out.size
  refine ⟨below_dN (HB3.out.alloc hz _) _, A, c3, (by rw [hS]; rfl), ?_⟩
  rw [hS]
  exact (World.ownsRow.alloc HO3.out _)
/-- told at a row of the call's own, its run known -/
theorem told_own (L : List Ins) (I T : List Int) (E : Int) (base : Nat) (A : Option Addr) (c : Nat) (iA : Option Addr) (ic : Nat) (w : World) (hT : Tabs w) (hm : L.length ≤ 1000) (hk : ∀ i ∈ L, i.chk = 0)
    (ho : w.ownsRow base 57 6 (.slice A L.length c) L.length (insR L)) (hin : RdG w w.heap.size iA (intsV .i64 I)) (hic : I.length ≤ ic) (hil : I.length ≤ 100) (hI : ∀ x ∈ I, N41 x)
    (h1 : (runS (aloneM L) I 100).told = T) (h2 : (runS (aloneM L) I 100).en = E) (hzn : L.length = 0 → A = none) :
    Calls Tryd.prog 33 #[.slice iA I.length ic, .slice A L.length c] w (ToldR w T E) := by
  have hA : Calls Tryd.prog 28 #[.slice A L.length c] w (AlonePost w L) := by
    have h0 := ho
    obtain ⟨_, hx | ⟨g', cap', cur, hv, hb, hg, hnc, _, _, htk⟩⟩ := ho
    · obtain ⟨e1, e2⟩ := hx
      injection e1 with e3 e4 e5
      subst e3 e5
      obtain rfl := List.eq_nil_of_length_eq_zero e2
      exact alone_nil w hT
    · injection hv with e1 e2 e3
      subst e1
      obtain ⟨k1, k2, k3, k4⟩ := own_at h0
      rcases Nat.eq_zero_or_pos L.length with hz | hp
      · cases hzn hz
      · exact alone_any L g' 0 c w hT hp hm k1 k3 hk (fun j u hu => by rw [Nat.zero_add]; exact k4 j u hu)
  refine (told_gen L A c I iA ic w hT hA hin hic (by omega) (fun x hx => ?_) (alone_runE L I hk hm hil hI)).mono ?_
  · have := hI x hx
    unfold N41 at this
    unfold N64
    omega
  · rintro e w' ⟨hb, A, c, rfl, ho⟩
    rw [h1] at ho ⊢
    rw [h2]
    obtain ⟨k1, k2⟩ := own_rd ho (intsV_len _ _)
    exact ⟨A, c, rfl, hb, k1, k2⟩
def inI : Ins := ⟨16, 1, 0, 0, 0, false⟩
def outI : Ins := ⟨17, 0, 1, 0, 0, false⟩
def ioL (k : Nat) : List Ins := (List.range k).flatMap fun _ => [inI, outI]
def inW (l : List Int) (k : Nat) : List Int := (List.range k).map fun i => l.getD i 0
theorem ioL_succ (k : Nat) : ioL (k + 1) = ioL k ++ [inI, outI] := by simp [ioL, List.range_succ]
theorem ioL_len (k : Nat) : (ioL k).length = 2 * k := by
  induction k with
  | zero => rfl
  | succ k ih => rw [ioL_succ, List.length_append, ih]; simp; omega
theorem inW_succ (l : List Int) (k : Nat) : inW l (k + 1) = inW l k ++ [l.getD k 0] := by simp [inW, List.range_succ]
theorem inW_len (l : List Int) (k : Nat) : (inW l k).length = k := by simp [inW]
theorem ioL_chk (k : Nat) : ∀ i ∈ ioL k, i.chk = 0 := by
  intro i hi
  simp only [ioL, List.mem_flatMap, List.mem_cons, List.not_mem_nil, or_false] at hi
  obtain ⟨_, _, rfl | rfl⟩ := hi <;> decide
theorem lineS_app : ∀ (L M : List Ins) (s : MSt), lineS (L ++ M) s = lineS M (lineS L s)
  | [], _, _ => rfl
  | i :: r, M, s => lineS_app r M (stepL i s)
theorem lineOk_app : ∀ (L M : List Ins) (s : MSt), lineOk L s → lineOk M (lineS L s) → lineOk (L ++ M) s
  | [], _, _, _, h => h
  | i :: r, M, s, h, h' => ⟨h.1, lineOk_app r M (stepL i s) h.2 h'⟩
theorem io_step (s : MSt) (h : s.regs.length = 8) : lineOk [inI, outI] s ∧ (lineS [inI, outI] s).told = s.told ++ [s.inp.headD 0] ∧ (lineS [inI, outI] s).inp = s.inp.tail ∧ (lineS [inI, outI] s).regs.length = 8 := by
  have e : ((s.regs.set 1 (s.inp.head?.getD 0, false))[1]?.getD (0, false)) = (s.inp.head?.getD 0, false) := by
    rw [List.getElem?_set_self (by omega)]
    rfl
  refine ⟨?_, ?_, ?_, ?_⟩
  · refine ⟨⟨by decide, by decide, rfl⟩, ⟨by decide, by decide, ?_⟩, trivial⟩
    simp [inI, outI, stepL, doS, regAt, e]
  · simp [inI, outI, lineS, stepL, doS, regAt, e]
  · simp [inI, outI, lineS, stepL, doS, regAt, e]
  · simp [inI, outI, lineS, stepL, doS, regAt, h]
theorem io_line (m : Img) (I : List Int) (k : Nat) : lineOk (ioL k) (startS m I) ∧ (lineS (ioL k) (startS m I)).told = inW I k ∧ (lineS (ioL k) (startS m I)).inp = I.drop k ∧ (lineS (ioL k) (startS m I)).regs.length = 8 := by
  induction k with
  | zero => exact ⟨trivial, rfl, rfl, rfl⟩
  | succ k ih =>
    obtain ⟨h1, h2, h3, h4⟩ := ih
    obtain ⟨g1, g2, g3, g4⟩ := io_step _ h4
    rw [ioL_succ, lineS_app]
    refine ⟨lineOk_app _ _ _ h1 g1, ?_, ?_, g4⟩
    · rw [g2, h2, h3, inW_succ]
      simp [List.headD_eq_head?_getD, List.head?_drop, List.getD_eq_getElem?_getD]
    · rw [g3, h3]
      simp
theorem io_run (I : List Int) (k : Nat) (hk : k ≤ 40) : (runS (aloneM (ioL k)) I 100).told = inW I k ∧ (runS (aloneM (ioL k)) I 100).en = 1 := by
  have hl := io_line (aloneM (ioL k)) I k
  have hR := runS_line (ioL k) I (99 - 2 * k) (by rw [ioL_len]; omega) hl.1
  obtain ⟨S, hS⟩ : ∃ S, lineS (ioL k) (startS (aloneM (ioL k)) I) = S := ⟨_, rfl⟩
  rw [hS] at hR hl
  rw [hR]
  exact ⟨hl.2.1, rfl⟩
end Go.Proofs.YtdliienkbpdnbaaDoor
