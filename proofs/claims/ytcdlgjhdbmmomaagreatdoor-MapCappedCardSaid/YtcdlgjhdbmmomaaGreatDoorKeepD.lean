/- The keep's out and li; slices.Clone at instructions. The keep's alone, walked. -/
import Derived.Test.YtcdlgjhdbmmomaaGreatDoorIsaG
import Derived.StillTailTactics
import Derived.Deep.RegionLaw
import Derived.Test.YtcdlgjhdbmmomaaGreatDoorIsaH
import Derived.Test.YtcdlgjhdbmmomaaGreatDoorImgE
import Derived.Test.YtcdlgjhdbmmomaaGreatDoorImgC
import Derived.Deep.LoopGhost
import Derived.Deep.AppendLies
import Derived.Lib.LazyBuf
namespace Go.Proofs.YtcdlgjhdbmmomaaGreatDoor
open Go.RowKit
theorem infoU8 : (Tryz.prog.info? 5).map (fun i => (i.zero, i.size, i.bytes)) = some (some (.int .u8 0), 1, 1) := by kernel_rfl
def bytesV (l : List Int) : List Value := l.map (Value.int .u8)
def OwnB (w : World) (base : Nat) (v : Value) (L : List Int) : Prop := w.ownsRow base 5 1 v L.length (bytesV L)
def BlkB (w : World) (g : Nat) (L : List Int) : Prop := w.heap[g]? = some (.cells (bytesV L).toArray 5 (0, 0))
theorem OwnB.alloc {w : World} {base : Nat} {v : Value} {L : List Int} (h : OwnB w base v L) (o : Obj) : OwnB (w.alloc o) base v L := World.ownsRow.alloc h o
theorem OwnB.drew {w : World} {base : Nat} {v : Value} {L : List Int} (h : OwnB w base v L) : OwnB w.drew base v L := h
theorem OwnB.of_blk {w : World} {base g : Nat} {L : List Int} (h : BlkB w g L) (hb : base ≤ g) (hl : L.length ≤ maxLen) : OwnB w base (.slice (some ⟨g, 0, none⟩) L.length L.length) L :=
 ⟨by simp [bytesV], .inr ⟨g, L.length, _, rfl, hb, h, Nat.le_refl _, hl, by simp [bytesV], by simp [bytesV, List.take_of_length_le]⟩⟩
theorem BlkB.new (w : World) (L : List Int) : BlkB (w.alloc (.cells (bytesV L).toArray 5)) w.heap.size L := heap_alloc_new w _
theorem BlkB.lt {w : World} {g : Nat} {L : List Int} (h : BlkB w g L) : g < w.heap.size := by
 rcases Nat.lt_or_ge g w.heap.size with hlt | hge
 · exact hlt
 · unfold BlkB at h; rw [Array.getElem?_eq_none hge] at h; cases h
theorem BlkB.alloc {w : World} {g : Nat} {L : List Int} (h : BlkB w g L) (o : Obj) : BlkB (w.alloc o) g L := (Below.heap_alloc w o g h.lt).trans h
theorem BlkB.drew {w : World} {g : Nat} {L : List Int} (h : BlkB w g L) : BlkB w.drew g L := h
theorem BlkB.below {B : Nat} {w w' : World} {g : Nat} {L : List Int} (h : BlkB w g L) (hb : Below B w w') (hg : g < B) : BlkB w' g L := (hb.block g hg).trans h
theorem BlkB.grown {w w' : World} {row : Option Nat} {g : Nat} {L : List Int} (h : BlkB w g L) (hb : w.grownBy w' row) (hg : some g ≠ row) : BlkB w' g L := (hb.block g h.lt hg).trans h
theorem BlkB.cell {w : World} {g : Nat} {L : List Int} (h : BlkB w g L) (i : Nat) : w.cell? ⟨g, i, none⟩ = (bytesV L)[i]? := by
 have := cell_of_row w g i _ _ _ h; simpa using this
theorem app_bytes {w : World} {ops : Array Oper} {rest : List Oper} {o : Oper} {a : Act} {Q : Exit → Act → World → Prop} (hgd : o.guard = none) (s x : Operand)
 (ho : o.op = .call { callee := .builtin .append, args := #[s, x], argTypes := #[24, 24] }) (base : Nat) (v : Value) (L0 L : List Int) (hs : a.eval s = v) (hown : OwnB w base v L0)
 (g m c : Nat) (hx : a.eval x = .slice (some ⟨g, 0, none⟩) m c) (hm : m = L.length) (hblk : BlkB w g L) (hn : L0.length + L.length ≤ 140737488355328) (hbase : base ≤ w.heap.size)
 (h : ∀ v' w', OwnB w' base v' (L0 ++ L) → w.grownBy w' v.ownBlock → wpList Tryz.prog ops Q rest (a.put o.dst v') w') : wpList Tryz.prog ops Q (o :: rest) a w := by
 obtain ⟨i0, hi, hz0, hz1, hz2⟩ := info_parts infoU8; refine wpList_append_own w hgd s x 24 ho base 5 i0 (.int .u8 0) 1 1 Tryz.underlying24 hi hz0 hz1 hz2 rfl (by decide) v _ _ hs hown ⟨g, 0, none⟩ m c (bytesV L) hx (by simp [bytesV, hm]) ?_ ?_ (by unfold maxLen; omega) (by omega) hbase (fun v' w' h2 h3 _ => h v' w' ?_ h3)
 · intro j u hu; have e : ((⟨g, 0, none⟩ : Addr).add j) = ⟨g, j, none⟩ := by unfold Addr.add; split <;> simp_all
   rw [e, hblk.cell, hu]
 · intro u hu; simp only [bytesV, List.mem_map] at hu; obtain ⟨x, _, rfl⟩ := hu
   rfl
 · unfold OwnB; simpa [bytesV, hm] using h2
theorem step_bytes {w : World} {ops : Array Oper} {o : Oper} {a : Act} {K : Act → World → Prop} {Q : Exit → Act → World → Prop} {E : Prop} (hgd : o.guard = none) (s x : Operand)
 (ho : o.op = .call { callee := .builtin .append, args := #[s, x], argTypes := #[24, 24] }) (base : Nat) (v : Value) (L0 L : List Int) (hs : a.eval s = v) (hown : OwnB w base v L0)
 (g m c : Nat) (hx : a.eval x = .slice (some ⟨g, 0, none⟩) m c) (hm : m = L.length) (hblk : BlkB w g L) (hn : L0.length + L.length ≤ 140737488355328) (hbase : base ≤ w.heap.size)
 (h : ∀ v' w', OwnB w' base v' (L0 ++ L) → w.grownBy w' v.ownBlock → K (a.put o.dst v') w') : if Region.wanted o (yielded ops a.tmps) = true then Oper.wp Tryz.prog o a w K Q else E := by
 have hw : Region.wanted o (yielded ops a.tmps) = true := by simp [Region.wanted, hgd]
 rw [if_pos hw]; obtain ⟨i0, hi, hz0, hz1, hz2⟩ := info_parts infoU8; refine wp_append_own w s x 24 ho base 5 i0 (.int .u8 0) 1 1 Tryz.underlying24 hi hz0 hz1 hz2 rfl (by decide) v _ _ hs hown ⟨g, 0, none⟩ m c (bytesV L) hx (by simp [bytesV, hm]) ?_ ?_ (by unfold maxLen; omega) (by omega) hbase (fun v' w' h2 h3 _ => h v' w' ?_ h3)
 · intro j u hu; have e : ((⟨g, 0, none⟩ : Addr).add j) = ⟨g, j, none⟩ := by unfold Addr.add; split <;> simp_all
   rw [e, hblk.cell, hu]
 · intro u hu; simp only [bytesV, List.mem_map] at hu; obtain ⟨x, _, rfl⟩ := hu
   rfl
 · unfold OwnB; simpa [bytesV, hm] using h2
theorem own_below {B : Nat} {w w1 w2 : World} {base size n : Nat} {e : TypeId} {v : Value} {xs : List Value} (hb : Below B w w1) (hg : w1.grownBy w2 v.ownBlock) (ho : w1.ownsRow base e size v n xs) (hB : B ≤ base) (hz : B ≤ w.heap.size) : Below B w w2 :=
 hb.grown hg (by have := hb.size; omega) (fun k hk => by have := ho.lt k hk; omega)
set_option maxHeartbeats 4000000 in
set_option maxRecDepth 100000 in
theorem encode_ok (k d a b n : Int) (l : Bool) (w : World) (hT : Tabs w) (hc : chk k d a b n l = 0)
 (hd : 0 ≤ d ∧ d < 8) (ha : 0 ≤ a ∧ a < 8) (hbb : 0 ≤ b ∧ b < 8) : 
   Calls Tryz.prog 76 #[.agg #[.int .i64 k, .int .i64 d, .int .i64 a, .int .i64 b, .int .i64 n, .bool l]] w fun e w' =>
    ∃ v, e = .returned (.tuple #[v, .int .i64 0]) ∧ OwnB w' w.heap.size v (encB k d a b n l) ∧ Below w.heap.size w w' := by
 have hk := chk_kind hc; have hc0 := hd' hc; clear hc; obtain ⟨i0, hi, hz0, hz1, hz2⟩ := info_parts infoU8
 go_enter Tryz.func76, Tryz.ntmps76
 go_wp2_with fail
 refine (check_any k d a b n l _ (hT.alloc _)).mono ?_; rintro e w1 ⟨rfl, hb1⟩; rw [hc0.out]; have hT1 := (hT.alloc _).below hb1; obtain ⟨hc1, hf1⟩ := bcell hb1; have hB1 : Below w.heap.size w w1 := ((Below.refl _ _).alloc lr' _).trans (hb1.mono (by simp)); have g0 : w1.cell? ⟨w.heap.size, 0, none⟩ = some (.int .i64 k) := by rw [hc1 _ _ (by simp)]; go_simp
 have g1 : w1.cell? ⟨w.heap.size, 1, none⟩ = some (.int .i64 d) := by rw [hc1 _ _ (by simp)]; go_simp
 have g2 : w1.cell? ⟨w.heap.size, 2, none⟩ = some (.int .i64 a) := by rw [hc1 _ _ (by simp)]; go_simp
 have g3 : w1.cell? ⟨w.heap.size, 3, none⟩ = some (.int .i64 b) := by rw [hc1 _ _ (by simp)]; go_simp
 have g4 : w1.cell? ⟨w.heap.size, 4, none⟩ = some (.int .i64 n) := by rw [hc1 _ _ (by simp)]; go_simp
 have g5 : w1.cell? ⟨w.heap.size, 5, none⟩ = some (.bool l) := by rw [hc1 _ _ (by simp)]; go_simp
 have r0 := hT1.op k (by omega) (by omega); have r1 := hT1.long k (by omega) (by omega); have r2 := hT1.shape k (by omega) (by omega); have hsb := shapeT_bd k hk.1 hk.2; have hz3 := hb1.size; have hlt : w.heap.size < w1.heap.size := by simp at hz3; omega
 clear hc1 hf1 hb1 hT hT1 hz3
 go_upto_region 4 with fail
 go_cut [5, 0] (fun s5 _ wx => ∃ g, s5 = .pointer (some ⟨g, 0, none⟩) ∧ w.heap.size < g ∧ g < wx.heap.size ∧ Below w1.heap.size w1 wx ∧ wx.cell? ⟨g, 0, none⟩ = some (.int .u8 (opT k)) ∧ wx.cell? ⟨g, 1, none⟩ = some (.int .u8 (longT k)) ∧ wx.cell? ⟨g, 2, none⟩ = some (.int .i64 (shapeT k)))
 case first =>
  go_wp2
  go_meet
  case rel => exact ⟨w1.heap.size, rfl, hlt, by simp, (Below.refl _ _).alloc lr' _, by go_simp, by go_simp, by go_simp⟩
 case rest =>
  obtain ⟨g, rfl, hg1, hg2, hbx, q0, q1, q2⟩ := hcut; have k0 := (hbx.cell (p := ⟨w.heap.size, 0, none⟩) hlt).trans g0; have k1 := (hbx.cell (p := ⟨w.heap.size, 1, none⟩) hlt).trans g1; have k2 := (hbx.cell (p := ⟨w.heap.size, 2, none⟩) hlt).trans g2; have k3 := (hbx.cell (p := ⟨w.heap.size, 3, none⟩) hlt).trans g3; have k4 := (hbx.cell (p := ⟨w.heap.size, 4, none⟩) hlt).trans g4; have k5 := (hbx.cell (p := ⟨w.heap.size, 5, none⟩) hlt).trans g5; have hBc := hB1.trans (hbx.mono (Nat.le_of_lt hlt)); have hltc : w.heap.size < wc.heap.size := Nat.lt_of_lt_of_le hlt hbx.size
  clear g0 g1 g2 g3 g4 g5 hbx hB1 hlt r0 r1 r2; obtain ⟨wa, rfl⟩ : ∃ wa : World, wa = wc := ⟨_, rfl⟩
  go_upto_if 25 with fail
  go_cut [0, 6, 7, 25] (fun _ s6 s7 _ wx => s6 = .int .u8 (opL k l) ∧ ∃ g7, s7 = .slice (some ⟨g7, 0, none⟩) (lastB n l).length (lastB n l).length ∧ BlkB wx g7 (lastB n l) ∧ w.heap.size < g7 ∧ Below w.heap.size w wx ∧
   wx.cell? ⟨w.heap.size, 1, none⟩ = some (.int .i64 d) ∧ wx.cell? ⟨w.heap.size, 2, none⟩ = some (.int .i64 a) ∧ wx.cell? ⟨w.heap.size, 3, none⟩ = some (.int .i64 b) ∧ wx.cell? ⟨w.heap.size, 4, none⟩ = some (.int .i64 n) ∧ wx.cell? ⟨g, 2, none⟩ = some (.int .i64 (shapeT k)))
  case first =>
   have b7 := BlkB.new wa [n % 256]
   cases l
   · go_wp2
     go_meet
     case rel => exact ⟨rfl, wa.heap.size, rfl, b7, hltc, hBc.alloc (Nat.le_of_lt hltc) _, by go_simp, by go_simp, by go_simp, by go_simp, by go_simp⟩
   · have hBc1 : Below w.heap.size w (wa.alloc (.cells #[.int .u8 (n % 256)] 5)) := hBc.alloc (Nat.le_of_lt hltc) _
     go_upto_region 8 with fail
     have e2 : BlkB ((wa.alloc (.cells #[.int .u8 (n % 256)] 5)).alloc (.cells #[.int .u8 (n % 256), .int .u8 (n / 256 % 256)] 5)) (wa.heap.size + 1) [n % 256, n / 256 % 256] := by
      have h := BlkB.new (wa.alloc (.cells #[.int .u8 (n % 256)] 5)) [n % 256, n / 256 % 256]; rw [show (wa.alloc (.cells #[.int .u8 (n % 256)] 5)).heap.size = wa.heap.size + 1 from by simp] at h; exact h
     have hB2 : Below w.heap.size w ((wa.alloc (.cells #[.int .u8 (n % 256)] 5)).alloc (.cells #[.int .u8 (n % 256), .int .u8 (n / 256 % 256)] 5)) := hBc1.alloc (by simp; omega) _
     go_region_law (go_simp; go_at_call 123; refine (two_any n _).mono ?_; rintro e w3 ⟨rfl, rfl⟩)
     all_goals
      go_wp2
      go_meet
      case rel => exact ⟨rfl, wa.heap.size + 1, rfl, e2.drew, by omega, hB2.drew, by go_simp, by go_simp, by go_simp, by go_simp, by go_simp⟩
  case rest =>
   clear hBc k0 k1 k2 k3 k4 k5 hltc q0 q1 q2; obtain ⟨rfl, g7, rfl, b7', hg7, hBc, k1, k2, k3, k4, q2⟩ := hcut; have hltc : w.heap.size < wc.heap.size := by have := b7'.lt; omega
   go_upto_region 10 with fail
   generalize hW : wc.alloc (.cells #[.int .u8 (opL k l)] 5) = W; have c0 : W.cell? ⟨w.heap.size, 1, none⟩ = some (.int .i64 d) := by subst hW; go_simp
   have c1 : W.cell? ⟨w.heap.size, 2, none⟩ = some (.int .i64 a) := by subst hW; go_simp
   have c2 : W.cell? ⟨w.heap.size, 3, none⟩ = some (.int .i64 b) := by subst hW; go_simp
   have c3 : W.cell? ⟨w.heap.size, 4, none⟩ = some (.int .i64 n) := by subst hW; go_simp
   have c4 : W.cell? ⟨g, 2, none⟩ = some (.int .i64 (shapeT k)) := by subst hW; exact (World.cell?_alloc_lt _ _ _ (lt_of_cell q2)).trans q2
   have BW : Below w.heap.size w W := by subst hW; exact hBc.alloc (Nat.le_of_lt hltc) _
   have hzW := BW.size; have b7 : BlkB W g7 (lastB n l) := by subst hW; exact b7'.alloc _
   have h78 : g7 ≠ wc.heap.size := by have := b7'.lt; omega
   have b8 : BlkB W wc.heap.size [opL k l] := by subst hW; exact BlkB.new wc [opL k l]
   have hltW : w.heap.size < W.heap.size := by have := b8.lt; omega
   have own := OwnB.of_blk b8 (base := w.heap.size) (by omega) (by simp [maxLen])
   have fin : ∀ v W' L, OwnB W' w.heap.size v ([opL k l] ++ L) → L = tailB (shapeT k) d a b n l → Below w.heap.size w W' → 
    ∃ v', Ending.returned (.tuple #[v, .int .i64 0]) = Ending.returned (.tuple #[v', .int .i64 0]) ∧ OwnB W' w.heap.size v' (encB k d a b n l) ∧ Below w.heap.size w W' := by
    rintro v W' L ho rfl hB; exact ⟨v, rfl, ho, hB⟩
   clear hW k1 k2 k3 k4 hBc q2 b7'; rcases (show shapeT k = 1 ∨ shapeT k = 2 ∨ shapeT k = 3 ∨ shapeT k = 4 ∨ shapeT k = 5 ∨ shapeT k = 6 ∨ shapeT k = 7 ∨ shapeT k = 8 ∨ shapeT k = 9 ∨ shapeT k = 10 ∨ shapeT k = 11 by omega) with hs | hs | hs | hs | hs | hs | hs | hs | hs | hs | hs
   · rw [hs] at fin c4; clear hs; have hfin := hd' fin; clear fin
     go_wp2
     go_ret2
     exact hfin.out _ _ [] own (by simp [tailB]) BW
   · rw [hs] at fin c4; clear hs; have hfin := hd' fin; clear fin; have hwd : IntKind.u8.wrap d = d := by rw [IntKind.wrap_u8]; omega
     have oa := (own.alloc (.cells (bytesV [d]).toArray 5)).drew; have hn2 : ∀ w2, (W.alloc (.cells (bytesV [d]).toArray 5)).drew.grownBy w2 (some wc.heap.size) → w2.cell? ⟨w.heap.size, 4, none⟩ = some (.int .i64 n) := fun w2 h => h.cell (by go_simp) (by simp; omega)
     have hs2 : ∀ w2, (W.alloc (.cells (bytesV [d]).toArray 5)).drew.grownBy w2 (some wc.heap.size) → w.heap.size ≤ w2.heap.size := fun w2 h => by have := h.size; simp at this; omega
     go_upto_region 12 with fail
     go_region_law (first | (refine step_bytes rfl _ (.tmp 41) rfl w.heap.size _ _ [d] rfl oa W.heap.size 1 1 rfl rfl (BlkB.new W [d]).drew (by simp) (by simp; omega) ?_; intro v' w2 own2 hgr2; have hz2 := hs2 _ hgr2; have hc2 := hn2 _ hgr2) | (refine step_bytes rfl _ (.tmp 45) rfl w.heap.size _ _ [n % 256, n / 256 % 256] rfl (own2.alloc _) w2.heap.size 2 2 rfl rfl (BlkB.new w2 [n % 256, n / 256 % 256]) (by simp) (by simp; omega) ?_; intro v3 w4 own4 hgr4) | (go_simp; go_at_call 123; refine (two_any n _).mono ?_; rintro e w3 ⟨rfl, rfl⟩))
     all_goals
      have hB2 := own_below (B := w.heap.size) ((BW.alloc BW.size _).drew) hgr2 oa lr' lr'; have hB4 := own_below (B := w.heap.size) (hB2.alloc hB2.size _) hgr4 (own2.alloc _) lr' lr'; clear hgr2 hgr4
      go_wp2
      go_ret2
      exact hfin.out _ _ ([d] ++ [n % 256, n / 256 % 256]) (by simpa using own4) (by simp [tailB]) hB4
   · rw [hs] at fin c4; clear hs; have hfin := hd' fin; clear fin
     go_upto_region 14 with fail
     go_region_law (first | (refine step_bytes rfl _ _ rfl w.heap.size _ _ [d * 16 + a, n % 256] rfl ((own.alloc _).drew) W.heap.size 2 2 rfl rfl (BlkB.new W [d * 16 + a, n % 256]).drew (by simp) (by first | exact hzW | (simp; omega)) ?_; intro v' w2 own2 hgr2) | (go_simp; go_at_call 124; refine (nibbles_any d a _ hd.1 hd.2 ha.1 ha.2).mono ?_; rintro e w3 ⟨rfl, rfl⟩))
     all_goals
      have hB2 := own_below (B := w.heap.size) ((BW.alloc BW.size _).drew) hgr2 ((own.alloc _).drew) lr' lr'; clear hgr2
      go_wp2
      go_ret2
      exact hfin.out _ _ _ own2 (by simp [tailB]) hB2
   · rw [hs] at fin c4; clear hs; have hfin := hd' fin; clear fin; have hwb : IntKind.u8.wrap b = b := by rw [IntKind.wrap_u8]; omega
     go_upto_region 16 with fail
     go_region_law (first | (refine step_bytes rfl _ _ rfl w.heap.size _ _ [d * 16 + a, b] rfl ((own.alloc _).drew) W.heap.size 2 2 rfl rfl (BlkB.new W [d * 16 + a, b]).drew (by simp) (by first | exact hzW | (simp; omega)) ?_; intro v' w2 own2 hgr2) | (go_simp; go_at_call 124; refine (nibbles_any d a _ hd.1 hd.2 ha.1 ha.2).mono ?_; rintro e w3 ⟨rfl, rfl⟩))
     all_goals
      have hB2 := own_below (B := w.heap.size) ((BW.alloc BW.size _).drew) hgr2 ((own.alloc _).drew) lr' lr'; clear hgr2
      go_wp2
      go_ret2
      exact hfin.out _ _ _ own2 (by simp [tailB]) hB2
   · rw [hs] at fin c4; clear hs; have hfin := hd' fin; clear fin
     go_upto_region 18 with fail
     go_region_law (first | (refine step_bytes rfl _ _ rfl w.heap.size _ _ [b * 16 + a, n % 256] rfl ((own.alloc _).drew) W.heap.size 2 2 rfl rfl (BlkB.new W [b * 16 + a, n % 256]).drew (by simp) (by first | exact hzW | (simp; omega)) ?_; intro v' w2 own2 hgr2) | (go_simp; go_at_call 124; refine (nibbles_any b a _ hbb.1 hbb.2 ha.1 ha.2).mono ?_; rintro e w3 ⟨rfl, rfl⟩))
     all_goals
      have hB2 := own_below (B := w.heap.size) ((BW.alloc BW.size _).drew) hgr2 ((own.alloc _).drew) lr' lr'; clear hgr2
      go_wp2
      go_ret2
      exact hfin.out _ _ _ own2 (by simp [tailB]) hB2
   · rw [hs] at fin c4; clear hs; have hfin := hd' fin; clear fin
     go_wp2_with (first | (at_builtin; refine app_bytes rfl _ _ rfl w.heap.size _ _ [d] rfl (own.alloc _) W.heap.size 1 1 rfl rfl (BlkB.new W [d]) (by simp) (by first | exact hzW | (simp; omega)) ?_; intro v' w2 own2 hgr2))
     have hB2 := own_below (B := w.heap.size) (BW.alloc BW.size _) hgr2 (own.alloc _) lr' lr'
     go_ret2
     exact hfin.out _ _ _ own2 (by simp [tailB]) hB2
   · rw [hs] at fin c4; clear hs; have hfin := hd' fin; clear fin
     go_wp2_with (first | (at_builtin; refine app_bytes rfl _ _ rfl w.heap.size _ _ [a] rfl (own.alloc _) W.heap.size 1 1 rfl rfl (BlkB.new W [a]) (by simp) (by first | exact hzW | (simp; omega)) ?_; intro v' w2 own2 hgr2))
     have hB2 := own_below (B := w.heap.size) (BW.alloc BW.size _) hgr2 (own.alloc _) lr' lr'
     go_ret2
     exact hfin.out _ _ _ own2 (by simp [tailB]) hB2
   · rw [hs] at fin c4; clear hs; have hfin := hd' fin; clear fin; have hn2 : ∀ w2, (W.alloc (.cells (bytesV [a * 16 + b]).toArray 5)).grownBy w2 (some wc.heap.size) → BlkB w2 g7 (lastB n l) := fun w2 h => (b7.alloc _).grown h (by simp; omega)
     have hs2 : ∀ w2, (W.alloc (.cells (bytesV [a * 16 + b]).toArray 5)).grownBy w2 (some wc.heap.size) → w.heap.size ≤ w2.heap.size := fun w2 h => by have := h.size; simp at this; omega
     have hll : [opL k l].length + [a * 16 + b].length + (lastB n l).length ≤ 140737488355328 := by simp [lastB]; split <;> simp
     go_wp2_with (first | (at_builtin; refine app_bytes rfl _ (.tmp 110) rfl w.heap.size _ _ [a * 16 + b] rfl (own.alloc _) W.heap.size 1 1 rfl rfl (BlkB.new W [a * 16 + b]) (by simp) (by simp; omega) ?_; intro v' w2 own2 hgr2; have b72 := hn2 _ hgr2; have hz2 := hs2 _ hgr2) | (at_builtin; refine app_bytes rfl _ (.tmp 112) rfl w.heap.size _ _ (lastB n l) rfl own2 g7 (lastB n l).length (lastB n l).length rfl rfl b72 (by rw [List.length_append]; exact hll) hz2 ?_; intro v3 w4 own4 hgr4) | (go_at_call 124; refine (nibbles_any a b _ ha.1 ha.2 hbb.1 hbb.2).mono ?_; rintro e w3 ⟨rfl, rfl⟩))
     have hB2 := own_below (B := w.heap.size) (BW.alloc BW.size _) hgr2 (own.alloc _) lr' lr'; have hB4 := own_below (B := w.heap.size) hB2 hgr4 own2 lr' lr'; clear hgr2 hgr4
     go_ret2
     exact hfin.out _ _ ([a * 16 + b] ++ lastB n l) (by simpa using own4) (by simp [tailB]) hB4
   · rw [hs] at fin c4; clear hs; have hfin := hd' fin; clear fin
     go_wp2_with (first | (at_builtin; refine app_bytes rfl _ _ rfl w.heap.size _ _ (lastB n l) rfl own g7 (lastB n l).length (lastB n l).length rfl rfl b7 (by simp [lastB]; split <;> simp) (by first | exact hzW | (simp; omega)) ?_; intro v' w2 own2 hgr2))
     have hB2 := own_below (B := w.heap.size) BW hgr2 own lr' lr'
     go_ret2
     exact hfin.out _ _ _ own2 (by simp [tailB]) hB2
   · rw [hs] at fin c4; clear hs; have hfin := hd' fin; clear fin
     go_wp2_with (first | (at_builtin; refine app_bytes rfl _ _ rfl w.heap.size _ _ [n % 256, n / 256 % 256] rfl (own.alloc _) W.heap.size 2 2 rfl rfl (BlkB.new W [n % 256, n / 256 % 256]) (by simp) (by first | exact hzW | (simp; omega)) ?_; intro v' w2 own2 hgr2) | (go_at_call 123; refine (two_any _ _).mono ?_; rintro e w3 ⟨rfl, rfl⟩))
     have hB2 := own_below (B := w.heap.size) (BW.alloc BW.size _) hgr2 (own.alloc _) lr' lr'
     go_ret2
     exact hfin.out _ _ _ own2 (by simp [tailB]) hB2
   · rw [hs] at fin c4; clear hs; have hfin := hd' fin; clear fin
     go_wp2_with (first | (at_builtin; refine app_bytes rfl _ _ rfl w.heap.size _ _ [a, n % 256] rfl (own.alloc _) W.heap.size 2 2 rfl rfl (BlkB.new W [a, n % 256]) (by simp) (by first | exact hzW | (simp; omega)) ?_; intro v' w2 own2 hgr2))
     have hB2 := own_below (B := w.heap.size) (BW.alloc BW.size _) hgr2 (own.alloc _) lr' lr'
     go_ret2
     exact hfin.out _ _ _ own2 (by simp [tailB]) hB2
theorem decode_any (L : List Int) (A : Option Addr) (len cap : Nat) (at_ : Int) (w : World) (hT : Tabs w) (hlen : len = L.length) (hR : RdB w w.heap.size A L) (hL : len ≤ 140737488355328) (hcap : len ≤ cap) :
 Calls Tryz.prog 83 #[.slice A len cap, .int .i64 at_] w fun e w' => e = .returned (decV (decB L at_)) ∧ Below w.heap.size w w' := by
 unfold decB
 by_cases h1 : at_ < 0 ∨ (L.length : Int) ≤ at_
 · rw [if_pos h1]; exact decode_out A len cap at_ w (by rw [hlen]; exact h1) hL
 · rw [if_neg h1]; have h2 : 0 ≤ at_ ∧ at_ < L.length := by omega
   obtain ⟨p, rfl⟩ := Int.eq_ofNat_of_zero_le h2.1; have hp : p < L.length := by omega
   obtain ⟨hby, hcell⟩ := hR; obtain ⟨tb, tof, rfl, htb, hc⟩ := hcell (by intro e; rw [e] at hp; simp at hp)
   have hg : ∀ j, j < L.length → L[j]? = some (L.getD j 0) ∧ 0 ≤ L.getD j 0 ∧ L.getD j 0 < 256 := fun j hj => by
    have e : L[j]? = some L[j] := gE' hj; have : L.getD j 0 = L[j] := by simp [List.getD, e]
    rw [this]; exact ⟨e, hby _ (List.getElem_mem hj)⟩
   have hd : ∀ j, 0 ≤ L.getD j 0 ∧ L.getD j 0 < 256 := fun j => by
    by_cases hj : j < L.length
    · exact (hg j hj).2
    · have : L.getD j 0 = 0 := by simp [List.getD, List.getElem?_eq_none (Nat.le_of_not_lt hj)]
      omega
   have hop := hd p; have h0 : w.cell? ⟨tb, tof + p, none⟩ = some (.int .u8 (L.getD p 0)) := hc p _ (hg p hp).1; simp only [Int.toNat_natCast]; have hq : kindOf (L.getD p 0) = ((kindOf (L.getD p 0)).1, (kindOf (L.getD p 0)).2) := rfl; have hkk := kindOf_ok (L.getD p 0) hop.1 hop.2; generalize (kindOf (L.getD p 0)).1 = k at *; generalize (kindOf (L.getD p 0)).2 = l at *
   by_cases hk0 : k = 0
   · rw [if_pos hk0]; exact decode_kind p tb tof cap len _ w hT hL htb h0 (by omega) (by rw [hq]; exact hk0)
   · rw [if_neg hk0]; have hk1 : 1 ≤ k ∧ k ≤ 24 := by rcases hkk with h | h <;> omega
     have hlg : l = true → shapeT k = 8 ∨ shapeT k = 9 := by rcases hkk with h | h; exact absurd h hk0; exact h.2.2
     by_cases hs : (L.length : Int) < p + sizeK k l
     · rw [if_pos hs]; exact decode_short k l p tb tof cap len _ w hT hL htb h0 (by omega) hq hk1 (by omega)
     · rw [if_neg hs]; have hx : ∀ q : Nat, (q : Int) + 1 ≤ sizeK k l → w.cell? ⟨tb, tof + (p + q), none⟩ = some (.int .u8 (L.getD (p + q) 0)) := fun q hq => hc (p + q) _ (hg (p + q) (by omega)).1
       have := decode_in k l p tb tof cap len (L.getD p 0) (L.getD (p + 1) 0) (L.getD (p + 2) 0) (L.getD (p + 3) 0) w hT hL hcap htb h0 (fun h => hx 1 (by omega))
        (fun h => by have := hx 2 (by omega); rw [show tof + (p + 1) + 1 = tof + (p + 2) by omega]; exact this) (fun h => by have := hx 3 (by omega); rw [show tof + (p + 1) + 2 = tof + (p + 3) by omega]; exact this)
        (hd _) (hd _) (hd _) (by omega) hq hk1 (by omega) hlg
       refine this.mono fun e w' ⟨he, hb⟩ => ⟨?_, hb⟩
       rw [he]; unfold decAns decV
       split <;> rfl
def EncPost (W : World) (L : List Int) (e : Ending) (w' : World) : Prop :=
 ∃ g cap, e = .returned (.tuple #[.slice (some ⟨g, 0, none⟩) L.length cap, .int .i64 0]) ∧ L.length ≤ cap ∧ W.heap.size ≤ g ∧ g < w'.heap.size ∧ Below W.heap.size W w' ∧ (∀ j x, L[j]? = some x → w'.cell? ⟨g, 0 + j, none⟩ = some (.int .u8 x)) ∧ OwnB w' W.heap.size (.slice (some ⟨g, 0, none⟩) L.length cap) L
theorem OwnB.at {w : World} {base : Nat} {v : Value} {L : List Int} (h : OwnB w base v L) (hn : L ≠ []) : ∃ g cap, v = .slice (some ⟨g, 0, none⟩) L.length cap ∧ L.length ≤ cap ∧ base ≤ g ∧ g < w.heap.size ∧ ∀ j x, L[j]? = some x → w.cell? ⟨g, 0 + j, none⟩ = some (.int .u8 x) := by
 obtain ⟨_, hx | ⟨g, cap, cs, hv, hg, hb, hlc, hcm, hcs, htk⟩⟩ := h
 · exact absurd (List.length_eq_zero_iff.1 hx.2) hn
 · refine ⟨g, cap, hv, hlc, hg, (Array.getElem?_eq_some_iff.1 hb).1, fun j x hx => ?_⟩; rw [cell_of_row w g (0 + j) _ _ _ hb, Nat.zero_add]; obtain ⟨hj, rfl⟩ := List.getElem?_eq_some_iff.1 hx; have := congrArg (·[j]?) htk; simpa [List.getElem?_take, hj, bytesV] using this
theorem encode_any (i : Ins) (w : World) (hT : Tabs w) (h : i.chk = 0) : Calls Tryz.prog 76 #[.agg #[.int .i64 i.k, .int .i64 i.d, .int .i64 i.a, .int .i64 i.b, .int .i64 i.n, .bool i.l]] w (EncPost w i.enc) := by
 obtain ⟨_, _, hr, _⟩ := ins_chk_zero.1 h; refine (encode_ok i.k i.d i.a i.b i.n i.l w hT h hr.1 hr.2.1 hr.2.2).mono fun e w' ⟨v, he, ho, hb⟩ => ?_
 obtain ⟨g, cap, rfl, h1, h2, h3, h4⟩ := ho.at (by simp [encB]); exact ⟨g, cap, he, h1, h2, h3, hb, h4, ho⟩
set_option maxHeartbeats 1000000 in
set_option maxRecDepth 100000 in
theorem encode_bad (k d a b n : Int) (l : Bool) (w : World) (hT : Tabs w) (hc : chk k d a b n l ≠ 0) :
   Calls Tryz.prog 76 #[.agg #[.int .i64 k, .int .i64 d, .int .i64 a, .int .i64 b, .int .i64 n, .bool l]] w fun e w' =>
    e = .returned (.tuple #[.slice none 0 0, .int .i64 (chk k d a b n l)]) ∧ Below w.heap.size w w' := by
 generalize hC : chk k d a b n l = c at *; have HC := hd' hC; have hne : (c != 0) = true := by simpa using hc
 have H := hd' hne; clear hc hne hC
 go_enter Tryz.func76, Tryz.ntmps76
 go_wp2_with fail
 refine (check_any k d a b n l _ (hT.alloc _)).mono ?_; rintro e w1 ⟨rfl, hb1⟩; have hB1 : Below w.heap.size w w1 := ((Below.refl _ _).alloc lr' _).trans (hb1.mono (by simp)); clear hb1 hT; rw [HC.out]; have hne := H.out
 go_wp2
 go_ret2
 exact ⟨rfl, hB1⟩
theorem RdG.bytes {w : World} {B : Nat} {A : Option Addr} {L : List Int} (h : RdG w B A (intsV .u8 L)) (hb : ∀ x ∈ L, 0 ≤ x ∧ x < 256) : RdB w B A L :=
 ⟨hb, fun hn => by
  obtain ⟨b, o, e, hlt, hc⟩ := h (by cases L with | nil => exact absurd rfl hn | cons a r => simp [intsV])
  exact ⟨b, o, e, hlt, fun j x hx => hc j _ (intsV_at .u8 hx)⟩⟩
end Go.Proofs.YtcdlgjhdbmmomaaGreatDoor
namespace Go.Proofs.YtcdlgjhdbmmomaaGreatDoor
open Go.RowKit
theorem addr_add0 (b j : Nat) : ((⟨b, 0, none⟩ : Addr).add j) = ⟨b, 0 + j, none⟩ := by unfold Addr.add; split <;> simp_all
theorem app_bytes_lies {w : World} {ops : Array Oper} {rest : List Oper} {o : Oper} {a : Act} {Q : Exit → Act → World → Prop} (hgd : o.guard = none) (s x : Operand)
 (ho : o.op = .call { callee := .builtin .append, args := #[s, x], argTypes := #[24, 24] }) (base : Nat) (v : Value) (L0 L : List Int) (hs : a.eval s = v) (hown : OwnB w base v L0)
 (g m c : Nat) (hx : a.eval x = .slice (some ⟨g, 0, none⟩) m c) (hm : L.length = m) (hm0 : 0 < m) (hc : ∀ j x, L[j]? = some x → w.cell? ⟨g, 0 + j, none⟩ = some (.int .u8 x)) (hn : L0.length + m ≤ 140737488355328) (hbase : base ≤ w.heap.size)
 (h : ∀ g' cap' w', OwnB w' base (.slice (some ⟨g', 0, none⟩) (L0 ++ L).length cap') (L0 ++ L) → w.grownBy w' v.ownBlock → (v.ownBlock = some g' ∨ g' = w.heap.size) → g' < w'.heap.size → wpList Tryz.prog ops Q rest (a.put o.dst (.slice (some ⟨g', 0, none⟩) (L0 ++ L).length cap')) w') : wpList Tryz.prog ops Q (o :: rest) a w := by
 obtain ⟨i0, hi, hz0, hz1, hz2⟩ := info_parts infoU8; refine wpList_append_lies w hgd s x 24 ho base 5 i0 (.int .u8 0) 1 1 Tryz.underlying24 hi hz0 hz1 hz2 rfl (by decide) v _ _ hs hown ⟨g, 0, none⟩ m c (bytesV L) hx (by simp [bytesV, hm]) ?_ ?_ hm0 (by unfold maxLen; omega) (by omega) hbase _ rfl (fun g' cap' w' h2 h3 h4 h5 => ?_)
 · intro j u hu; simp only [bytesV, List.getElem?_map, Option.map_eq_some_iff] at hu; obtain ⟨x, hx, rfl⟩ := hu; rw [addr_add0]; exact hc j x hx
 · intro u hu; simp only [bytesV, List.mem_map] at hu; obtain ⟨x, _, rfl⟩ := hu
   rfl
 · have hll : (L0 ++ L).length = L0.length + m := by rw [List.length_append, hm]
   have := h g' cap' w'; rw [hll] at this; refine this ?_ h3 h4 h5; unfold OwnB; rw [hll]; simpa [bytesV] using h2
def insC (i : Ins) : List Value := [.int .i64 i.k, .int .i64 i.d, .int .i64 i.a, .int .i64 i.b, .int .i64 i.n, .bool i.l]
def insR (L : List Ins) : List Value := L.flatMap insC
theorem addr_addO (b o j : Nat) : ((⟨b, o, none⟩ : Addr).add j) = ⟨b, o + j, none⟩ := by unfold Addr.add; split <;> simp_all
def encAll (L : List Ins) : List Int := L.flatMap Ins.enc
theorem encAll_bytes (L : List Ins) (h : ∀ i ∈ L, i.chk = 0) : ∀ x ∈ encAll L, 0 ≤ x ∧ x < 256 := by
 intro x hx; simp only [encAll, List.mem_flatMap] at hx; obtain ⟨i, hi, hx⟩ := hx; exact enc_bytes (h i hi) x hx
end Go.Proofs.YtcdlgjhdbmmomaaGreatDoor
