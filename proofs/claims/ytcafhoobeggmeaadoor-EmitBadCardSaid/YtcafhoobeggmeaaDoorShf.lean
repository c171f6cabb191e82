/- boltholekeep.shuffled, walked: the order that raw numbers shuffle. -/
import Derived.Test.YtcafhoobeggmeaaDoorFlwR
import Derived.Test.YtcafhoobeggmeaaDoorEmtC
import Derived.Test.YtcafhoobeggmeaaDoorFlowN
import Derived.Test.YtcafhoobeggmeaaDoorRegX
import Derived.Deep.DeepCutAuto
import Derived.Deep.CutBlock
import Derived.Deep.LoopGhost
import Derived.Deep.QuietTactic
import Derived.BigQuiet
import Derived.IntWalk
import Derived.WalkLawsBesides
namespace Go.Proofs.YtcafhoobeggmeaaDoor
open Go.RowKit Go.Deep
theorem infoPartS : (Tryd.prog.info? 66).map (fun i => (i.zero, i.size, i.bytes)) = some (some (.agg #[.int .i64 0, .slice none 0 0]), 2, 32) := by kernel_rfl
theorem infoIntS : (Tryd.prog.info? 3).map (fun i => (i.zero, i.size, i.bytes)) = some (some (.int .i64 0), 1, 8) := by kernel_rfl
theorem getD_map {α β : Type} (f : α → β) (z : α) (l : List α) (i : Nat) : (l.map f).getD i (f z) = f (l.getD i z) := by
 rw [List.getD_eq_getElem?_getD, List.getD_eq_getElem?_getD, List.getElem?_map]
 cases l[i]? <;> rfl
theorem swapL_map {α β : Type} (f : α → β) (z : α) (l : List α) (i j : Nat) : (swapL z l i j).map f = swapL (f z) (l.map f) i j := by
 unfold swapL; rw [List.map_set, List.map_set, getD_map, getD_map]
theorem partsV_set : ∀ {lv : List (PartD × Option Addr × Nat)} {j : Nat} (x : PartD × Option Addr × Nat), j < lv.length → partsV (lv.set j x) = ((partsV lv).set (j * 2) (.int .i64 x.1.fn)).set (j * 2 + 1) (.slice x.2.1 x.1.bs.length x.2.2)
 | [], j, x, h => by simp at h
 | y :: r, 0, x, _ => rfl
 | y :: r, j + 1, x, h => by
  have ih := partsV_set (lv := r) (j := j) x (by simpa using h); show partC y ++ partsV (r.set j x) = ((partC y ++ partsV r).set ((j + 1) * 2) _).set ((j + 1) * 2 + 1) _; rw [ih, List.set_append_right _ _ (by simp [partC]; omega), List.set_append_right _ _ (by simp [partC]; omega)]; have e1 : (j + 1) * 2 - (partC y).length = j * 2 := by simp [partC]; omega
  have e2 : (j + 1) * 2 + 1 - (partC y).length = j * 2 + 1 := by simp [partC]; omega
  rw [e1, e2]
theorem partsV_len (lv : List (PartD × Option Addr × Nat)) : (partsV lv).length = lv.length * 2 := flat_len partC 2 (fun _ => rfl) lv
theorem own_same {w w' : World} {B : Nat} {e : TypeId} {sz n : Nat} {v : Value} {xs : List Value} (h : w.ownsRow B e sz v n xs) (hs : ∀ g, v.ownBlock = some g → w'.heap[g]? = w.heap[g]?) : w'.ownsRow B e sz v n xs := by
 refine ⟨h.1, ?_⟩; rcases h.2 with hn | ⟨g, cap, cur, rfl, hbb, hgg, rest⟩
 · exact .inl hn
 · exact .inr ⟨g, cap, cur, rfl, hbb, (hs g rfl).trans hgg, rest⟩
def FrI (H AT : Nat) (w w' : World) : Prop := w.heap.size ≤ w'.heap.size ∧ ∀ b, b < H → b ≠ AT → w'.heap[b]? = w.heap[b]?
theorem FrI.refl (H AT : Nat) (w : World) : FrI H AT w w := ⟨Nat.le_refl _, fun _ _ _ => rfl⟩
theorem FrI.below {H AT : Nat} {w a b : World} (h : FrI H AT w a) (hb : Below a.heap.size a b) (hH : H ≤ a.heap.size) : FrI H AT w b := ⟨Nat.le_trans h.1 hb.size, fun q hq hn => (hb.block q (Nat.lt_of_lt_of_le hq hH)).trans (h.2 q hq hn)⟩
theorem FrI.gb {H AT : Nat} {w a b : World} {r : Option Nat} (h : FrI H AT w a) (hg : a.grownBy b r) (hr : ∀ g, r = some g → g = AT ∨ H ≤ g) (hH : H ≤ a.heap.size) : FrI H AT w b := by
 refine ⟨Nat.le_trans h.1 hg.size, fun q hq hn => (hg.block q (Nat.lt_of_lt_of_le hq hH) fun e => ?_).trans (h.2 q hq hn)⟩; rcases hr q e.symm with h1 | h1
 · exact hn h1
 · omega
set_option maxRecDepth 100000 in
theorem next_any (Ls : List Int) (lA : Option Addr) (ln lc AT LV a B : Nat) (W : World) (h0 : Blk W AT 3 [.int .i64 a]) (h1 : Blk W LV 35 [.slice lA ln lc]) (hn : Ls.length = ln) (hR : RdG W B lA (intsV .i64 Ls)) (hc : ln ≤ lc) (hl : ln ≤ 140737488355328) (ha : a ≤ 1000000) (hB : B ≤ AT) (hne : AT ≠ LV) :
 Calls Tryd.prog 34 #[.pointer (some ⟨AT, 0, none⟩), .pointer (some ⟨LV, 0, none⟩)] W fun e w' => e = .returned (.int .i64 (nxL Ls (a + 1))) ∧ ∃ n, w' = (W.setCell ⟨AT, 0, none⟩ (.int .i64 ((a + 1 : Nat) : Int))).drewN n := by
 have x0 := h0.cell 0 rfl; have xf := h0.free 0; have x1 := h1.cell 0 rfl; have xl := h0.lt; have xl1 := h1.lt; have HNE := hd' hne; have hne2 : ¬ AT = LV := hne
 by_cases hz : ln = 0
 · have hlz : Ls = [] := List.length_eq_zero_iff.1 (by omega); have HR : Hid (nxL Ls (a + 1) = 0) := hd' (by rw [hlz]; rfl); rw [HR.out]; clear h0 h1 hR hlz hn; subst hz
   go_enter Tryd.func34, Tryd.ntmps34
   go_wp2_with fail
   go_ret
   exact ⟨rfl, 0, rfl⟩
 · obtain ⟨q, hq⟩ := ex' ((a + 1) % ln)
   have hql : q < ln := by rw [← hq]; exact Nat.mod_lt _ (by omega)
   have hqe : Ls[q]? = some (Ls[q]'(by omega)) := gE' _; obtain ⟨x, hx⟩ := ex' (Ls[q]'(by omega))
   rw [hx] at hqe; obtain ⟨lg, lo, rfl, hlg, hcell⟩ := hR.at (intsV_at .i64 hqe)
   have HR : Hid (nxL Ls (a + 1) = x) := hd' (by
    unfold nxL; rw [if_neg (by omega), hn, hq, List.getD_eq_getElem?_getD, hqe]
    rfl)
   have hlgne : ¬ AT = lg := by omega
   have hlgl : lg < W.heap.size := by omega
   have q7 : ((ln : Int) == 0) = false := by simpa using hz
   have hlnz : ¬ (ln : Int) = 0 := by omega
   have e2 : ((a : Int) + 1).tmod (ln : Int) = (q : Int) := by
    rw [← hq]; exact (Int.ofNat_tmod (a + 1) ln).symm
   have e1 : IntKind.i64.wrap (((a : Int) + 1).tmod (ln : Int)) = (q : Int) := by rw [e2]; exact IntWalk.i64_in _ (by omega)
   have hqI : (q : Int) < (ln : Int) := by omega
   have hq0 : (0 : Int) ≤ (q : Int) := by omega
   have hlnI : (0 : Int) < (ln : Int) := by omega
   rw [HR.out]; clear h0 h1 hR hq hqe hx hn
   go_enter Tryd.func34, Tryd.ntmps34
   go_upto_region 4 with fail
   go_quiet (fail)
   go_wp2_with fail
   go_ret
   exact ⟨rfl, _, rfl⟩
def ShfPost (w : World) (d : FlowD) (Ls : List Int) (e : Ending) (w' : World) : Prop :=
 Below w.heap.size w w' ∧ ∃ (A : Option Addr) (c : Nat) (lv : List (PartD × Option Addr × Nat)), e = .returned (.slice A lv.length c) ∧ lv.map Prod.fst = shL d Ls ∧ w'.ownsRow w.heap.size 66 2 (.slice A lv.length c) lv.length (partsV lv) ∧ ∀ x ∈ lv, w'.ownsRow w.heap.size 3 1 (.slice x.2.1 x.1.bs.length x.2.2) x.1.bs.length (intsV .i64 x.1.bs)
theorem shst_le (d : FlowD) (Ls : List Int) (a : Nat) : ∀ (l : List Int) (s : List Int × Nat), (l.foldl (shB Ls) s).2 ≤ s.2 + l.length ∧ (l.foldl (shB Ls) s).1.length = s.1.length + l.length
 | [], s => ⟨Nat.le_refl _, rfl⟩
 | n :: r, s => by
  obtain ⟨h1, h2⟩ := shst_le d Ls a r (shB Ls s n); have h3 : (shB Ls s n).2 ≤ s.2 + 1 := by unfold shB; split <;> simp
  have h4 : (shB Ls s n).1.length = s.1.length + 1 := by unfold shB; split <;> simp [swapL_len]
  simp only [List.foldl_cons, List.length_cons]; omega
theorem fnTo_le (d : FlowD) (i : Int) (n : Nat) : (fnTo d i n).length ≤ n := by
 unfold fnTo; rw [List.length_map]; have := List.length_filter_le (fun k => (d.blocks.getD k blkZ).fn == i) (List.range n); simpa using this
theorem shP_le (d : FlowD) (Ls : List Int) : ∀ k, ((List.range k).foldl (shP d Ls) ([], 0)).2 ≤ k * (d.blocks.length + 1) ∧ ((List.range k).foldl (shP d Ls) ([], 0)).1.length = k
 | 0 => ⟨Nat.zero_le _, rfl⟩
 | k + 1 => by
  obtain ⟨h1, h2⟩ := shP_le d Ls k; rw [List.range_succ, List.foldl_append]; obtain ⟨s, hs⟩ := ex' ((List.range k).foldl (shP d Ls) ([], 0))
  rw [hs] at h1 h2 ⊢; have h3 := (shst_le d Ls 0 (fnBs d k) ([], s.2)).1; have h4 := fnTo_le d k d.blocks.length; have h5 : (fnBs d (k : Int)).length ≤ d.blocks.length := h4; simp only at h3; refine ⟨?_, ?_⟩
  · show ((fnBs d k).foldl (shB Ls) ([], s.2)).2 + 1 ≤ _; rw [Nat.add_mul, Nat.one_mul]; omega
  · show (swapL partZ _ _ _).length = _; rw [swapL_len, List.length_append, h2]
    rfl
set_option maxHeartbeats 16000000 in
set_option maxRecDepth 100000 in
theorem shuffled_any (d : FlowD) (xA yA zA : Option Addr) (xc yc zc : Nat) (Ls : List Int) (lA : Option Addr) (ln lc : Nat) (w : World) (hF : FlowRd w xA xc yA yc zA zc d) (hR : RdG w w.heap.size lA (intsV .i64 Ls)) (hn : Ls.length = ln) (hc : ln ≤ lc) (hl : ln ≤ 140737488355328) (hN : ∀ x ∈ Ls, N64 x) (hB1 : d.blocks.length ≤ 2000) (hB2 : d.firsts.length ≤ 40) :
 Calls Tryd.prog 16 #[.agg (flowV d xA yA zA xc yc zc), .slice lA ln lc] w (ShfPost w d Ls) := by
 have HPO : Hid (∀ e w' A c lv, e = .returned (.slice A lv.length c) → Below w.heap.size w w' → lv.map Prod.fst = shL d Ls → w'.ownsRow w.heap.size 66 2 (.slice A lv.length c) lv.length (partsV lv) → (∀ x ∈ lv, w'.ownsRow w.heap.size 3 1 (.slice x.2.1 x.1.bs.length x.2.2) x.1.bs.length (intsV .i64 x.1.bs)) → ShfPost w d Ls e w') := hd' fun e w' A c lv h1 h2 h3 h4 h5 => ⟨h2, A, c, lv, h1, h3, h4, h5⟩
 unfold flowV; obtain ⟨NB, hNB⟩ := ex' d.blocks.length
 obtain ⟨nt, hnt⟩ := ex' d.tables.length
 obtain ⟨nz, hnz⟩ := ex' d.firsts.length
 rw [hNB] at hB1 ⊢; rw [hnz] at hB2 ⊢; rw [hnt]; have hxcap : NB ≤ xc := by rw [← hNB]; exact hF.fst.2.2
 have HF := hd' hF; have HR := hd' hR; have HN := hd' hn; have HC := hd' (And.intro hc hl); have HN64 := hd' hN; have HNB := hd' hNB; have HNZ := hd' hnz; clear hF hR hn hc hl hN hNB hnt hnz
 go_enter Tryd.func16, Tryd.ntmps16
 go_upto_region 3 with fail
 obtain ⟨W1, hW1⟩ := ex' (((w.alloc (.cells #[.slice xA NB xc, .slice yA nt yc, .slice zA nz zc] 45)).alloc (.cells #[.slice lA ln lc] 35)).alloc (.cells #[.int .i64 0] 3))
 rw [hW1]; have hf1 : Blk W1 w.heap.size 45 [.slice xA NB xc, .slice yA nt yc, .slice zA nz zc] := by rw [← hW1]; exact Blk.alloc (Blk.alloc (Blk.new w _ _) _) _
 have hl1 : Blk W1 (w.heap.size + 1) 35 [.slice lA ln lc] := by rw [← hW1]; exact Blk.alloc (Blk.new2 w _ _ _) _
 have ha1 : Blk W1 (w.heap.size + 1 + 1) 3 [.int .i64 0] := by
  rw [← hW1]; have := Blk.new ((w.alloc (.cells #[.slice xA NB xc, .slice yA nt yc, .slice zA nz zc] 45)).alloc (.cells #[.slice lA ln lc] 35)) [.int .i64 0] 3; simpa using this
 have hb1 : Below w.heap.size w W1 := by rw [← hW1]; exact (((Below.refl _ _).alloc lr' _).alloc (by simp) _).alloc (by simp; omega) _
 obtain ⟨BF, hBF⟩ := ex' w.heap.size
 have HBF := hd' hBF; rw [hBF] at hf1 hl1 ha1 ⊢; obtain ⟨LV, hLV⟩ := ex' (BF + 1)
 rw [hLV] at hl1 ha1 ⊢; obtain ⟨AT, hAT⟩ := ex' (LV + 1)
 rw [hAT] at ha1 ⊢; have HAD := hd' (And.intro hLV hAT); have HW1 := hd' hb1; have HF1 := hd' hf1; have HL1 := hd' hl1; have HA1 := hd' ha1; have hW1s : AT < W1.heap.size := ha1.lt; obtain ⟨B, hB⟩ := ex' W1.heap.size
 have HBE := hd' hB; rw [hB] at hW1s
 have HNXT : Hid (∀ (W : World) (a : Nat), Below w.heap.size w W → Blk W AT 3 [.int .i64 a] → Blk W LV 35 [.slice lA ln lc] → a ≤ 1000000 → Calls Tryd.prog 34 #[.pointer (some ⟨AT, 0, none⟩), .pointer (some ⟨LV, 0, none⟩)] W fun e w' => e = .returned (.int .i64 (nxL Ls (a + 1))) ∧ ∃ n, w' = (W.setCell ⟨AT, 0, none⟩ (.int .i64 ((a + 1 : Nat) : Int))).drewN n) := hd' fun W a h1 h2 h3 h4 =>
  next_any Ls lA ln lc AT LV a w.heap.size W h2 h3 HN.out (HR.out.below h1) HC.out.1 HC.out.2 h4 (by have := HBF.out; have := HAD.out; omega) (by have := HAD.out; omega)
 have HPIC : Hid (∀ (W : World) (a many : Nat), 0 < many → many ≤ 100000 → Calls Tryd.prog 9 #[.int .i64 (nxL Ls a), .int .i64 (many : Int)] W fun e w' => e = .returned (.int .i64 (pickL (nxL Ls a) many)) ∧ W = w') := hd' fun W a many h1 h2 => by
  have hx : N64 (nxL Ls a) := by
   unfold nxL
   split
   · exact ⟨by decide, by decide⟩
   · rename_i h
     have hlt : a % Ls.length < Ls.length := Nat.mod_lt _ (by omega); rw [List.getD_eq_getElem?_getD, gE' hlt]; exact HN64.out _ (List.getElem_mem hlt)
  exact picked_any _ _ W hx.1 hx.2 (by omega) (by omega)
 clear hW1 hf1 hl1 ha1 hb1 hBF hLV hAT hB; have f2 := HF1.out.cell 2 rfl; have fl := HF1.out.lt
 go_wp2_with fail
 go_loopg [5, 20] nz (fun gk s5 s20 wr => ∃ (k a : Nat) (oA : Option Addr) (oc : Nat) (lv : List (PartD × Option Addr × Nat)), k ≤ nz ∧ s20 = .int .i64 k ∧ s5 = .slice oA k oc ∧ lv.length = k ∧ Hid (((List.range k).foldl (shP d Ls) ([], 0)) = (lv.map Prod.fst, a)) ∧ Hid (Below w.heap.size w wr) ∧ Hid (B ≤ wr.heap.size) ∧ Hid (Blk wr BF 45 [.slice xA NB xc, .slice yA nt yc, .slice zA nz zc]) ∧ Hid (Blk wr LV 35 [.slice lA ln lc]) ∧ Hid (Blk wr AT 3 [.int .i64 a]) ∧ Hid (wr.ownsRow B 66 2 (.slice oA k oc) k (partsV lv)) ∧ Hid (∀ x ∈ lv, wr.ownsRow B 3 1 (.slice x.2.1 x.1.bs.length x.2.2) x.1.bs.length (intsV .i64 x.1.bs)) ∧ nz - k ≤ gk)
 case atStart => exact ⟨0, 0, none, 0, [], Nat.zero_le _, rfl, rfl, rfl, hd' rfl, HW1, hd' (by rw [← HBE.out]; exact Nat.le_refl _), HF1, HL1, HA1, hd' ⟨rfl, .inl ⟨rfl, rfl⟩⟩, hd' (fun x hx => by cases hx), Nat.le_refl _⟩
 case round =>
  clear f2 fl HF1 HL1 HA1 HW1 HBE; obtain ⟨k, a, oA, oc, lv, hk, rfl, rfl, hlvn, HST, HBW, HBS, HF1, HL1, HA1, HOP, HOB, hgk⟩ := hrel
  rename World => wo
  have HLVN := hd' hlvn; clear hlvn
  by_cases hlt : k < nz
  · have hltK : (k : Int) < (nz : Int) := by omega
    have ha0 : a ≤ 100000 := by
     have h1 := (shP_le d Ls k).1; rw [HST.out] at h1; simp only [HNB.out] at h1; have h2 : k * (NB + 1) ≤ 40 * 2001 := Nat.mul_le_mul (by omega) (by omega); omega
    have f0 := HF1.out.cell 0 rfl; have fl := HF1.out.lt
    go_upto_block 2 with fail
    obtain ⟨U, hU⟩ := ex' (wo.alloc (.cells #[.int .i64 (k : Int), .slice none 0 0] 66))
    rw [hU]; have hbU : Below wo.heap.size wo U := by rw [← hU]; exact (Below.refl _ _).alloc lr' _
    have hpU : Blk U wo.heap.size 66 [.int .i64 (k : Int), .slice none 0 0] := by rw [← hU]; exact Blk.new wo _ _
    obtain ⟨H, hH⟩ := ex' wo.heap.size
    have HH := hd' hH; have HFU : Hid (FrI H AT wo U) := hd' ((FrI.refl H AT wo).below hbU (by omega)); have HBU := hd' (HBW.out.trans (hbU.mono HBW.out.size)); have HAU := hd' (HA1.out.keep hbU); have HLU := hd' (HL1.out.keep hbU); rw [hH] at hpU ⊢; have HPU := hd' hpU; have hHU : H < U.heap.size := hpU.lt; have hATH : AT < H := by have := HA1.out.lt; omega
    have hLVH : LV < H := by have := HL1.out.lt; omega
    clear hU hbU hpU hH f0 fl
    go_cut [] (fun wx => ∃ (a' : Nat) (pA : Option Addr) (pn pc : Nat) (cur : List Int), Hid ((fnBs d k).foldl (shB Ls) ([], a) = (cur, a')) ∧ Hid (cur.length = pn) ∧ a' ≤ a + 2000 ∧ Hid (FrI H AT wo wx) ∧ Hid (Below w.heap.size w wx) ∧ Hid (Blk wx AT 3 [.int .i64 a']) ∧ Hid (Blk wx H 66 [.int .i64 (k : Int), .slice pA pn pc]) ∧ Hid (wx.ownsRow H 3 1 (.slice pA pn pc) pn (intsV .i64 cur)))
    case first =>
     go_wp2_with fail
     go_loopg [28] NB (fun gk s28 wr => ∃ (n a' : Nat) (pA : Option Addr) (pn pc : Nat) (cur : List Int), n ≤ NB ∧ s28 = .int .i64 n ∧ Hid ((fnTo d k n).foldl (shB Ls) ([], a) = (cur, a')) ∧ Hid (cur.length = pn) ∧ Hid (FrI H AT wo wr) ∧ Hid (Below w.heap.size w wr) ∧ Hid (Blk wr AT 3 [.int .i64 a']) ∧ Hid (Blk wr H 66 [.int .i64 (k : Int), .slice pA pn pc]) ∧ Hid (wr.ownsRow H 3 1 (.slice pA pn pc) pn (intsV .i64 cur)) ∧ NB - n ≤ gk)
     case atStart => exact ⟨0, a, none, 0, 0, [], Nat.zero_le _, rfl, hd' rfl, hd' rfl, HFU, HBU, HAU, HPU, hd' ⟨rfl, .inl ⟨rfl, rfl⟩⟩, Nat.le_refl _⟩
     case round =>
      clear HFU HBU HAU HLU HPU; obtain ⟨n, a', pA, pn, pc, cur, hn, rfl, HCU, HPN, HFR, HBR, HAR, HPR, HOW, hgk2⟩ := hrel
      rename World => w2
      by_cases hnlt : n < NB
      · have hnI : (n : Int) < (NB : Int) := by omega
        have hn0 : (0 : Int) ≤ (n : Int) := by omega
        have hbi : d.blocks[n]? = some (d.blocks.getD n blkZ) := by
         rw [List.getD_eq_getElem?_getD, gE' (by have := HNB.out; omega)]
         rfl
        obtain ⟨b, hbe⟩ := ex' (d.blocks.getD n blkZ)
        rw [hbe] at hbi; obtain ⟨v, g, o, hxA, hgl, -, hcs⟩ := (HF.out.below HBR.out).at hbi; have hfts := fnTo_succ d (k : Int) n; rw [hbe] at hfts; have hsl := shst_le d Ls 0 (fnTo d k n) ([], a); rw [HCU.out] at hsl; simp only [List.length_nil, Nat.zero_add] at hsl; have hfl2 := fnTo_le d (k : Int) n; have hpnb : pn ≤ 2000 := by have := HPN.out; omega
        have hab : a' ≤ 1000000 := by omega
        obtain ⟨bf, bst, bco, bat, ⟨lk, lld, la, lb, lnn, llb⟩, ben, bds, bel, bli⟩ := b; obtain ⟨cA, cc, aA, ac, liA, lic⟩ := v; obtain ⟨bcn, hbcn⟩ := ex' bco.length
        obtain ⟨ban, hban⟩ := ex' bat.length
        obtain ⟨bln, hbln⟩ := ex' bli.length
        have c0 := hcs 0 _ rfl; have c1 := hcs 1 _ rfl; have c2 := hcs 2 _ rfl; have c3 := hcs 3 _ rfl; have c4 := hcs 4 _ rfl; have c5 := hcs 5 _ rfl; have c6 := hcs 6 _ rfl; have c7 := hcs 7 _ rfl; have c8 := hcs 8 _ rfl; have c9 := hcs 9 _ rfl; have c10 := hcs 10 _ rfl; have c11 := hcs 11 _ rfl; have c12 := hcs 12 _ rfl; have c13 := hcs 13 _ rfl; simp only [Nat.add_zero] at c0 c1 c2 c3 c4 c5 c6 c7 c8 c9 c10 c11 c12 c13; simp only [hbcn, hban, hbln] at c2 c3 c13; simp only at hfts; subst hxA; have HFTS := hd' hfts; clear hbi hbe hcs hfts hsl hfl2 hbcn hban hbln
        go_upto_if 36 with fail
        obtain ⟨U, hU⟩ := ex' (w2.alloc (.cells #[.int .i64 bf, .int .i64 bst, .slice cA bcn cc, .slice aA ban ac, .int .i64 lk, .int .i64 lld, .int .i64 la, .int .i64 lb, .int .i64 lnn, .bool llb, .int .i64 ben, .int .i64 bds, .int .i64 bel, .slice liA bln lic] 57))
        rw [hU]; have hbU : Below w2.heap.size w2 U := by rw [← hU]; exact (Below.refl _ _).alloc lr' _
        have hH2 : H ≤ w2.heap.size := by have h1 := HFR.out.1; have h2 := HH.out; omega
        have HFU := hd' (HFR.out.below hbU hH2); have HBU := hd' (HBR.out.trans (hbU.mono HBR.out.size)); have HAU := hd' (HAR.out.keep hbU); have HPU := hd' (HPR.out.keep hbU); have HOU := hd' (own_keep HOW.out hbU); have HSU : Hid (H ≤ U.heap.size) := hd' (Nat.le_trans hH2 hbU.size); clear hU hbU hH2 hgl c0 c1 c2 c3 c4 c5 c6 c7 c8 c9 c10 c11 c12 c13 HFR HBR HAR HPR HOW
        by_cases hfn : bf = (k : Int)
        · have HCN : Hid ((fnTo d k (n + 1)).foldl (shB Ls) ([], a) = shB Ls (cur, a') n) := hd' (by
           have := HFTS.out; rw [if_pos hfn] at this; rw [this, List.foldl_append, HCU.out]
           rfl)
          have q36 : (bf != (k : Int)) = false := by simp [hfn]
          have p1 := HPU.out.cell 1 rfl; have pf1 := HPU.out.free 1; have pl := HPU.out.lt; have hsU := HSU.out; clear hfn
          go_upto_region 13 with (first | (at_builtin; refine app_one rfl _ _ 35 3 1 8 _ Tryd.underlying35 infoIntS rfl (by decide) rfl H _ pn _ rfl (World.ownsRow.alloc HOU.out _) U.heap.size 1 rfl [.int .i64 (n : Int)] 3 (0, 0) (heap_alloc_new U _) rfl (by simp [Value.oneCell']) (by omega) (by omega) (by simp; omega) (U.heap.size + 1) (by simp) ?a1))
          case a1 =>
           intro g2 c2 w3 ho3 hgr3 hat3 hlt3; have hbD : Below U.heap.size U (U.alloc (.cells #[.int .i64 (n : Int)] 3)) := (Below.refl _ _).alloc lr' _; have hty : ∀ q, (Value.slice pA pn pc).ownBlock = some q → H ≤ q := fun q e => (World.ownsRow.lt HOU.out q e).1
           have hAD := (HAU.out.keep hbD).gb hgr3 (fun e => by have := hty AT e; omega); have hPD := (HPU.out.keep hbD).keepT hgr3 (fun q e => own_typ (World.ownsRow.alloc HOU.out _) e) (by decide); have hFD := (HFU.out.below hbD HSU.out).gb hgr3 (fun q e => .inr (hty q e)) (Nat.le_trans HSU.out hbD.size); have hBD := below_gb (HBU.out.trans (hbD.mono HBU.out.size)) hgr3 (fun q e => by have := hty q e; have := HBW.out.size; have := HH.out; omega); have gX := gb_setCell (gb_refl w3 (some H)) 1 (.slice (some ⟨g2, 0, none⟩) (pn + 1) c2)
           have tX : ∀ q, some H = some q → TypB w3 q 66 := fun q e => by injection e with e; subst e; exact hPD.typ
           have hs3 : H ≤ w3.heap.size := by have := hFD.1; have := HH.out; omega
           have HA3 := hd' (hAD.keepT gX tX (by decide)); have HP3 := hd' (hPD.set 1 (.slice (some ⟨g2, 0, none⟩) (pn + 1) c2)); have HF3 := hd' (hFD.gb gX (fun q e => by injection e with e; exact .inr (by omega)) hs3); have HB3 := hd' (below_gb hBD gX (fun q e => by injection e with e; have := HBW.out.size; have := HH.out; omega))
           have HO3 : Hid ((w3.setCell ⟨H, 1, none⟩ (.slice (some ⟨g2, 0, none⟩) (pn + 1) c2)).ownsRow H 3 1 (.slice (some ⟨g2, 0, none⟩) (pn + 1) c2) (pn + 1) (intsV .i64 (cur ++ [(n : Int)]))) := hd' (own_keepT (by simpa [intsV] using ho3) gX tX (by decide)); have y1 := hPD.cell 1 rfl; have yf1 := hPD.free 1; have yl := hPD.lt; clear hbD hty hAD hPD hFD hBD gX tX hs3 ho3 hgr3 hat3 hlt3 p1 pf1 pl HFU HBU HAU HPU HOU HSU hsU
           go_upto_region 13 with fail
           obtain ⟨W3, hW3⟩ := ex' (w3.setCell ⟨H, 1, none⟩ (.slice (some ⟨g2, 0, none⟩) (pn + 1) c2))
           rw [hW3] at HA3 HP3 HF3 HB3 HO3 ⊢; clear hW3 y1 yf1 yl; have p1 := HP3.out.cell 1 rfl; simp only [List.set_cons_succ, List.set_cons_zero] at HP3; have pl := HP3.out.lt; have qk : IntKind.i64.wrap ((pn : Int) + 1 - 1) = (pn : Int) := by rw [IntWalk.i64_in _ (by omega)]; omega
           by_cases h1 : 1 < pn
           · have h1I : (1 : Int) < (pn : Int) := by omega
             have hLV3 : Blk W3 LV 35 [.slice lA ln lc] := (HF3.out.2 LV hLVH (by have := HAD.out; omega)).trans HL1.out; have HNX := hd' (HNXT.out W3 a' HB3.out HA3.out hLV3 hab); clear hLV3
             go_upto_region 15 with fail
             go_wp2_with fail
             refine HNX.out.mono ?_; rintro e w5 ⟨rfl, nn, rfl⟩; obtain ⟨W5, hW5⟩ := ex' ((W3.setCell ⟨AT, 0, none⟩ (.int .i64 ((a' + 1 : Nat) : Int))).drewN nn)
             have gA := gb_setCell (gb_refl W3 (some AT)) 0 (.int .i64 ((a' + 1 : Nat) : Int)); have hA5 : Blk W5 AT 3 [.int .i64 ((a' + 1 : Nat) : Int)] := by rw [← hW5]; exact (HA3.out.set 0 _).drewN nn
             have hP5 : Blk W5 H 66 [.int .i64 (k : Int), .slice (some ⟨g2, 0, none⟩) (pn + 1) c2] := by rw [← hW5]; exact (HP3.out.gb gA (fun e => by injection e with e; omega)).drewN nn
             have hs33 : H ≤ W3.heap.size := by have := HF3.out.1; have := HH.out; omega
             have hF5 : FrI H AT wo W5 := by rw [← hW5]; exact (HF3.out.gb gA (fun q e => by injection e with e; exact .inl e.symm) hs33).below (below_drewN (Below.refl _ _) nn) (Nat.le_trans hs33 gA.size)
             have hATB : w.heap.size ≤ AT := by have := HBF.out; have := HAD.out; omega
             have hB5 : Below w.heap.size w W5 := by rw [← hW5]; exact below_drewN (below_gb HB3.out gA (fun q e => by injection e with e; omega)) nn
             have hO5 : W5.ownsRow H 3 1 (.slice (some ⟨g2, 0, none⟩) (pn + 1) c2) (pn + 1) (intsV .i64 (cur ++ [(n : Int)])) := by
              rw [← hW5]; exact own_keep (own_gb HO3.out gA (fun e => by have := (World.ownsRow.lt HO3.out _ e).1; omega)) (below_drewN (Below.refl _ _) nn)
             rw [hW5]; have hpb := pickL_bd (nxL Ls (a' + 1)) (pn : Int) (by omega); have HPK := hd' (HPIC.out W5 (a' + 1) pn (by omega) (by omega)); obtain ⟨j, hj⟩ := Int.eq_ofNat_of_zero_le hpb.1; rw [hj] at HPK hpb; have HJ := hd' hj; have HA5 := hd' hA5; have HP5 := hd' hP5; have HF5 := hd' hF5; have HB5 := hd' hB5; have HO5 := hd' hO5; have hjp : j < pn := by omega
             have hs5 : H ≤ W5.heap.size := by have := hF5.1; have := HH.out; omega
             have qj : IntKind.i64.wrap (1 + (j : Int)) = ((j + 1 : Nat) : Int) := by rw [IntWalk.i64_in _ (by omega)]; omega
             clear hW5 gA hA5 hP5 hs33 hF5 hB5 hO5 hpb hj HA3 HP3 HF3 HB3 HO3 HNX p1 pl
             go_wp2_with fail
             refine HPK.out.mono ?_; rintro e w6 ⟨rfl, rfl⟩; have hlen : (cur ++ [(n : Int)]).length = pn + 1 := by rw [List.length_append, HPN.out]; rfl
             have hvj : (cur ++ [(n : Int)])[j + 1]? = some ((cur ++ [(n : Int)]).getD (j + 1) 0) := by
              rw [List.getD_eq_getElem?_getD, gE' (by omega)]
              rfl
             have hvk : (cur ++ [(n : Int)])[pn]? = some ((cur ++ [(n : Int)]).getD pn 0) := by
              rw [List.getD_eq_getElem?_getD, gE' (by omega)]
              rfl
             obtain ⟨vj, hvje⟩ := ex' ((cur ++ [(n : Int)]).getD (j + 1) 0)
             obtain ⟨vk, hvke⟩ := ex' ((cur ++ [(n : Int)]).getD pn 0)
             rw [hvje] at hvj; rw [hvke] at hvk; obtain ⟨e1, e2, e3⟩ := own_cellf HO5.out (intsV_at .i64 hvj); obtain ⟨e4, e5, -⟩ := own_cellf HO5.out (intsV_at .i64 hvk); have HO6 := hd' (own_set HO5.out (j + 1) (.int .i64 vk)); have HO7 := hd' (own_set HO6.out pn (.int .i64 vj)); have hz : ∃ u, ((intsV .i64 (cur ++ [(n : Int)])).set (j + 1) (.int .i64 vk))[pn]? = some u := ⟨_, gE' (by rw [List.length_set]; simp only [intsV, List.length_map]; omega)⟩
             obtain ⟨u6, hu6⟩ := hz; obtain ⟨z1, z2, z3⟩ := own_cellf HO6.out hu6; have hgH : H ≤ g2 := (World.ownsRow.lt HO5.out g2 rfl).1; have hgc := own_capG HO5.out
             have hgne : ¬ g2 = H := fun e => by
              have h1 := own_typ HO5.out (g := g2) rfl; rw [e] at h1; exact HP5.out.typ.ne h1 (by decide) rfl
             have p1 := HP5.out.cell 1 rfl; have pl := HP5.out.lt
             have HSW : Hid (intsV .i64 (swapL 0 (cur ++ [(n : Int)]) (j + 1) pn) = ((intsV .i64 (cur ++ [(n : Int)])).set (j + 1) (.int .i64 vk)).set pn (.int .i64 vj)) := hd' (by
              unfold swapL intsV
              rw [List.map_set, List.map_set, hvje, hvke])
             have HCM : Hid (shB Ls (cur, a') n = (swapL 0 (cur ++ [(n : Int)]) (j + 1) pn, a' + 1)) := hd' (by
              unfold shB; simp only [HPN.out]; rw [if_pos h1, HJ.out]; have e : (1 + ((j : Nat) : Int)).toNat = j + 1 := by omega
              rw [e])
             have hjI : ((j + 1 : Nat) : Int) < ((pn + 1 : Nat) : Int) := by omega
             have hj0 : (0 : Int) ≤ ((j + 1 : Nat) : Int) := by omega
             have hpI : (pn : Int) < ((pn + 1 : Nat) : Int) := by omega
             have hp0 : (0 : Int) ≤ (pn : Int) := by omega
             have HLEN := hd' hlen; obtain ⟨J, hJ⟩ := ex' (j + 1)
             rw [hJ] at e1 e2 HO6 HO7 z1 z2 HSW HCM hjI hj0 qj; obtain ⟨PN, hPN⟩ := ex' (pn + 1)
             rw [hPN] at hjI hpI hgc p1; clear hlen hvj hvk hvje hvke hu6 HPK
             go_upto_region 16 with fail
             refine wp_region_W (fun w' => w'.cell? ⟨H, 1, none⟩ = some (.slice (some ⟨g2, 0, none⟩) PN c2)) 20 (by kernel_rfl) (by (try dsimp only); go_keep) (fun zH => ?_); refine wq 0 zH ?_; refine wq 1 zH ?_; refine wq 2 zH ?_; refine wq 3 zH ?_; refine wq 4 zH ?_; refine wq 5 zH ?_; refine wq 6 zH ?_; refine wq 7 zH ?_; refine wq 8 zH ?_; refine wq 9 zH ?_; refine wq 11 zH ?_; refine wq 12 zH ?_; refine wq 13 zH ?_; refine wq 14 zH ?_; refine wpW_all [10, 15] (by kernel_rfl) (by simp) ?_; refine AllW.cons (i := 10) rfl (fun K hK => ?_) ?_
             · skip
               go_simp
               refine hK.out _ _ (by (try dsimp only); go_keep) (fun zH => ?_); clear hK K; (try simp only [putE]); refine wpW_one 15 rfl (by kernel_rfl) (fun K hK => ?_)
               go_simp
               refine hK.out _ _ (by (try dsimp only); go_keep) (fun zH => ?_); clear hK K; (try simp only [putE]); refine wq 16 zH ?_; refine wpW_one 17 rfl (by kernel_rfl) (fun K hK => ?_)
               go_simp
               refine hK.out _ _ (by (try dsimp only); go_keep) (fun zH => ?_); clear hK K; (try simp only [putE]); refine wq 18 zH ?_; refine wpW_one 19 rfl (by kernel_rfl) (fun K hK => ?_)
               go_simp
               refine hK.out _ _ (by (try dsimp only); go_keep) (fun zH => ?_); clear hK K; (try simp only [putE]); refine wpW_done (by kernel_rfl) ?_ _
               go_wp2_with fail
               go_roundg (NB - (n + 1))
               case measure => omega
               case rel =>
                have g7 := gb_setCell (gb_setCell (gb_refl W5 (some g2)) J (.int .i64 vk)) pn (.int .i64 vj); have t7 : ∀ q, some g2 = some q → TypB W5 q 3 := fun q e => by injection e with e; subst e; exact own_typ HO5.out rfl
                have hA7 := HA5.out.gb g7 (fun e => by injection e with e; omega); have hP7 := HP5.out.keepT g7 t7 (by decide); have hF7 := HF5.out.gb g7 (fun q e => by injection e with e; exact .inr (by omega)) hs5; have hB7 := below_gb HB5.out g7 (fun q e => by injection e with e; have := HBW.out.size; have := HH.out; omega)
                exact ⟨n + 1, a' + 1, some ⟨g2, 0, none⟩, pn + 1, c2, swapL 0 (cur ++ [(n : Int)]) J pn, by omega, by go_num, hd' (by rw [HCN.out, HCM.out]), hd' (by rw [swapL_len, HLEN.out]), hd' ⟨hF7.1, hF7.2⟩, hd' hB7.drew, hd' hA7.drew, hd' hP7.drew, hd' (by rw [HSW.out]; exact own_keep HO7.out (Below.refl _ _).drew), Nat.le_refl _⟩
             refine AllW.cons (i := 15) rfl (fun K hK => ?_) AllW.nil
             go_simp
             refine hK.out _ _ (by (try dsimp only); go_keep) (fun zH => ?_); clear hK K; (try simp only [putE]); refine wpW_one 10 rfl (by kernel_rfl) (fun K hK => ?_)
             go_simp
             refine hK.out _ _ (by (try dsimp only); go_keep) (fun zH => ?_); clear hK K; (try simp only [putE]); refine wq 16 zH ?_; refine wpW_one 17 rfl (by kernel_rfl) (fun K hK => ?_)
             go_simp
             refine hK.out _ _ (by (try dsimp only); go_keep) (fun zH => ?_); clear hK K; (try simp only [putE]); refine wq 18 zH ?_; refine wpW_one 19 rfl (by kernel_rfl) (fun K hK => ?_)
             go_simp
             refine hK.out _ _ (by (try dsimp only); go_keep) (fun zH => ?_); clear hK K; (try simp only [putE]); refine wpW_done (by kernel_rfl) ?_ _
             go_wp2_with fail
             go_roundg (NB - (n + 1))
             case measure => omega
             case rel =>
              have g7 := gb_setCell (gb_setCell (gb_refl W5 (some g2)) J (.int .i64 vk)) pn (.int .i64 vj); have t7 : ∀ q, some g2 = some q → TypB W5 q 3 := fun q e => by injection e with e; subst e; exact own_typ HO5.out rfl
              have hA7 := HA5.out.gb g7 (fun e => by injection e with e; omega); have hP7 := HP5.out.keepT g7 t7 (by decide); have hF7 := HF5.out.gb g7 (fun q e => by injection e with e; exact .inr (by omega)) hs5; have hB7 := below_gb HB5.out g7 (fun q e => by injection e with e; have := HBW.out.size; have := HH.out; omega)
              exact ⟨n + 1, a' + 1, some ⟨g2, 0, none⟩, pn + 1, c2, swapL 0 (cur ++ [(n : Int)]) J pn, by omega, by go_num, hd' (by rw [HCN.out, HCM.out]), hd' (by rw [swapL_len, HLEN.out]), hd' ⟨hF7.1, hF7.2⟩, hd' hB7.drew, hd' hA7.drew, hd' hP7.drew, hd' (by rw [HSW.out]; exact own_keep HO7.out (Below.refl _ _).drew), Nat.le_refl _⟩
           · have h1I : ¬ (1 : Int) < (pn : Int) := by omega
             have HCM : Hid (shB Ls (cur, a') n = (cur ++ [(n : Int)], a')) := hd' (by
              unfold shB; simp only [HPN.out]
              rw [if_neg h1])
             go_wp2_with fail
             go_roundg (NB - (n + 1))
             case measure => omega
             case rel => exact ⟨n + 1, a', _, pn + 1, c2, _, by omega, by go_num, hd' (by rw [HCN.out, HCM.out]), hd' (by rw [List.length_append, HPN.out]; rfl), HF3, HB3, HA3, HP3, HO3, Nat.le_refl _⟩
        · have q36 : (bf != (k : Int)) = true := by simpa using hfn
          have HCN : Hid ((fnTo d k (n + 1)).foldl (shB Ls) ([], a) = (cur, a')) := hd' (by
           have := HFTS.out; rw [if_neg hfn, List.append_nil] at this; rw [this]
           exact HCU.out)
          clear hfn
          go_wp2_with fail
          go_roundg (NB - (n + 1))
          case measure => omega
          case rel => exact ⟨n + 1, a', pA, pn, pc, cur, by omega, by go_num, HCN, HPN, HFU, HBU, HAU, HPU, HOU, Nat.le_refl _⟩
      · have hnI : ¬ (n : Int) < (NB : Int) := by omega
        obtain rfl : n = NB := by omega
        have hsl := shst_le d Ls 0 (fnTo d k n) ([], a); rw [HCU.out] at hsl; simp only at hsl; have hfl2 := fnTo_le d (k : Int) n; have hCU := HCU.out; rw [← HNB.out] at hCU
        go_wp2_with fail
        go_meet
        exact ⟨a', pA, pn, pc, cur, hd' hCU, HPN, by omega, HFR, HBR, HAR, HPR, HOW⟩
    case rest =>
    obtain ⟨a', pA, pn, pc, cur, HCU, HPN, ha2, HFR, HBR, HAR, HPR, HOW⟩ := hcut; clear HFU HBU HAU HLU HPU; have hfb : BF < H := by have h1 := HF1.out.lt; have h2 := HH.out; omega
    have hFc : Blk wc BF 45 [.slice xA NB xc, .slice yA nt yc, .slice zA nz zc] := (HFR.out.2 BF hfb (by have := HAD.out; omega)).trans HF1.out; have hLc : Blk wc LV 35 [.slice lA ln lc] := (HFR.out.2 LV hLVH (by have := HAD.out; omega)).trans HL1.out; have hOPc := own_same (w' := wc) HOP.out (fun g e => HFR.out.2 g (by have h1 := (World.ownsRow.lt HOP.out g e).2; have h2 := HH.out; omega) (by have h1 := (World.ownsRow.lt HOP.out g e).1; omega)); have hHB : B ≤ H := by have h1 := HBS.out; have h2 := HH.out; omega
    have hROW : ∀ x ∈ lv ++ [((⟨(k : Int), cur⟩ : PartD), pA, pc)], wc.ownsRow B 3 1 (.slice x.2.1 x.1.bs.length x.2.2) x.1.bs.length (intsV .i64 x.1.bs) := fun x hx => by
     rcases List.mem_append.1 hx with hx | hx
     · exact own_same (HOB.out x hx) (fun g e => HFR.out.2 g (by have h1 := (World.ownsRow.lt (HOB.out x hx) g e).2; have h2 := HH.out; omega) (by have h1 := (World.ownsRow.lt (HOB.out x hx) g e).1; omega))
     · rw [List.mem_singleton] at hx; subst hx; have h1 := own_more HOW.out hHB; simp only [HPN.out]; exact h1
    have hATc := HAR.out; have hsc : H ≤ wc.heap.size := by have h1 := HFR.out.1; have h2 := HH.out; omega
    have HFc := hd' hFc; have HLc := hd' hLc; have HOPc := hd' hOPc; have HROW := hd' hROW; have p0 := HPR.out.cell 0 rfl; have p1 := HPR.out.cell 1 rfl; have pl := HPR.out.lt; clear hFc hLc hOPc hROW hATc HF1 HL1 HA1 HOP HOB hfb
    go_upto_region 19 with (first | (at_builtin; refine app_one rfl _ _ 51 66 2 32 _ Tryd.underlying51 infoPartS rfl (by decide) rfl B _ k _ rfl (World.ownsRow.alloc HOPc.out _) wc.heap.size 1 rfl [.int .i64 (k : Int), .slice pA pn pc] 66 (0, 0) (heap_alloc_new wc _) rfl (by simp [Value.oneCell']) (by omega) (by omega) (by simp; omega) (wc.heap.size + 1) (by simp) ?a1))
    case a1 =>
     intro g2 c2 w3 ho3 hgr3 hat3 hlt3; have hbD : Below wc.heap.size wc (wc.alloc (.cells #[.int .i64 (k : Int), .slice pA pn pc] 66)) := (Below.refl _ _).alloc lr' _; have hty : ∀ q, (Value.slice oA k oc).ownBlock = some q → TypB (wc.alloc (.cells #[.int .i64 (k : Int), .slice pA pn pc] 66)) q 66 := fun q e => own_typ (World.ownsRow.alloc HOPc.out _) e
     have hF3 := (HFc.out.keep hbD).keepT hgr3 hty (by decide); have hL3 := (HLc.out.keep hbD).keepT hgr3 hty (by decide); have hA3 := (HAR.out.keep hbD).keepT hgr3 hty (by decide); have hB3 : Below w.heap.size w w3 := below_gb (HBR.out.trans (hbD.mono HBR.out.size)) hgr3 (fun q e => by have h1 := (World.ownsRow.lt HOPc.out q e).1; have h2 := HBF.out; have h3 := HAD.out; omega); have hs3 : B ≤ w3.heap.size := by have h1 := hgr3.size; have h2 := hbD.size; omega
     have hR3 : ∀ x ∈ lv ++ [((⟨(k : Int), cur⟩ : PartD), pA, pc)], w3.ownsRow B 3 1 (.slice x.2.1 x.1.bs.length x.2.2) x.1.bs.length (intsV .i64 x.1.bs) := fun x hx => own_keepT (own_keep (HROW.out x hx) hbD) hgr3 hty (by decide)
     have hO3 : w3.ownsRow B 66 2 (.slice (some ⟨g2, 0, none⟩) (k + 1) c2) (k + 1) (partsV (lv ++ [((⟨(k : Int), cur⟩ : PartD), pA, pc)])) := by
      have e : partsV (lv ++ [((⟨(k : Int), cur⟩ : PartD), pA, pc)]) = partsV lv ++ [.int .i64 (k : Int), .slice pA pn pc] := by
       unfold partsV; rw [List.flatMap_append]; simp [partC, HPN.out]
      rw [e]; exact ho3
     have HNX := hd' (HNXT.out w3 a' hB3 hA3 hL3 (by omega)); have HF3 := hd' hF3; have HL3 := hd' hL3; have HA3 := hd' hA3; have HB3 := hd' hB3; have HS3 := hd' hs3; have HR3 := hd' hR3; have HO3 := hd' hO3; clear hbD hty hF3 hL3 hA3 hB3 hs3 hR3 hO3 ho3 hgr3 hat3 hlt3 HFc HLc HOPc HROW HAR HPR HOW HFR HBR p0 p1 pl; have qk : IntKind.i64.wrap ((k : Int) + 1 - 1) = (k : Int) := by rw [IntWalk.i64_in _ (by omega)]; omega
     have qk1 : IntKind.i64.wrap ((k : Int) + 1) = ((k + 1 : Nat) : Int) := by rw [IntWalk.i64_in _ (by omega)]; omega
     go_upto_region 20 with fail
     go_wp2_with fail
     refine HNX.out.mono ?_; rintro e w5 ⟨rfl, nn, rfl⟩; obtain ⟨W5, hW5⟩ := ex' ((w3.setCell ⟨AT, 0, none⟩ (.int .i64 ((a' + 1 : Nat) : Int))).drewN nn)
     have gA := gb_setCell (gb_refl w3 (some AT)) 0 (.int .i64 ((a' + 1 : Nat) : Int)); have hA5 : Blk W5 AT 3 [.int .i64 ((a' + 1 : Nat) : Int)] := by rw [← hW5]; exact (HA3.out.set 0 _).drewN nn
     have hF5 : Blk W5 BF 45 [.slice xA NB xc, .slice yA nt yc, .slice zA nz zc] := by rw [← hW5]; exact (HF3.out.gb gA (fun e => by injection e with e; have := HAD.out; omega)).drewN nn
     have hL5 : Blk W5 LV 35 [.slice lA ln lc] := by rw [← hW5]; exact (HL3.out.gb gA (fun e => by injection e with e; have := HAD.out; omega)).drewN nn
     have hATB : w.heap.size ≤ AT := by have := HBF.out; have := HAD.out; omega
     have hB5 : Below w.heap.size w W5 := by rw [← hW5]; exact below_drewN (below_gb HB3.out gA (fun q e => by injection e with e; omega)) nn
     have hO5 : W5.ownsRow B 66 2 (.slice (some ⟨g2, 0, none⟩) (k + 1) c2) (k + 1) (partsV (lv ++ [((⟨(k : Int), cur⟩ : PartD), pA, pc)])) := by
      rw [← hW5]; exact own_keep (own_gb HO3.out gA (fun e => by have := (World.ownsRow.lt HO3.out _ e).1; omega)) (below_drewN (Below.refl _ _) nn)
     have hR5 : ∀ x ∈ lv ++ [((⟨(k : Int), cur⟩ : PartD), pA, pc)], W5.ownsRow B 3 1 (.slice x.2.1 x.1.bs.length x.2.2) x.1.bs.length (intsV .i64 x.1.bs) := fun x hx => by
      rw [← hW5]; exact own_keep (own_gb (HR3.out x hx) gA (fun e => by have := (World.ownsRow.lt (HR3.out x hx) _ e).1; omega)) (below_drewN (Below.refl _ _) nn)
     have hs5 : B ≤ W5.heap.size := by rw [← hW5]; exact Nat.le_trans HS3.out gA.size
     rw [hW5]; have hpb := pickL_bd (nxL Ls (a' + 1)) ((k + 1 : Nat) : Int) (by omega); have HPK := hd' (HPIC.out W5 (a' + 1) (k + 1) (by omega) (by omega)); obtain ⟨j, hj⟩ := Int.eq_ofNat_of_zero_le hpb.1; rw [hj] at HPK hpb; have HJ := hd' hj; have HA5 := hd' hA5; have HF5 := hd' hF5; have HL5 := hd' hL5; have HB5 := hd' hB5; have HO5 := hd' hO5; have HR5 := hd' hR5; have HS5 := hd' hs5; have hjk : j < k + 1 := by omega
     clear hW5 gA hA5 hF5 hL5 hB5 hO5 hR5 hs5 hpb hj HA3 HF3 HL3 HB3 HO3 HR3 HS3 HNX
     go_wp2_with fail
     refine HPK.out.mono ?_; rintro e w6 ⟨rfl, rfl⟩; obtain ⟨lw, hlw⟩ := ex' (lv ++ [((⟨(k : Int), cur⟩ : PartD), pA, pc)])
     have hlwn : lw.length = k + 1 := by rw [← hlw, List.length_append, HLVN.out]; rfl
     have hlwm : lw.map Prod.fst = lv.map Prod.fst ++ [⟨(k : Int), cur⟩] := by rw [← hlw, List.map_append]; rfl
     rw [hlw] at HO5 HR5; obtain ⟨xj, hxj⟩ := ex' (lw.getD j (partZ, none, 0))
     obtain ⟨xk, hxk⟩ := ex' (lw.getD k (partZ, none, 0))
     have hjx : lw[j]? = some xj := by
      rw [← hxj, List.getD_eq_getElem?_getD, gE' (by omega)]
      rfl
     have hkx : lw[k]? = some xk := by
      rw [← hxk, List.getD_eq_getElem?_getD, gE' (by omega)]
      rfl
     have HSW : Hid (partsV (swapL (partZ, none, 0) lw j k) = ((((partsV lw).set (j * 2) (.int .i64 xk.1.fn)).set (j * 2 + 1) (.slice xk.2.1 xk.1.bs.length xk.2.2)).set (k * 2) (.int .i64 xj.1.fn)).set (k * 2 + 1) (.slice xj.2.1 xj.1.bs.length xj.2.2)) := hd' (by
      unfold swapL
      rw [partsV_set _ (by rw [List.length_set]; omega), partsV_set _ (by omega), hxj, hxk])
     have HSHP : Hid (((List.range (k + 1)).foldl (shP d Ls) ([], 0)) = ((swapL (partZ, none, 0) lw j k).map Prod.fst, a' + 1)) := hd' (by
      rw [List.range_succ, List.foldl_append, HST.out, List.foldl_cons, List.foldl_nil]; unfold shP; simp only [HCU.out, List.length_map, HLVN.out]; have e1 : ((k : Int) + 1) = ((k + 1 : Nat) : Int) := by omega
      rw [e1, HJ.out, Int.toNat_natCast, swapL_map, hlwm])
     have HMEM : Hid (∀ x ∈ swapL (partZ, none, 0) lw j k, x ∈ lw) := hd' fun x hx => (swapL_perm _ lw (by omega) (by omega)).mem_iff.1 hx
     have HLWN := hd' hlwn; have j0 := partsV_at hjx 0 _ rfl; have j1 := partsV_at hjx 1 _ rfl; have k0 := partsV_at hkx 0 _ rfl; have k1 := partsV_at hkx 1 _ rfl; simp only [Nat.add_zero] at j0 k0; obtain ⟨⟨fj, bj⟩, Aj, cj⟩ := xj; obtain ⟨⟨fk, bk⟩, Ak, ck⟩ := xk; simp only at j0 j1 k0 k1 HSW; obtain ⟨nj, hnj⟩ := ex' bj.length
     obtain ⟨nk, hnk⟩ := ex' bk.length
     rw [hnj] at j1 HSW; rw [hnk] at k1 HSW; have a1 := own_cellf HO5.out j0; have a2 := own_cellf HO5.out j1; have a3 := own_cellf HO5.out k0; have a4 := own_cellf HO5.out k1; have hpl := partsV_len lw; have ex : ∀ (xs : List Value) (q : Nat), xs.length = (partsV lw).length → q < (k + 1) * 2 → ∃ u, xs[q]? = some u := fun xs q h1 h2 => ⟨_, gE' (by rw [h1, hpl, hlwn]; exact h2)⟩
     have hO6 := own_set HO5.out (j * 2) (.int .i64 fk); obtain ⟨u1, h1⟩ := ex ((partsV lw).set (j * 2) (.int .i64 fk)) (j * 2 + 1) (by rw [List.length_set]) (by omega); have b1 := own_cellf hO6 h1; have hO7 := own_set hO6 (j * 2 + 1) (.slice Ak nk ck); obtain ⟨u2, h2⟩ := ex (((partsV lw).set (j * 2) (.int .i64 fk)).set (j * 2 + 1) (.slice Ak nk ck)) (k * 2) (by rw [List.length_set, List.length_set]) (by omega); have b2 := own_cellf hO7 h2
     obtain ⟨u3, h3⟩ := ex (((partsV lw).set (j * 2) (.int .i64 fk)).set (j * 2 + 1) (.slice Ak nk ck)) (k * 2 + 1) (by rw [List.length_set, List.length_set]) (by omega); have b3 := own_cellf hO7 h3; have hO8 := own_set hO7 (k * 2) (.int .i64 fj); obtain ⟨u4, h4⟩ := ex ((((partsV lw).set (j * 2) (.int .i64 fk)).set (j * 2 + 1) (.slice Ak nk ck)).set (k * 2) (.int .i64 fj)) (k * 2 + 1) (by rw [List.length_set, List.length_set, List.length_set]) (by omega); have b4 := own_cellf hO8 h4; have hO9 := own_set hO8 (k * 2 + 1) (.slice Aj nj cj); have HO9 := hd' hO9; obtain ⟨a11, a12, a13⟩ := a1
     obtain ⟨a21, a22, -⟩ := a2; obtain ⟨a31, a32, -⟩ := a3; obtain ⟨a41, a42, -⟩ := a4; obtain ⟨b11, b12, -⟩ := b1; obtain ⟨b21, b22, b23⟩ := b2; obtain ⟨b31, b32, -⟩ := b3; obtain ⟨b41, b42, -⟩ := b4; have hgc := own_capG HO5.out; have hjI : (j : Int) < (k : Int) + 1 := by omega
     have hj0 : (0 : Int) ≤ (j : Int) := by omega
     have hkI : (k : Int) < (k : Int) + 1 := by omega
     have hk0 : (0 : Int) ≤ (k : Int) := by omega
     have lv0 := HL5.out.cell 0 rfl; have lvl := HL5.out.lt; have hgLV : ¬ g2 = LV := fun e => by have h5 := (World.ownsRow.lt HO5.out g2 rfl).1; have := HAD.out; omega
     clear hlw hlwn hlwm hxj hxk hjx hkx hnj hnk hpl ex hO6 hO7 hO8 hO9 h1 h2 h3 h4 j0 j1 k0 k1 HPK
     go_upto_region 21 with fail
     refine wp_region_W (fun w' => w'.cell? ⟨LV, 0, none⟩ = some (.slice lA ln lc)) 16 (by kernel_rfl) (by (try dsimp only); go_keep) (fun zH => ?_); refine wq 0 zH ?_; refine wq 1 zH ?_; refine wq 2 zH ?_; refine wq 3 zH ?_; refine wq 4 zH ?_; refine wq 5 zH ?_; refine wq 6 zH ?_; refine wq 8 zH ?_; refine wq 9 zH ?_
     refine wq 10 zH ?_; refine wpW_all [7, 11] (by kernel_rfl) (by simp) ?_; refine AllW.cons (i := 7) rfl (fun K hK => ?_) ?_
     · skip
       go_simp
       refine hK.out _ _ (by (try dsimp only); go_keep) (fun zH => ?_); clear hK K; (try simp only [putE]); refine wpW_one 11 rfl (by kernel_rfl) (fun K hK => ?_)
       go_simp
       refine hK.out _ _ (by (try dsimp only); go_keep) (fun zH => ?_); clear hK K; (try simp only [putE]); refine wq 12 zH ?_; refine wpW_one 13 rfl (by kernel_rfl) (fun K hK => ?_)
       go_simp
       refine hK.out _ _ (by (try dsimp only); go_keep) (fun zH => ?_); clear hK K; (try simp only [putE]); refine wq 14 zH ?_; refine wpW_one 15 rfl (by kernel_rfl) (fun K hK => ?_)
       go_simp
       refine hK.out _ _ (by (try dsimp only); go_keep) (fun zH => ?_); clear hK K; (try simp only [putE]); refine wpW_done (by kernel_rfl) ?_ _
       go_wp2_with fail
       go_roundg (nz - (k + 1))
       case measure => omega
       case rel =>
        have g7 := gb_setCell (gb_setCell (gb_setCell (gb_setCell (gb_refl W5 (some g2)) (j * 2) (.int .i64 fk)) (j * 2 + 1) (.slice Ak nk ck)) (k * 2) (.int .i64 fj)) (k * 2 + 1) (.slice Aj nj cj); have t7 : ∀ q, some g2 = some q → TypB W5 q 66 := fun q e => by injection e with e; subst e; exact own_typ HO5.out rfl
        have hA7 := HA5.out.keepT g7 t7 (by decide); have hF7 := HF5.out.keepT g7 t7 (by decide); have hL7 := HL5.out.keepT g7 t7 (by decide); have hB7 := below_gb HB5.out g7 (fun q e => by injection e with e; have h5 := (World.ownsRow.lt HO5.out g2 rfl).1; have h6 := HBF.out; have h7 := HAD.out; omega)
        refine ⟨k + 1, a' + 1, some ⟨g2, 0, none⟩, c2, swapL (partZ, none, 0) lw j k, by omega, by go_num, rfl, by rw [swapL_len]; exact HLWN.out, HSHP, hd' hB7.drew, hd' (Nat.le_trans HS5.out g7.size), hd' hF7.drew, hd' hL7.drew, hd' hA7.drew, hd' ?_, hd' (fun x hx => ?_), Nat.le_refl _⟩
        · rw [HSW.out]; exact own_keep HO9.out (Below.refl _ _).drew
        · exact own_keep (own_keepT (HR5.out x (HMEM.out x hx)) g7 t7 (by decide)) (Below.refl _ _).drew
     refine AllW.cons (i := 11) rfl (fun K hK => ?_) AllW.nil
     go_simp
     refine hK.out _ _ (by (try dsimp only); go_keep) (fun zH => ?_); clear hK K; (try simp only [putE]); refine wpW_one 7 rfl (by kernel_rfl) (fun K hK => ?_)
     go_simp
     refine hK.out _ _ (by (try dsimp only); go_keep) (fun zH => ?_); clear hK K; (try simp only [putE]); refine wq 12 zH ?_; refine wpW_one 13 rfl (by kernel_rfl) (fun K hK => ?_)
     go_simp
     refine hK.out _ _ (by (try dsimp only); go_keep) (fun zH => ?_); clear hK K; (try simp only [putE]); refine wq 14 zH ?_; refine wpW_one 15 rfl (by kernel_rfl) (fun K hK => ?_)
     go_simp
     refine hK.out _ _ (by (try dsimp only); go_keep) (fun zH => ?_); clear hK K; (try simp only [putE]); refine wpW_done (by kernel_rfl) ?_ _
     go_wp2_with fail
     go_roundg (nz - (k + 1))
     case measure => omega
     case rel =>
      have g7 := gb_setCell (gb_setCell (gb_setCell (gb_setCell (gb_refl W5 (some g2)) (j * 2) (.int .i64 fk)) (j * 2 + 1) (.slice Ak nk ck)) (k * 2) (.int .i64 fj)) (k * 2 + 1) (.slice Aj nj cj); have t7 : ∀ q, some g2 = some q → TypB W5 q 66 := fun q e => by injection e with e; subst e; exact own_typ HO5.out rfl
      have hA7 := HA5.out.keepT g7 t7 (by decide); have hF7 := HF5.out.keepT g7 t7 (by decide); have hL7 := HL5.out.keepT g7 t7 (by decide); have hB7 := below_gb HB5.out g7 (fun q e => by injection e with e; have h5 := (World.ownsRow.lt HO5.out g2 rfl).1; have h6 := HBF.out; have h7 := HAD.out; omega)
      refine ⟨k + 1, a' + 1, some ⟨g2, 0, none⟩, c2, swapL (partZ, none, 0) lw j k, by omega, by go_num, rfl, by rw [swapL_len]; exact HLWN.out, HSHP, hd' hB7.drew, hd' (Nat.le_trans HS5.out g7.size), hd' hF7.drew, hd' hL7.drew, hd' hA7.drew, hd' ?_, hd' (fun x hx => ?_), Nat.le_refl _⟩
      · rw [HSW.out]; exact own_keep HO9.out (Below.refl _ _).drew
      · exact own_keep (own_keepT (HR5.out x (HMEM.out x hx)) g7 t7 (by decide)) (Below.refl _ _).drew
  · have hltK : ¬ (k : Int) < (nz : Int) := by omega
    obtain rfl : k = nz := by omega
    have HSH : Hid (lv.map Prod.fst = shL d Ls) := hd' (by
     unfold shL
     rw [HNZ.out, HST.out])
    go_wp2_with fail
    go_ret
    have hbb : w.heap.size ≤ B := by have := HBF.out; have := HAD.out; omega
    exact HPO.out _ _ oA oc lv (by rw [HLVN.out]; rfl) HBW.out HSH.out (by rw [HLVN.out]; exact own_more HOP.out hbb) (fun x hx => own_more (HOB.out x hx) hbb)
end Go.Proofs.YtcafhoobeggmeaaDoor
