/- Emit's maker: pairs, walked: old and new places, by the old ones. -/
import Derived.Test.YtcafhoobeggmeaaDoorFlowN
import Derived.Test.YtcafhoobeggmeaaDoorShP
import Derived.Shelf.SlSortCmp.WholeK
import Derived.Shelf.SlSortCmp.NoneTotal
import Derived.Lib.OwnBridge
import Derived.Deep.DeepCutAuto
import Derived.Deep.CutBlock
import Derived.Deep.LoopGhost
import Derived.Deep.QuietTactic
import Derived.BigQuiet
import Derived.IntWalk
import Derived.WalkLawsBesides
namespace Go.Proofs.YtcafhoobeggmeaaDoor
open Go.RowKit Go.Deep
abbrev PairT : Type := { p : Int × Int // 0 ≤ p.1 ∧ p.1 ≤ 400000 }
instance : Inhabited PairT := ⟨⟨(0, 0), by decide⟩⟩
def pairE (x : PairT) : List Value := [.int .i64 x.1.1, .int .i64 x.1.2]
def pairCmp (x y : PairT) : Int := x.1.1 - y.1.1
theorem pairCmp_lt (x y : PairT) : ltOf pairCmp x y = decide (x.1.1 < y.1.1) := by
 unfold ltOf pairCmp
 congr 1
 apply propext; omega
theorem pairSWO : Go.Sort.SWO (ltOf pairCmp) where
 irrefl x := by rw [pairCmp_lt]; simp
 trans x y z h1 h2 := by rw [pairCmp_lt] at *; simp at *; omega
 ntrans x y z h1 h2 := by rw [pairCmp_lt] at *; simp at *; omega
set_option maxRecDepth 100000 in
theorem pairs_closure (x y : PairT) (W : World) : Calls Tryd.prog 55 #[.agg #[.int .i64 x.1.1, .int .i64 x.1.2], .agg #[.int .i64 y.1.1, .int .i64 y.1.2]] W fun e w' => e = .returned (.int .i64 (pairCmp x y)) ∧ ∃ q os', w' = Go.Sort.grow (W.drewN q) os' := by
 obtain ⟨⟨a, b⟩, h1, h2⟩ := x; obtain ⟨⟨c, d⟩, h3, h4⟩ := y; obtain ⟨r, hr⟩ := ex' (pairCmp ⟨(a, b), h1, h2⟩ ⟨(c, d), h3, h4⟩)
 have hr2 : a - c = r := hr; rw [hr]; simp only at h1 h2 h3 h4 ⊢; have qw : IntKind.i64.wrap (a - c) = r := by rw [IntWalk.i64_in _ (by omega)]; exact hr2
 clear hr hr2
 go_enter Tryd.func55, Tryd.ntmps55
 go_wp2
 go_ret
 exact ⟨rfl, 0, _, by rw [Go.Sort.alloc_eq_grow, Go.Sort.alloc_eq_grow, Go.Sort.grow_grow]; rfl⟩
theorem linesV_atP {L : List (Int × Int)} {i : Nat} {x : Int × Int} (h : L[i]? = some x) (q : Nat) (u : Value) (hu : ([.int .i64 x.1, .int .i64 x.2] : List Value)[q]? = some u) : (linesV L)[i * 2 + q]? = some u :=
 flat_at lineV 2 (fun _ => rfl) L i x h q u (by have h1 := (List.getElem?_eq_some_iff.1 hu).1; simpa using h1) hu
theorem linesV_len (L : List (Int × Int)) : (linesV L).length = L.length * 2 := flat_len lineV 2 (fun _ => rfl) L
theorem flatK_pairs (d : Array PairT) : (Go.Sort.flatK pairE 2 d).toList = linesV (d.toList.map Subtype.val) := by
 apply List.ext_getElem?; intro j; rcases Nat.lt_or_ge j (d.size * 2) with hj | hj
 · have hi : j / 2 < d.size := by omega
   have h1 : (d.toList.map Subtype.val)[j / 2]? = some (d[j / 2]'hi).1 := by
    rw [List.getElem?_map, Array.getElem?_toList, Array.getElem?_eq_getElem hi]
    rfl
   have h2 := linesV_atP h1 (j % 2) ((pairE (d[j / 2]'hi))[j % 2]!) (by
    have h3 : j % 2 = 0 ∨ j % 2 = 1 := by omega
    rcases h3 with e | e <;> rw [e] <;> rfl)
   rw [show j / 2 * 2 + j % 2 = j by omega] at h2; rw [h2, Array.getElem?_toList, Array.getElem?_eq_getElem (by simpa using hj)]
   congr 1
   have h4 := Go.Sort.get_flatK pairE 2 d j hj; rw [getElem!_pos _ j (by simpa using hj)] at h4; rw [h4, getElem!_pos d _ hi]
 · rw [List.getElem?_eq_none (by simpa using hj), List.getElem?_eq_none (by rw [linesV_len, List.length_map]; simpa using hj)]
theorem holds_flat {w : World} {base : Nat} {e : TypeId} {g n cap : Nat} {xs : List Value} {F : Array Value} (h : w.ownsRow base e 2 (.slice (some ⟨g, 0, none⟩) n cap) n xs) (hF : F.toList = xs) : Go.Sort.Holds id w g 0 F := by
 intro j hj; have hu : xs[j]? = some F[j] := by rw [← hF, Array.getElem?_toList, Array.getElem?_eq_getElem hj]
 have := own_cellf h hu; rw [Nat.zero_add, getElem!_pos F j hj]; exact ⟨this.1, this.2.1⟩
theorem own_putFlat {w : World} {base : Nat} {e : TypeId} {g n cap q : Nat} {xs : List Value} {F : Array Value} (h : w.ownsRow base e 2 (.slice (some ⟨g, 0, none⟩) n cap) n xs) (hF : F.size = n * 2) :
 (Go.Sort.putRow id (Go.Sort.ahead w q) g 0 F).ownsRow base e 2 (.slice (some ⟨g, 0, none⟩) n cap) n F.toList := by
 rcases h.2 with ⟨e0, _⟩ | ⟨g', cap', cur, e0, hb, hg, hn, hm, hs, ht⟩
 · cases e0
 · injection e0 with e1 _ e3; injection e1 with e1; injection e1 with e1; subst e1; subst e3; refine ⟨by simpa using hF, .inr ⟨g, cap, Go.Sort.putCells id 0 F cur, rfl, hb, ?_, hn, hm, by simpa [Go.Sort.putCells] using hs, ?_⟩⟩
   · simp [Go.Sort.putRow, Go.Sort.mapBlock, Go.Sort.ahead, Array.getElem?_modify, hg, Go.Sort.onCells]
   · apply List.ext_getElem?; intro j; rw [List.getElem?_take, Array.getElem?_toList, Array.getElem?_toList]
     by_cases hj : j < n * 2
     · have hjc : j < cur.size := by
        have : n * 2 ≤ cap * 2 := Nat.mul_le_mul_right 2 hn; omega
       simp only [if_pos hj, Go.Sort.putCells, Array.getElem?_mapIdx, Array.getElem?_eq_getElem hjc, Option.map_some]; rw [if_pos (by simp; omega), Array.getElem?_eq_getElem (by omega)]; simp [getElem!_pos, show j < F.size by omega]
     · rw [if_neg hj, Array.getElem?_eq_none (by omega)]
theorem below_grwP {B : Nat} {w0 w : World} (h : Below B w0 w) (hB : B ≤ w.heap.size) (os : Array Obj) : Below B w0 (Go.Sort.grow w os) :=
 ⟨h.os, h.tape, h.output, Nat.le_trans h.size (by rw [Go.Sort.size_grow]; omega), fun k hk => (Go.Sort.heap_grow_old w os (Nat.lt_of_lt_of_le hk hB)).trans (h.block k hk)⟩
def pairsT : (L : List (Int × Int)) → (∀ x ∈ L, 0 ≤ x.1 ∧ x.1 ≤ 400000) → List PairT
 | [], _ => []
 | x :: r, h => ⟨x, h x (by simp)⟩ :: pairsT r fun y hy => h y (by simp [hy])
theorem pairsT_val : ∀ (L : List (Int × Int)) (h : ∀ x ∈ L, 0 ≤ x.1 ∧ x.1 ≤ 400000), (pairsT L h).map Subtype.val = L
 | [], _ => rfl
 | x :: r, h => by
  show x :: (pairsT r _).map Subtype.val = x :: r; rw [pairsT_val r]
set_option maxRecDepth 100000 in
theorem sort_pairs {W : World} {B n c : Nat} {A : Option Addr} {L : List (Int × Int)} (ho : W.ownsRow B 59 2 (.slice A n c) n (linesV L)) (hL : ∀ x ∈ L, 0 ≤ x.1 ∧ x.1 ≤ 400000) (hn : n ≤ 1000000) :
 Calls Tryd.prog 54 #[.slice A n c, .func (.func 55) #[] #[]] W fun e W' => e = .returned (.tuple #[]) ∧ ∃ L' : List (Int × Int), L'.Perm L ∧ L'.Pairwise (fun a b => a.1 ≤ b.1) ∧ W'.ownsRow B 59 2 (.slice A n c) n (linesV L') ∧ ∀ B0 w0, Below B0 w0 W → B0 ≤ B → Below B0 w0 W' := by
 have hlen : L.length = n := by have := ho.1; rw [linesV_len] at this; omega
 by_cases h0 : n = 0
 · subst h0; obtain rfl : L = [] := List.length_eq_zero_iff.1 hlen; have hcon := AnyF.slices_SortFunc_none Sh.sortPair A c (.func (.func 55) #[] #[]) W
   change Calls Tryd.prog 54 _ _ _ at hcon
   exact hcon.mono fun e1 w1 ⟨h1, h2⟩ => ⟨h1, [], List.Perm.refl _, List.Pairwise.nil, by rw [h2]; exact ho, fun B0 w0 hb _ => by rw [h2]; exact hb⟩
 · obtain ⟨g, rfl⟩ := own_ptr ho h0; obtain ⟨hgB, hgl⟩ := World.ownsRow.lt ho g rfl; obtain ⟨d, hd⟩ : ∃ d : Array PairT, d = (pairsT L hL).toArray := ⟨_, rfl⟩
   have hdv : d.toList.map Subtype.val = L := by rw [hd]; exact pairsT_val L hL
   have hds : d.size = n := by
    have := congrArg List.length hdv; rw [List.length_map, Array.length_toList] at this; omega
   have hH : Go.Sort.HoldsK pairE 2 W g 0 d := holds_flat ho (by rw [flatK_pairs, hdv]); have eg : ∀ args w, (callFunc 55 args).run Tryd.prog w = .ok (.enter 55 args) w := enters_of Tryd.func55 (by kernel_rfl) rfl
   have hcon := AnyQ.slices_SortFunc Sh.sortPair 2 Tryd.isAgg59 Tryd.sizeOf59 pairE (fun _ => rfl) (fun x v hv => by simp [pairE] at hv; rcases hv with rfl | rfl <;> rfl) pairCmp pairSWO 55 #[] g 0 c d W eg (fun _ _ _ _ x y => pairs_closure x y _) hH hgl (by omega)
   change Calls Tryd.prog 54 _ _ _ at hcon
   rw [hds] at hcon; refine hcon.mono fun e1 w1 ⟨h1, d', q, os, hp, hs, h2⟩ => ⟨h1, d'.toList.map Subtype.val, ?_, ?_, ?_, fun B0 w0 hb hBB => ?_⟩
   · have h3 := hp.2.2; have hsz : d'.size = n := by rw [hp.1, hds]
     have e1 : d'.extract 0 n = d' := by rw [← hsz, Array.extract_size]
     have e2 : d.extract 0 n = d := by rw [← hds, Array.extract_size]
     rw [e1, e2] at h3; have h4 := h3.map Subtype.val; rw [hdv] at h4; exact h4
   · have hsz : d'.size = n := by rw [hp.1, hds]
     rw [List.pairwise_map, List.pairwise_iff_getElem]; intro i j hi hj hij; have hi2 : i < d'.size := by simpa using hi
     have hj2 : j < d'.size := by simpa using hj
     have h3 := hs i j (Nat.zero_le _) hij (by omega); rw [pairCmp_lt, getElem!_pos d' i hi2, getElem!_pos d' j hj2, decide_eq_false_iff_not] at h3; rw [Array.getElem_toList, Array.getElem_toList]; omega
   · have hsz : d'.size = n := by rw [hp.1, hds]
     have h3 := own_putFlat (q := q) (F := Go.Sort.flatK pairE 2 d') ho (by rw [Go.Sort.size_flatK, hsz]); rw [flatK_pairs] at h3; rw [h2]; exact own_keep h3 (below_grwP (Below.refl _ _) lr' os)
   · rw [h2]; have h4 : Below B0 w0 (Go.Sort.putRow id (Go.Sort.ahead W q) g 0 (Go.Sort.flatK pairE 2 d')) := Go.Lib.below_putRow hb (by omega); have h5 : (Go.Sort.putRow id (Go.Sort.ahead W q) g 0 (Go.Sort.flatK pairE 2 d')).heap.size = W.heap.size := by simp [Go.Sort.putRow, Go.Sort.mapBlock, Go.Sort.ahead]
     exact below_grwP h4 (by rw [h5]; omega) os
def pairsOf (its : List ItD) : List (Int × Int) := (its.filter fun t => decide (0 ≤ t.old)).map fun t => (t.old, t.pos)
structure PairOk (its : List ItD) (ps : List (Int × Int)) : Prop where
 perm : ps.Perm (pairsOf its)
 sorted : ps.Pairwise fun a b => a.1 ≤ b.1
theorem pairsOf_snoc (l : List ItD) (t : ItD) : pairsOf (l ++ [t]) = pairsOf l ++ (if 0 ≤ t.old then [(t.old, t.pos)] else []) := by
 unfold pairsOf; rw [List.filter_append, List.map_append]
 congr 1
 by_cases h : 0 ≤ t.old
 · rw [if_pos h, List.filter_cons_of_pos (by simpa using h)]
   rfl
 · rw [if_neg h, List.filter_cons_of_neg (by simpa using h)]
   rfl
theorem pairsOf_len (l : List ItD) : (pairsOf l).length ≤ l.length := by
 unfold pairsOf; rw [List.length_map]; exact List.length_filter_le _ _
theorem linesV_snocP (L : List (Int × Int)) (x : Int × Int) : linesV (L ++ [x]) = linesV L ++ [.int .i64 x.1, .int .i64 x.2] := by simp [linesV, lineV]
theorem infoPair : (Tryd.prog.info? 59).map (fun i => (i.zero, i.size, i.bytes)) = some (some (.agg #[.int .i64 0, .int .i64 0]), 2, 16) := by kernel_rfl
def PrsPost (w : World) (its : List ItD) (e : Ending) (w' : World) : Prop :=
 Below w.heap.size w w' ∧ ∃ (A : Option Addr) (n c : Nat) (ps : List (Int × Int)), e = .returned (.slice A n c) ∧ ps.length = n ∧ w'.ownsRow w.heap.size 59 2 (.slice A n c) n (linesV ps) ∧ PairOk its ps
set_option maxHeartbeats 8000000 in
set_option maxRecDepth 100000 in
theorem pairs_mk {W0 w : World} {X : Nat} {m : Img} {v : ImgV} {d : FlowD} {xA yA zA : Option Addr} {xc yc zc : Nat} {its : List ItD} {iA : Option Addr} {ic fg bg : Nat} {fs bs : List Int} (h : MkM W0 w X m v d xA yA zA xc yc zc its iA ic fg bg fs bs) (hil : its.length ≤ 100000) (hold : ∀ t ∈ its, t.old ≤ 400000) :
 Calls Tryd.prog 33 #[.pointer (some ⟨X, 0, none⟩)] w (PrsPost w its) := by
 obtain ⟨ni, hni⟩ := ex' its.length
 have HPO : Hid (∀ e w' A n c ps, e = .returned (.slice A n c) → Below w.heap.size w w' → ps.length = n → w'.ownsRow w.heap.size 59 2 (.slice A n c) n (linesV ps) → PairOk its ps → PrsPost w its e w') := hd' fun e w' A n c ps h1 h2 h3 h4 h5 => ⟨h2, A, n, c, ps, h1, h3, h4, h5⟩
 have HM := hd' h; have HNI := hd' hni; have HOLD := hd' hold; have x9 := h.blk.cell 9 rfl; rw [hni] at x9 hil; have xl := h.blk.lt; clear h hni hold
 go_enter Tryd.func33, Tryd.ntmps33
 go_upto_block 0 with fail
 go_cut [3] (fun s3 wx => ∃ (A : Option Addr) (n c : Nat), s3 = .slice A n c ∧ (pairsOf its).length = n ∧ Hid (wx.ownsRow w.heap.size 59 2 (.slice A n c) n (linesV (pairsOf its))) ∧ Hid (Below w.heap.size w wx))
 case first =>
  go_wp2_with fail
  go_loopg [3, 11] ni (fun gk s3 s11 wr => ∃ (j : Nat) (A : Option Addr) (n c : Nat), j ≤ ni ∧ s11 = .int .i64 j ∧ s3 = .slice A n c ∧ (pairsOf (its.take j)).length = n ∧ Hid (wr.ownsRow w.heap.size 59 2 (.slice A n c) n (linesV (pairsOf (its.take j)))) ∧ Hid (Below w.heap.size w wr) ∧ ni - j ≤ gk)
  case atStart => exact ⟨0, none, 0, 0, Nat.zero_le _, rfl, rfl, rfl, hd' ⟨rfl, .inl ⟨rfl, rfl⟩⟩, hd' (Below.refl _ _), Nat.le_refl _⟩
  case round =>
   obtain ⟨j, A, n, c, hj, rfl, rfl, hpn, HO, HB, hgk⟩ := hrel
   by_cases hlt : j < ni
   · have hltJ : (j : Int) < (ni : Int) := by omega
     have hj0 : (0 : Int) ≤ (j : Int) := by omega
     have ht : its[j]? = some (its[j]'(by have := HNI.out; omega)) := gE' _; obtain ⟨t, hte⟩ := ex' (its[j]'(by have := HNI.out; omega))
     rw [hte] at ht; have hM := HM.out.below HB.out; obtain ⟨gi, hiA, hgl, -, hcs⟩ := hM.item ht; have hcap : ni ≤ ic := by have := own_capG hM.its; have := HNI.out; omega
     have htk : its.take (j + 1) = its.take j ++ [t] := by rw [List.take_add_one, ht]; rfl
     have hsn := pairsOf_snoc (its.take j) t; rw [← htk] at hsn; obtain ⟨⟨ik, id, ia, ib, inn, il⟩, bk, fnn, old, line, pos⟩ := t; simp only at hsn; subst hiA
     have hnb : n ≤ 100000 := by
      have h1 := pairsOf_len (its.take j); have h2 := List.length_take_le j its; omega
     have HPN := hd' hpn; have c0 := (hcs 0 _ rfl).1; have c1 := (hcs 1 _ rfl).1; have c2 := (hcs 2 _ rfl).1; have c3 := (hcs 3 _ rfl).1; have c4 := (hcs 4 _ rfl).1; have c5 := (hcs 5 _ rfl).1; have c6 := (hcs 6 _ rfl).1; have c7 := (hcs 7 _ rfl).1; have c8 := (hcs 8 _ rfl).1; have c9 := (hcs 9 _ rfl).1; have c10 := (hcs 10 _ rfl).1; simp only [Nat.add_zero] at c0; clear hte ht hM hcs htk hpn
     go_upto_if 17 with fail
     obtain ⟨U, hU⟩ := ex' (wr.alloc (.cells #[.int .i64 ik, .int .i64 id, .int .i64 ia, .int .i64 ib, .int .i64 inn, .bool il, .int .i64 bk, .int .i64 fnn, .int .i64 old, .int .i64 line, .int .i64 pos] 135))
     rw [hU]; have hbU : Below wr.heap.size wr U := by rw [← hU]; exact (Below.refl _ _).alloc lr' _
     have hpU : Blk U wr.heap.size 135 [.int .i64 ik, .int .i64 id, .int .i64 ia, .int .i64 ib, .int .i64 inn, .bool il, .int .i64 bk, .int .i64 fnn, .int .i64 old, .int .i64 line, .int .i64 pos] := by rw [← hU]; exact Blk.new wr _ _
     have hBU : Below w.heap.size w U := HB.out.trans (hbU.mono HB.out.size); have hOU := own_keep HO.out hbU; obtain ⟨BT, hBT⟩ := ex' wr.heap.size
     rw [hBT] at hpU ⊢; have u8 := hpU.cell 8 rfl; have u10 := hpU.cell 10 rfl; have ul := hpU.lt; have HBU := hd' hBU; have HOU := hd' hOU; have hsz := hBU.size; clear hU hbU hpU hBU hOU hBT c0 c1 c2 c3 c4 c5 c6 c7 c8 c9 c10 hgl HO HB
     by_cases ho : 0 ≤ old
     · rw [if_pos ho] at hsn; have HSN := hd' hsn; clear hsn
       go_wp2_with (first | (at_builtin; refine app_one rfl _ _ 48 59 2 16 _ Tryd.underlying48 infoPair rfl (by decide) rfl w.heap.size _ n _ rfl (World.ownsRow.alloc HOU.out _) U.heap.size 1 rfl [.int .i64 old, .int .i64 pos] 59 (0, 0) (heap_alloc_new U _) rfl (by simp [Value.oneCell']) (by omega) (by omega) (by simp; omega) (U.heap.size + 1) (by simp) ?a1))
       case a1 =>
        intro g2 c2 w2 ho2 hgr2 hat2 hlt2; have hb2 : Below w.heap.size w w2 := below_gb (HBU.out.trans (((Below.refl U.heap.size U).alloc lr' (.cells #[.int .i64 old, .int .i64 pos] 59)).mono HBU.out.size)) hgr2 (fun q hq => (World.ownsRow.lt HOU.out q hq).1); have HB2 := hd' hb2; have HO2 : Hid (w2.ownsRow w.heap.size 59 2 (.slice (some ⟨g2, 0, none⟩) (n + 1) c2) (n + 1) (linesV (pairsOf (its.take (j + 1))))) := hd' (by rw [HSN.out, linesV_snocP]; exact ho2); clear ho2 hgr2 hat2 hlt2 hb2 u8 u10 ul
        go_wp2_with fail
        go_roundg (ni - (j + 1))
        case measure => omega
        case rel => exact ⟨j + 1, _, _, _, by omega, by go_num, rfl, by rw [HSN.out, List.length_append, HPN.out]; rfl, HO2, HB2, Nat.le_refl _⟩
     · rw [if_neg ho, List.append_nil] at hsn; have HSN := hd' hsn; clear hsn
       go_wp2_with fail
       go_roundg (ni - (j + 1))
       case measure => omega
       case rel => exact ⟨j + 1, _, _, _, by omega, by go_num, rfl, by rw [HSN.out]; exact HPN.out, by rw [HSN.out]; exact HOU, HBU, Nat.le_refl _⟩
   · have hltJ : ¬ (j : Int) < (ni : Int) := by omega
     obtain rfl : j = ni := by omega
     have htk : its.take j = its := List.take_of_length_le (by rw [HNI.out]; exact Nat.le_refl _); rw [htk] at HO hpn
     go_wp2_with fail
     go_meet
     exact ⟨A, n, c, rfl, hpn, HO, HB⟩
 case rest =>
  obtain ⟨A, n, c, rfl, hpn, HO, HB⟩ := hcut
  have hnb : n ≤ 100000 := by
   have h1 := pairsOf_len its; have h2 := HNI.out; omega
  have HSRT := hd' (sort_pairs HO.out (fun x hx => by
   unfold pairsOf at hx; obtain ⟨t, ht, rfl⟩ := List.mem_map.1 hx; rw [List.mem_filter] at ht
   exact ⟨by simpa using ht.2, HOLD.out t ht.1⟩) (by omega))
  have HPN := hd' hpn; clear x9 xl hpn
  go_wp2_with fail
  refine HSRT.out.mono ?_; rintro e w2 ⟨rfl, L', hp, hs, ho2, hfr⟩; have HB2 := hd' (hfr _ _ HB.out lr'); have HO2 := hd' ho2; have HPM := hd' hp; have HST := hd' hs; clear hp hs ho2 hfr HSRT
  go_wp2_with fail
  go_ret
  exact HPO.out _ _ _ _ _ _ rfl HB2.out (by rw [HPM.out.length_eq, HPN.out]) HO2.out ⟨HPM.out, HST.out⟩
end Go.Proofs.YtcafhoobeggmeaaDoor
