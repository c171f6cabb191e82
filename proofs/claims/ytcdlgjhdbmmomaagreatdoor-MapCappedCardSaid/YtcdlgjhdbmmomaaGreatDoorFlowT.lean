/- Recover's answer, read; plain facts for its last part. -/
import Derived.Test.YtcdlgjhdbmmomaaGreatDoorFlowM
import Derived.Test.YtcdlgjhdbmmomaaGreatDoorFlowQ
import Derived.Test.YtcdlgjhdbmmomaaGreatDoorFlowS
namespace Go.Proofs.YtcdlgjhdbmmomaaGreatDoor
open Go.RowKit
theorem cutAll_snoc (m : Img) (ld : Int → Bool) (l : List Sp) : ∀ (ls : List (List Sp)) (f : Int) (c : CutD) (fs : List Int), cutAll m ld (ls ++ [l]) f c fs = (finCut m ld (f + ls.length) l (cutAll m ld ls f c fs).1, (cutAll m ld ls f c fs).2 ++ [((cutAll m ld ls f c fs).1.bs.length : Int)])
 | [], f, c, fs => by
  have e : f + (([] : List (List Sp)).length : Int) = f := by simp
  rw [e]
  rfl
 | a :: r, f, c, fs => by
  have e : f + 1 + (r.length : Int) = f + ((a :: r).length : Int) := by rw [List.length_cons]; omega
  show cutAll m ld (r ++ [l]) (f + 1) (finCut m ld f a c) (fs ++ [(c.bs.length : Int)]) = _; rw [cutAll_snoc m ld l r, e]
  rfl
theorem up_keep {ld : Int → Bool} {q p : Int} (h : ld q = true) : upF ld p true q = true := by
 unfold upF
 split
 · rfl
 · exact h
theorem markS_keep {m : Img} {own : Int → Option Int} {f : Int} {s : Sp} {ld ld' : Int → Bool} {q : Int} (h : markS m own f s ld = some ld') (hq : ld q = true) : ld' q = true := by
 unfold markS at h
 split at h
 · split at h
   · injection h with h; subst h; exact up_keep (up_keep hq)
   · cases h
 · split at h
   · split at h
     · cases h
     · injection h with h; subst h; exact up_keep hq
   · split at h
     · split at h
       · injection h with h; subst h; exact hq
       · cases h
     · injection h with h; subst h; exact hq
theorem markGo_keep {m : Img} {own : Int → Option Int} {f : Int} {q : Int} : ∀ {l : List Sp} {ld ld' : Int → Bool}, markGo m own f l ld = some ld' → ld q = true → ld' q = true
 | [], ld, ld', h, hq => by
  injection h with h; subst h; exact hq
 | s :: r, ld, ld', h, hq => by
  have h' : (markS m own f s ld).bind (markGo m own f r) = some ld' := h
  cases hs : markS m own f s ld with
  | none => rw [hs] at h'; cases h'
  | some x =>
   rw [hs] at h'; exact markGo_keep (l := r) h' (markS_keep hs hq)
theorem markAll_keep {m : Img} {own : Int → Option Int} {q : Int} : ∀ {l : List (FnD × List Sp)} {f : Int} {ld ld' : Int → Bool}, markAll m own l f ld = some ld' → ld q = true → ld' q = true
 | [], f, ld, ld', h, hq => by
  injection h with h; subst h; exact hq
 | x :: r, f, ld, ld', h, hq => by
  have h' : (markGo m own f x.2 (upF ld x.1.start true)).bind (markAll m own r (f + 1)) = some ld' := h
  cases hs : markGo m own f x.2 (upF ld x.1.start true) with
  | none => rw [hs] at h'; cases h'
  | some y =>
   rw [hs] at h'; exact markAll_keep (l := r) h' (markGo_keep hs (up_keep hq))
theorem markAll_first {m : Img} {own : Int → Option Int} : ∀ {l : List (FnD × List Sp)} {f : Int} {ld ld' : Int → Bool}, markAll m own l f ld = some ld' → ∀ x ∈ l, ld' x.1.start = true
 | [], f, ld, ld', h, x, hx => by cases hx
 | y :: r, f, ld, ld', h, x, hx => by
  have h' : (markGo m own f y.2 (upF ld y.1.start true)).bind (markAll m own r (f + 1)) = some ld' := h
  cases hs : markGo m own f y.2 (upF ld y.1.start true) with
  | none => rw [hs] at h'; cases h'
  | some z =>
   rw [hs] at h'; rcases List.mem_cons.1 hx with rfl | hx
   · exact markAll_keep (l := r) h' (markGo_keep hs (by unfold upF; rw [if_pos rfl]))
   · exact markAll_first (l := r) h' x hx
theorem sweep_first {text : List Int} {f : FnD} {sp : List Sp} {s : Sp} (h : sweepL text f = some sp) (hs : sp[0]? = some s) : s.p = f.start := by
 unfold sweepL at h
 split at h
 · cases h
 · rename_i l hg
   split at h
   · injection h with h; subst h
     cases hd : f.size.toNat with
     | zero =>
      rw [hd] at hg; simp only [sweepGo, Option.some.injEq] at hg; subst hg; simp at hs
     | succ d =>
      rw [hd] at hg; simp only [sweepGo] at hg
      split at hg
      · split at hg
        · cases hg
        · obtain ⟨r, hr, rfl⟩ := Option.map_eq_some_iff.1 hg; simp only [List.getElem?_cons_zero, Option.some.injEq] at hs; rw [← hs]
      · simp only [Option.some.injEq] at hg; subst hg; simp at hs
   · cases h
def BRd (w : World) (x : BlkD × BlkV) : Prop := RdN w w.heap.size none 52 x.2.cA x.1.code.length x.2.cc (insR x.1.code) ∧ RdN w w.heap.size none 3 x.2.aA x.1.ats.length x.2.ac (intsV .i64 x.1.ats) ∧ RdN w w.heap.size none 3 x.2.lA x.1.lines.length x.2.lc (intsV .i64 x.1.lines)
def FlowRd (w : World) (bA : Option Addr) (bc : Nat) (tA : Option Addr) (tc : Nat) (fA : Option Addr) (fc : Nat) (d : FlowD) : Prop :=
 ∃ l : List (BlkD × BlkV), l.map Prod.fst = d.blocks ∧ RdN w w.heap.size none 54 bA d.blocks.length bc (blksV l) ∧ (∀ x ∈ l, BRd w x) ∧ TbR w tA tc d.tables ∧ RdN w w.heap.size none 3 fA d.firsts.length fc (intsV .i64 d.firsts)
theorem TbR.keepT {w w' : World} {A : Option Addr} {c : Nat} {ts : List (List Int)} {T : TypeId} {r : Option Nat} (h : TbR w A c ts) (hg : w.grownBy w' r) (hr : ∀ g, r = some g → TypB w g T) (hT : 3 ≠ T ∧ 27 ≠ T) : TbR w' A c ts := by
 obtain ⟨tvs, h1, h2, h3⟩ := h; refine ⟨tvs, h1, (h2.keepT hg lr' hr hT.2).more hg.size, fun j t hj => ?_⟩; obtain ⟨a, cc, h4, h5⟩ := h3 j t hj; exact ⟨a, cc, h4, (h5.keepT hg lr' hr hT.1).more hg.size⟩
theorem TbR.below {w w' : World} {A : Option Addr} {c : Nat} {ts : List (List Int)} (h : TbR w A c ts) (hb : Below w.heap.size w w') : TbR w' A c ts := by
 obtain ⟨tvs, h1, h2, h3⟩ := h; refine ⟨tvs, h1, (h2.below hb).more hb.size, fun j t hj => ?_⟩; obtain ⟨a, cc, h4, h5⟩ := h3 j t hj; exact ⟨a, cc, h4, (h5.below hb).more hb.size⟩
theorem FlowRd.keepT {w w' : World} {bA : Option Addr} {bc : Nat} {tA : Option Addr} {tc : Nat} {fA : Option Addr} {fc : Nat} {d : FlowD} {T : TypeId} {r : Option Nat} (h : FlowRd w bA bc tA tc fA fc d) (hg : w.grownBy w' r) (hr : ∀ g, r = some g → TypB w g T) (hT : (3 ≠ T ∧ 27 ≠ T) ∧ 52 ≠ T ∧ 54 ≠ T) : FlowRd w' bA bc tA tc fA fc d := by
 obtain ⟨l, h1, h2, h3, h4, h5⟩ := h; refine ⟨l, h1, (h2.keepT hg lr' hr hT.2.2).more hg.size, fun x hx => ?_, h4.keepT hg hr hT.1, (h5.keepT hg lr' hr hT.1.1).more hg.size⟩; obtain ⟨k1, k2, k3⟩ := h3 x hx; exact ⟨(k1.keepT hg lr' hr hT.2.1).more hg.size, (k2.keepT hg lr' hr hT.1.1).more hg.size, (k3.keepT hg lr' hr hT.1.1).more hg.size⟩
theorem FlowRd.below {w w' : World} {bA : Option Addr} {bc : Nat} {tA : Option Addr} {tc : Nat} {fA : Option Addr} {fc : Nat} {d : FlowD} (h : FlowRd w bA bc tA tc fA fc d) (hb : Below w.heap.size w w') : FlowRd w' bA bc tA tc fA fc d := by
 obtain ⟨l, h1, h2, h3, h4, h5⟩ := h; refine ⟨l, h1, (h2.below hb).more hb.size, fun x hx => ?_, h4.below hb, (h5.below hb).more hb.size⟩; obtain ⟨k1, k2, k3⟩ := h3 x hx; exact ⟨(k1.below hb).more hb.size, (k2.below hb).more hb.size, (k3.below hb).more hb.size⟩
theorem CutM.flow {W0 w : World} {B H0 H X : Nat} {m : Img} {v : ImgV} {aA : Option Addr} {ac : Nat} {all : List (List Sp)} {vs : List Value} {L k : Nat} {bA : Option Addr} {bc : Nat} {fA : Option Addr} {fc n nk : Nat} {ld : Int → Bool} {bm : Int → Option Int} {ds : List (BlkD × BlkV)} {fs : List Int}
 (h : CutM W0 w B H0 H X m v aA ac all vs L k bA bc fA fc n nk ld bm ds [] fs) {tA : Option Addr} {tc : Nat} {ts : List (List Int)} (ht : TbR w tA tc ts) : FlowRd w bA bc tA tc fA fc ⟨ds.map Prod.fst, ts, fs⟩ := by
 have hrow := h.row; rw [List.append_nil] at hrow; refine ⟨ds, rfl, ?_, fun x hx => ?_, ht, own_done h.fir none (fun _ _ e => by cases e)⟩
 · show RdN w w.heap.size none _ bA (ds.map Prod.fst).length bc _; rw [List.length_map]; exact own_done hrow none (fun _ _ e => by cases e)
 · have hd := h.don x hx; exact ⟨hd.code.more h.hs.2.2.2.2.2.2.2.2, own_done hd.ats none (fun _ _ e => by cases e), own_done hd.lines none (fun _ _ e => by cases e)⟩
def GoodPost (w : World) (d : FlowD) (e : Ending) (w' : World) : Prop :=
 ∃ (bA : Option Addr) (bc : Nat) (tA : Option Addr) (tc : Nat) (fA : Option Addr) (fc : Nat), e = .returned (.tuple #[.agg #[.slice bA d.blocks.length bc, .slice tA d.tables.length tc, .slice fA d.firsts.length fc], .int .i64 0]) ∧ Below w.heap.size w w' ∧ FlowRd w' bA bc tA tc fA fc d
end Go.Proofs.YtcdlgjhdbmmomaaGreatDoor
