/- Recover: plain facts for its walk. -/
import Derived.Test.YtlekjnnofhjgjaaDoorFlowK
import Derived.Test.YtlekjnnofhjgjaaDoorFlowL
import Derived.Test.YtlekjnnofhjgjaaDoorEncP
namespace Go.Proofs.YtlekjnnofhjgjaaDoor
open Go.RowKit
theorem funcsGo_ok (T : Int) : ∀ (fs prev : List FnD) (a : Int), funcsGo T prev a fs = 0 → 0 ≤ a → ∀ f ∈ fs, 0 ≤ f.start ∧ 1 ≤ f.size ∧ f.start + f.size ≤ T
  | [], _, _, _, _, f, hf => by cases hf
  | g :: r, prev, a, h, ha, f, hf => by
    simp only [funcsGo] at h
    split at h
    · cases h
    · split at h
      · cases h
      · split at h
        · cases h
        · rename_i h3
          rcases List.mem_cons.1 hf with rfl | hf
          · omega
          · exact funcsGo_ok T r _ _ h (by omega) f hf
theorem fns_ok {m : Img} (h : checkE m = 0) : ∀ f ∈ m.funcs, 0 ≤ f.start ∧ 1 ≤ f.size ∧ f.start + f.size ≤ m.text.length := by
  unfold checkE at h
  split at h
  · cases h
  · split at h
    · rename_i h2
      exact absurd h h2
    · rename_i h2
      have h3 : funcsE m = 0 := by omega
      unfold funcsE at h3
      split at h3
      · cases h3
      · exact funcsGo_ok _ _ _ _ h3 (Int.le_refl _)
theorem sweepGo_len (text : List Int) (en : Int) : ∀ (d : Nat) (p : Int) (l : List Sp), sweepGo text en d p = some l → l.length ≤ d
  | 0, p, l, h => by
    simp only [sweepGo, Option.some.injEq] at h
    subst h
    exact Nat.le_refl _
  | d + 1, p, l, h => by
    simp only [sweepGo] at h
    split at h
    · split at h
      · cases h
      · obtain ⟨r, hr, rfl⟩ := Option.map_eq_some_iff.1 h
        have := sweepGo_len text en d _ r hr
        simp
        omega
    · simp only [Option.some.injEq] at h
      subst h
      simp
theorem sweepL_len {text : List Int} {f : FnD} {l : List Sp} (h : sweepL text f = some l) : l.length ≤ f.size.toNat := by
  unfold sweepL at h
  split at h
  · cases h
  · rename_i l' hg
    split at h
    · injection h with h
      subst h
      exact sweepGo_len _ _ _ _ _ hg
    · cases h
theorem sweepAll_none {text : List Int} {f : FnD} (h : sweepL text f = none) : ∀ {fs : List FnD}, f ∈ fs → sweepAll text fs = none
  | [], hm => by cases hm
  | g :: r, hm => by
    show (sweepL text g).bind (fun l => (sweepAll text r).map (l :: ·)) = none
    rcases List.mem_cons.1 hm with rfl | hm
    · rw [h]
      rfl
    · cases sweepL text g with
      | none => rfl
      | some l =>
        show (sweepAll text r).map (l :: ·) = none
        rw [sweepAll_none h hm]
        rfl
theorem sweepAll_take {text : List Int} {fs : List FnD} {i : Nat} {all : List (List Sp)} {f : FnD} {l : List Sp} (h : sweepAll text (fs.take i) = some all) (hf : fs[i]? = some f) (hl : sweepL text f = some l) : sweepAll text (fs.take (i + 1)) = some (all ++ [l]) := by
  rw [List.take_add_one, hf]
  show sweepAll text (fs.take i ++ [f]) = _
  rw [sweepAll_snoc, h, hl]
  rfl
theorem sweepAll_at {text : List Int} : ∀ {fs : List FnD} {all : List (List Sp)}, sweepAll text fs = some all → ∀ (i : Nat) (f : FnD), fs[i]? = some f → ∃ sp, all[i]? = some sp ∧ sweepL text f = some sp
  | [], all, h, i, f, hf => by simp at hf
  | g :: r, all, h, i, f, hf => by
    have h' : (sweepL text g).bind (fun l => (sweepAll text r).map (l :: ·)) = some all := h
    cases hg : sweepL text g with
    | none => rw [hg] at h'; cases h'
    | some l =>
      rw [hg] at h'
      obtain ⟨a, ha, rfl⟩ := Option.map_eq_some_iff.1 (show (sweepAll text r).map (l :: ·) = some all from h')
      cases i with
      | zero =>
        simp only [List.getElem?_cons_zero, Option.some.injEq] at hf
        subst hf
        exact ⟨l, rfl, hg⟩
      | succ i =>
        rw [List.getElem?_cons_succ] at hf
        obtain ⟨sp, h1, h2⟩ := sweepAll_at ha i f hf
        exact ⟨sp, by rw [List.getElem?_cons_succ]; exact h1, h2⟩
theorem tabsLd_app (own : Int → Option Int) (b : List Int) : ∀ (a : List Int) (ld : Int → Bool), tabsLd own (a ++ b) ld = (tabsLd own a ld).bind (tabsLd own b)
  | [], ld => rfl
  | x :: r, ld => by
    show (if (own x).isSome = true then tabsLd own (r ++ b) (upF ld x true) else none) = (if (own x).isSome = true then tabsLd own r (upF ld x true) else none).bind _
    split
    · exact tabsLd_app own b r _
    · rfl
theorem tab_split {ts : List (List Int)} {t : List Int} {i j : Nat} {a : Int} (ht : ts[i]? = some t) (ha : t[j]? = some a) : ts.flatten = ((ts.take i).flatten ++ t.take j) ++ a :: (t.drop (j + 1) ++ (ts.drop (i + 1)).flatten) := by
  have h1 : t = t.take j ++ a :: t.drop (j + 1) := by
    obtain ⟨hj, rfl⟩ := List.getElem?_eq_some_iff.1 ha
    rw [← List.drop_eq_getElem_cons hj, List.take_append_drop]
  have h2 : ts = ts.take i ++ t :: ts.drop (i + 1) := by
    obtain ⟨hi, rfl⟩ := List.getElem?_eq_some_iff.1 ht
    rw [← List.drop_eq_getElem_cons hi, List.take_append_drop]
  have h3 : ts.flatten = (ts.take i).flatten ++ (t ++ (ts.drop (i + 1)).flatten) := by
    conv => lhs; rw [h2]
    rw [List.flatten_append, List.flatten_cons]
  have h4 : t ++ (ts.drop (i + 1)).flatten = t.take j ++ a :: (t.drop (j + 1) ++ (ts.drop (i + 1)).flatten) := by
    conv => lhs; arg 1; rw [h1]
    rw [List.append_assoc, List.cons_append]
  rw [h3, h4, List.append_assoc]
theorem tab_next {ts : List (List Int)} {t : List Int} {i : Nat} (ht : ts[i]? = some t) : (ts.take (i + 1)).flatten = (ts.take i).flatten ++ t := by
  rw [List.take_add_one, ht]
  simp
theorem markAll_app (m : Img) (own : Int → Option Int) (b : List (FnD × List Sp)) : ∀ (a : List (FnD × List Sp)) (f : Int) (ld : Int → Bool), markAll m own (a ++ b) f ld = (markAll m own a f ld).bind (markAll m own b (f + a.length))
  | [], f, ld => by
    have e : f + (([] : List (FnD × List Sp)).length : Int) = f := by simp
    rw [e]
    rfl
  | x :: r, f, ld => by
    have e : f + 1 + (r.length : Int) = f + ((x :: r).length : Int) := by rw [List.length_cons]; omega
    show (markGo m own f x.2 (upF ld x.1.start true)).bind (markAll m own (r ++ b) (f + 1)) = ((markGo m own f x.2 (upF ld x.1.start true)).bind (markAll m own r (f + 1))).bind _
    cases markGo m own f x.2 (upF ld x.1.start true) with
    | none => rfl
    | some y =>
      show markAll m own (r ++ b) (f + 1) y = (markAll m own r (f + 1) y).bind _
      rw [markAll_app m own b r, e]
/-- the owners that the sweep finds -/
def ownA (all : List (List Sp)) : Int → Option Int := finOwn all 0 fun _ => none
theorem ownA_snoc (all : List (List Sp)) (l : List Sp) : ownA (all ++ [l]) = l.foldl (fun o s => upF o s.p (some (all.length : Int))) (ownA all) := by
  unfold ownA
  rw [finOwn_snoc]
  simp
theorem rec_none1 {m : Img} {f : FnD} (hf : f ∈ m.funcs) (h : sweepL m.text f = none) : recL m = none := by
  unfold recL
  rw [sweepAll_none h hf]
  rfl
theorem rec_none2 {m : Img} {all : List (List Sp)} (ha : sweepAll m.text m.funcs = some all) {done rest : List Int} {a : Int} {ld : Int → Bool} (hs : m.tables.flatten = done ++ a :: rest) (hd : tabsLd (ownA all) done (fun _ => false) = some ld) (hn : ownA all a = none) : recL m = none := by
  unfold recL
  rw [ha]
  show ((tabsLd (ownA all) m.tables.flatten fun _ => false).bind _) = none
  rw [hs, tabsLd_app, hd]
  show ((if (ownA all a).isSome = true then tabsLd (ownA all) rest (upF ld a true) else none).bind _) = none
  rw [hn]
  rfl
theorem rec_none3 {m : Img} {all : List (List Sp)} (ha : sweepAll m.text m.funcs = some all) {ld0 : Int → Bool} (hd : tabsLd (ownA all) m.tables.flatten (fun _ => false) = some ld0) (hn : markAll m (ownA all) (m.funcs.zip all) 0 ld0 = none) : recL m = none := by
  unfold recL
  rw [ha]
  show ((tabsLd (ownA all) m.tables.flatten fun _ => false).bind _) = none
  rw [hd]
  show (markAll m (ownA all) (m.funcs.zip all) 0 ld0).map _ = none
  rw [hn]
  rfl
/-- what Recover finds, when nothing is amiss -/
def flowOf (m : Img) (all : List (List Sp)) (ld : Int → Bool) : FlowD :=
  let c := cutAll m ld all 0 ⟨[], fun _ => none⟩ []
  ⟨c.1.bs.map (joinB c.1.bm), m.tables.map fun t => t.map fun a => (c.1.bm a).getD 0, c.2⟩
theorem rec_some {m : Img} {all : List (List Sp)} (ha : sweepAll m.text m.funcs = some all) {ld0 ld : Int → Bool} (hd : tabsLd (ownA all) m.tables.flatten (fun _ => false) = some ld0) (hn : markAll m (ownA all) (m.funcs.zip all) 0 ld0 = some ld) : recL m = some (flowOf m all ld) := by
  unfold recL
  rw [ha]
  show ((tabsLd (ownA all) m.tables.flatten fun _ => false).bind _) = some _
  rw [hd]
  show (markAll m (ownA all) (m.funcs.zip all) 0 ld0).map _ = some _
  rw [hn]
  rfl
theorem mark_none {m : Img} {own : Int → Option Int} {l : List (FnD × List Sp)} {i : Nat} {f : FnD} {sp : List Sp} {ld0 ld : Int → Bool} (hx : l[i]? = some (f, sp)) (hd : markAll m own (l.take i) 0 ld0 = some ld) (hn : markGo m own i sp (upF ld f.start true) = none) : markAll m own l 0 ld0 = none := by
  obtain ⟨hi, he⟩ := List.getElem?_eq_some_iff.1 hx
  rw [← List.take_append_drop i l, markAll_app, hd, List.drop_eq_getElem_cons hi, he, List.length_take, Nat.min_eq_left (by omega)]
  show (markGo m own (0 + (i : Int)) sp (upF ld f.start true)).bind _ = none
  rw [Int.zero_add, hn]
  rfl
theorem mark_next {m : Img} {own : Int → Option Int} {l : List (FnD × List Sp)} {i : Nat} {f : FnD} {sp : List Sp} {ld0 ld ld' : Int → Bool} (hx : l[i]? = some (f, sp)) (hd : markAll m own (l.take i) 0 ld0 = some ld) (hn : markGo m own i sp (upF ld f.start true) = some ld') : markAll m own (l.take (i + 1)) 0 ld0 = some ld' := by
  obtain ⟨hi, he⟩ := List.getElem?_eq_some_iff.1 hx
  rw [List.take_add_one, hx]
  show markAll m own (l.take i ++ [(f, sp)]) 0 ld0 = _
  rw [markAll_snoc, hd, List.length_take, Nat.min_eq_left (by omega)]
  show markGo m own (0 + (i : Int)) sp (upF ld f.start true) = _
  rw [Int.zero_add, hn]
/-- where Recover's finder begins -/
theorem RecS.start {w1 : World} {B : Nat} {m : Img} {v : ImgV} (hB : B ≤ w1.heap.size) (hI : ImgRd w1 B m v) :
    RecS ((((w1.alloc (.map #[] 0)).alloc (.map #[] 0)).alloc (.map #[] 0)).alloc (.cells (finC m v none 0 0 w1.heap.size (w1.heap.size + 1) (w1.heap.size + 2) nil3).toArray 102)) B (w1.heap.size + 3) m v none 0 [] [] w1.heap.size 0 (ownA []) (w1.heap.size + 1) 0 (fun _ => false) (w1.heap.size + 2) := by
  obtain ⟨wa, hwa⟩ : ∃ z, w1.alloc (.map #[] 0) = z := ⟨_, rfl⟩
  have za : wa.heap.size = w1.heap.size + 1 := by rw [← hwa]; simp
  have ba : Below w1.heap.size w1 wa := by rw [← hwa]; exact (Below.refl _ _).alloc (Nat.le_refl _) _
  have o1 : MapI wa w1.heap.size 0 (fun _ => none) := by rw [← hwa]; exact MapI.made w1
  rw [hwa]
  obtain ⟨wb, hwb⟩ : ∃ z, wa.alloc (.map #[] 0) = z := ⟨_, rfl⟩
  have zb : wb.heap.size = w1.heap.size + 2 := by rw [← hwb]; simp [za]
  have bb : Below wa.heap.size wa wb := by rw [← hwb]; exact (Below.refl _ _).alloc (Nat.le_refl _) _
  have l1 : MapB wb (w1.heap.size + 1) 0 (fun _ => false) := by rw [← hwb, ← za]; exact MapB.made wa
  rw [hwb]
  obtain ⟨wc, hwc⟩ : ∃ z, wb.alloc (.map #[] 0) = z := ⟨_, rfl⟩
  have zc : wc.heap.size = w1.heap.size + 3 := by rw [← hwc]; simp [zb]
  have bc : Below wb.heap.size wb wc := by rw [← hwc]; exact (Below.refl _ _).alloc (Nat.le_refl _) _
  have k1 : MapI wc (w1.heap.size + 2) 0 (fun _ => none) := by rw [← hwc, ← zb]; exact MapI.made wb
  rw [hwc]
  obtain ⟨wd, hwd⟩ : ∃ z, wc.alloc (.cells (finC m v none 0 0 w1.heap.size (w1.heap.size + 1) (w1.heap.size + 2) nil3).toArray 102) = z := ⟨_, rfl⟩
  have bd : Below wc.heap.size wc wd := by rw [← hwd]; exact (Below.refl _ _).alloc (Nat.le_refl _) _
  have x1 : Blk wd (w1.heap.size + 3) 102 (finC m v none 0 0 w1.heap.size (w1.heap.size + 1) (w1.heap.size + 2) nil3) := by rw [← hwd, ← zc]; exact Blk.new wc _ _
  rw [hwd]
  refine ⟨hI.below (((ba.mono hB).trans (bb.mono (by omega))).trans ((bc.mono (by omega)).trans (bd.mono (by omega)))), x1, ⟨rfl, .inl ⟨rfl, rfl⟩⟩, fun j l hj => by simp at hj, ((o1.keep bb).keep bc).keep bd, (l1.keep bc).keep bd, k1.keep bd, ⟨by omega, by omega, by omega, by omega, by omega, by omega, by omega⟩⟩
/-- the owners while a function's spots are entered -/
def ownJ' (all : List (List Sp)) (l : List Sp) (j : Nat) : Int → Option Int := (l.take j).foldl (fun o s => upF o s.p (some (all.length : Int))) (ownA all)
theorem ownJ'_succ {all : List (List Sp)} {l : List Sp} {j : Nat} {s : Sp} (h : l[j]? = some s) : ownJ' all l (j + 1) = upF (ownJ' all l j) s.p (some (all.length : Int)) := by
  unfold ownJ'
  rw [List.take_add_one, h, Option.toList_some, List.foldl_append]
  rfl
theorem ownJ'_all {all : List (List Sp)} {l : List Sp} {j : Nat} (h : l.length ≤ j) : ownJ' all l j = ownA (all ++ [l]) := by
  rw [ownA_snoc, ownJ', List.take_of_length_le h]
theorem all_ok {m : Img} (hc : checkE m = 0) (h8 : m.text.length ≤ 8000) {f : FnD} {sp : List Sp} (hf : f ∈ m.funcs) (hs : sweepL m.text f = some sp) : (∀ s ∈ sp, SpOk s) ∧ sp.length ≤ 8000 := by
  obtain ⟨a1, a2, a3⟩ := fns_ok hc f hf
  have hl := sweepL_len hs
  exact ⟨fun s h => (sweep_sp hs a1 a2 a3 h8 s h).1, by omega⟩
end Go.Proofs.YtlekjnnofhjgjaaDoor
