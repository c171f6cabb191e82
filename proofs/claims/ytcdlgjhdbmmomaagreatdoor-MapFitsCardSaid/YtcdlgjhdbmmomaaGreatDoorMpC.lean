/- What tally.Map calls: Contains at ints, ContainsFunc at edges, capped, its closures, SortFunc of edges. -/
import Derived.Test.YtcdlgjhdbmmomaaGreatDoorMpP
import Derived.Test.YtcdlgjhdbmmomaaGreatDoorMapP
import Derived.Test.YtcdlgjhdbmmomaaGreatDoorTlD
import Derived.Test.YtcdlgjhdbmmomaaGreatDoorShE
import Derived.Shelf.SlSortCmp.WholeK
import Derived.Shelf.SlSortCmp.NoneTotal
import Derived.Lib.OwnBridge
import Derived.Deep.DeepCutAuto
import Derived.Deep.CutBlock
import Derived.Deep.LoopGhost
import Derived.Deep.QuietTactic
import Derived.BigQuiet
import Derived.IntWalk
import Derived.WalkLawsBesides
namespace Go.Proofs.YtcdlgjhdbmmomaaGreatDoor
open Go.RowKit Go.Deep
theorem edL_atM : ∀ (L : List EdgE) (k : Nat) (e : EdgE), L[k]? = some e → (edL L)[k * 3]? = some (.int .i64 e.a) ∧ (edL L)[k * 3 + 1]? = some (.int .i64 e.b) ∧ (edL L)[k * 3 + 2]? = some (.int .i64 e.c)
  | [], k, e, h => by simp at h
  | x :: r, 0, e, h => by
    simp only [List.getElem?_cons_zero, Option.some.injEq] at h
    subst h
    exact ⟨rfl, rfl, rfl⟩
  | x :: r, k + 1, e, h => by
    obtain ⟨h1, h2, h3⟩ := edL_atM r k e (by simpa using h)
    have e0 : edL (x :: r) = edC x ++ edL r := rfl
    have gen : ∀ q, (edL (x :: r))[(k + 1) * 3 + q]? = (edL r)[k * 3 + q]? := fun q => by
      rw [e0, List.getElem?_append_right (by show 3 ≤ _; omega)]
      congr 1
      show (k + 1) * 3 + q - 3 = _
      omega
    exact ⟨(gen 0).trans h1, (gen 1).trans h2, (gen 2).trans h3⟩
theorem ed_at3M {w : World} {B : Nat} {A : Option Addr} {L : List EdgE} (h : RdG w B A (edL L)) {k : Nat} {e : EdgE} (hx : L[k]? = some e) : ∃ b o, A = some ⟨b, o, none⟩ ∧ b < B ∧ w.cell? ⟨b, o + k * 3, none⟩ = some (.int .i64 e.a) ∧ w.cell? ⟨b, o + k * 3 + 1, none⟩ = some (.int .i64 e.b) ∧ w.cell? ⟨b, o + k * 3 + 2, none⟩ = some (.int .i64 e.c) := by
  obtain ⟨g0, g1, g2⟩ := edL_atM L k e hx
  obtain ⟨b, o, e1, hb, hc⟩ := h (by intro e1; rw [e1] at g0; simp at g0)
  exact ⟨b, o, e1, hb, hc _ _ g0, by rw [Nat.add_assoc]; exact hc _ _ g1, by rw [Nat.add_assoc]; exact hc _ _ g2⟩
theorem own_rd3M {w : World} {base : Nat} {e : TypeId} {size n c : Nat} {A : Option Addr} {xs : List Value} (h : w.ownsRow base e size (.slice A n c) n xs) : RdG w w.heap.size A xs := by
  intro hn
  rcases h.2 with ⟨e1, -⟩ | ⟨g, cap, cur, e1, -⟩
  · injection e1 with _ e2 _
    exfalso
    apply hn
    apply List.eq_nil_of_length_eq_zero
    rw [h.1, e2, Nat.zero_mul]
  · injection e1 with e2 _ _
    subst e2
    obtain ⟨o1, o2, o3, o4⟩ := own_at h
    exact ⟨g, 0, rfl, o3, fun j u hu => by rw [Nat.zero_add]; exact o4 j u hu⟩
theorem index_any (L : List Int) (v : Int) (A : Option Addr) (len cap : Nat) (w : World) (hR : RdG w w.heap.size A (intsV .i64 L)) (hl : len = L.length) (hm : len ≤ 140737488355328) :
    Calls Tryz.prog 28 #[.slice A len cap, .int .i64 v] w fun e w' => e = .returned (.int .i64 (idxP (fun x => decide (v = x)) L)) ∧ w = w' := by
  have HR := Lib.hid hR
  have HL := Lib.hid hl
  clear hR hl
  go_enter Tryz.func28, Tryz.ntmps28
  go_wp2
  go_loop [8] (fun i => ∃ k : Nat, k ≤ len ∧ i = .int .i64 k ∧ Hid (∀ (j : Nat) (y : Int), j < k → L[j]? = some y → decide (v = y) = false)) (fun i => len - (intOf i).toNat)
  case atStart => exact ⟨0, Nat.zero_le _, rfl, fun j y h => absurd h (Nat.not_lt_zero _)⟩
  case round =>
    obtain ⟨k, hk, rfl, hno⟩ := hrel
    by_cases hlt : k < len
    · have hx : L[k]? = some (L[k]'(by have := HL.out; omega)) := List.getElem?_eq_getElem _
      obtain ⟨x, hxx⟩ : ∃ x, L[k]'(by have := HL.out; omega) = x := ⟨_, rfl⟩
      rw [hxx] at hx
      obtain ⟨b, o, rfl, hb, hc⟩ := HR.out.at (intsV_at .i64 hx)
      have HX := Lib.hid hx
      clear hx hxx
      by_cases hpp : v = x
      · have hres := idxP_at (fun x => decide (v = x)) L k x HX.out (by simpa using hpp) hno.out
        have HRS := Lib.hid hres
        clear hres
        subst hpp
        go_wp2
        go_ret
        exact ⟨by rw [HRS.out]; rfl, rfl⟩
      · have HPP := Lib.hid (show decide (v = x) = false by simpa using hpp)
        have hpq : (v == x) = false := by simpa using hpp
        go_wp2
        go_round
        case rel =>
          refine ⟨k + 1, by omega, by go_num, fun j y hj hy => ?_⟩
          rcases Nat.lt_or_ge j k with h | h
          · exact hno.out j y h hy
          · obtain rfl : j = k := by omega
            have := HX.out
            rw [this] at hy
            cases hy
            exact HPP.out
        case measure => simp [intOf]; omega
    · obtain rfl : k = len := by omega
      have hres := idxP_none (fun x => decide (v = x)) L fun x hx => by
        obtain ⟨j, hj⟩ := List.getElem?_of_mem hx
        exact hno.out j x (by have := (List.getElem?_eq_some_iff.1 hj).1; have := HL.out; omega) hj
      have HRS := Lib.hid hres
      clear hres hlt
      go_wp2
      go_ret
      exact ⟨by rw [HRS.out]; rfl, rfl⟩
theorem contains_any (L : List Int) (v : Int) (A : Option Addr) (len cap : Nat) (w : World) (hR : RdG w w.heap.size A (intsV .i64 L)) (hl : len = L.length) (hm : len ≤ 140737488355328) :
    Calls Tryz.prog 18 #[.slice A len cap, .int .i64 v] w fun e w' => e = .returned (.bool (decide (v ∈ L))) ∧ w = w' := by
  have ha : decide (0 ≤ idxP (fun x => decide (v = x)) L) = decide (v ∈ L) := by
    rw [idxP_any]
    by_cases h : v ∈ L
    · rw [decide_eq_true h, List.any_eq_true]
      exact ⟨v, h, by simp⟩
    · rw [decide_eq_false h, List.any_eq_false]
      intro x hx e
      exact h (by simpa [show v = x by simpa using e] using hx)
  have H := Lib.hid (index_any L v A len cap w hR hl hm)
  clear hR hl
  rw [← ha]
  generalize idxP (fun x => decide (v = x)) L = r at *
  clear ha
  go_enter Tryz.func18, Tryz.ntmps18
  go_wp2_with fail
  refine H.out.mono ?_
  rintro e w2 ⟨rfl, rfl⟩
  go_wp2
  go_ret
  exact ⟨rfl, rfl⟩
/-- a count that may not be -/
def badC (e : EdgE) : Bool := decide (e.c < 0) || decide (1073741824 < e.c)
theorem badC_any (e : EdgE) (w : World) : Calls Tryz.prog 40 #[.agg #[.int .i64 e.a, .int .i64 e.b, .int .i64 e.c]] w fun en w' => en = .returned (.bool (badC e)) ∧ Below w.heap.size w w' := by
  obtain ⟨a, b, c⟩ := e
  by_cases h : c < 0
  · have hd : decide (c < 0) = true := decide_eq_true h
    rw [show badC ⟨a, b, c⟩ = true by simp [badC, h]]
    go_enter Tryz.func40, Tryz.ntmps40
    go_wp2
    go_ret
    exact ⟨rfl, (Below.refl _ _).alloc (Nat.le_refl _) _⟩
  · have hd : decide (c < 0) = false := decide_eq_false h
    by_cases h2 : 1073741824 < c
    · have hd2 : decide (c > 1073741824) = true := decide_eq_true h2
      rw [show badC ⟨a, b, c⟩ = true by simp [badC, h2]]
      go_enter Tryz.func40, Tryz.ntmps40
      go_wp2
      go_ret
      exact ⟨rfl, (Below.refl _ _).alloc (Nat.le_refl _) _⟩
    · have hd2 : decide (c > 1073741824) = false := decide_eq_false h2
      rw [show badC ⟨a, b, c⟩ = false by simp [badC, h, h2]]
      go_enter Tryz.func40, Tryz.ntmps40
      go_wp2
      go_ret
      exact ⟨rfl, (Below.refl _ _).alloc (Nat.le_refl _) _⟩
theorem capped_any (a b : Int) (ha : 0 ≤ a ∧ a ≤ 1073741824) (hb : 0 ≤ b ∧ b ≤ 1073741824) (w : World) : Calls Tryz.prog 41 #[.int .i64 a, .int .i64 b] w fun e w' => e = .returned (.int .i64 (capI a b)) ∧ w' = w := by
  obtain ⟨s, hs⟩ : ∃ z, a + b = z := ⟨_, rfl⟩
  have hw : IntKind.i64.wrap (a + b) = s := by rw [IntWalk.i64_in _ (by omega), hs]
  unfold capI
  rw [hs]
  by_cases h : s ≤ 1073741824
  · have hm : min s 1073741824 = s := by omega
    rw [hm]
    go_enter Tryz.func41, Tryz.ntmps41
    go_wp2
    go_ret
    exact ⟨rfl, rfl⟩
  · have hm : min s 1073741824 = 1073741824 := by omega
    rw [hm]
    go_enter Tryz.func41, Tryz.ntmps41
    go_wp2
    go_ret
    exact ⟨rfl, rfl⟩
set_option maxRecDepth 100000 in
theorem idx_mp (L : List EdgE) (p : EdgE → Bool) (A : Option Addr) (len cap cl : Nat) (cb : Array Value) (w : World) (hR : RdG w w.heap.size A (edL L)) (hl : len = L.length) (hm : len ≤ 140737488355328) (hc : ∀ W, Below w.heap.size w W → ∀ f : EdgE, f ∈ L → Calls Tryz.prog cl (#[.agg #[.int .i64 f.a, .int .i64 f.b, .int .i64 f.c]] ++ cb) W fun e w' => e = .returned (.bool (p f)) ∧ Below W.heap.size W w') (eg : ∀ args w, (callFunc cl args).run Tryz.prog w = .ok (.enter cl args) w) :
    Calls Tryz.prog 47 #[.slice A len cap, .func (.func cl) #[] cb] w fun e w' => e = .returned (.int .i64 (idxP p L)) ∧ Below w.heap.size w w' := by
  have HR := Lib.hid hR
  have HL := Lib.hid hl
  have HC := Lib.hid hc
  clear hR hl hc
  go_enter Tryz.func47, Tryz.ntmps47
  go_wp2
  go_loopw [8] (fun i wr => ∃ k : Nat, k ≤ len ∧ i = .int .i64 k ∧ Below w.heap.size w wr ∧ Hid (∀ (j : Nat) (y : EdgE), j < k → L[j]? = some y → p y = false)) (fun i _ => len - (intOf i).toNat)
  case atStart => exact ⟨0, Nat.zero_le _, rfl, Below.refl _ _, fun j y h => absurd h (Nat.not_lt_zero _)⟩
  case round =>
    obtain ⟨k, hk, rfl, hbr, hno⟩ := hrel
    by_cases hlt : k < len
    · have hx : L[k]? = some (L[k]'(by have := HL.out; omega)) := List.getElem?_eq_getElem _
      obtain ⟨x, hxx⟩ : ∃ x, L[k]'(by have := HL.out; omega) = x := ⟨_, rfl⟩
      rw [hxx] at hx
      obtain ⟨b, o, rfl, hb', c0, c1, c2⟩ := ed_at3M HR.out hx
      have d0 := (hbr.cell (p := ⟨b, o + k * 3, none⟩) hb').trans c0
      have d1 := (hbr.cell (p := ⟨b, o + k * 3 + 1, none⟩) hb').trans c1
      have d2 := (hbr.cell (p := ⟨b, o + k * 3 + 2, none⟩) hb').trans c2
      have hcf := HC.out wr hbr x (List.mem_of_getElem? hx)
      have HX := Lib.hid hx
      have HCF := Lib.hid hcf
      have hz := hbr.size
      have HB := Lib.hid hbr
      clear hx hxx c0 c1 c2 hbr hcf
      go_wp2_with fail
      go_at_fn cl
      refine HCF.out.mono ?_
      rintro e w2 ⟨rfl, hb2⟩
      have hbb := HB.out.trans (hb2.mono hz)
      have HBB := Lib.hid hbb
      clear hbb hb2 d0 d1 d2
      by_cases hpp : p x = true
      · have hres := idxP_at p L k x HX.out hpp hno.out
        have HRS := Lib.hid hres
        rw [hpp]
        clear hres hpp
        go_wp2
        go_ret
        exact ⟨by rw [HRS.out]; rfl, HBB.out⟩
      · rw [Bool.not_eq_true] at hpp
        have HPP := Lib.hid hpp
        rw [hpp]
        clear hpp
        go_wp2
        go_roundw
        case rel =>
          refine ⟨k + 1, by omega, by go_num, HBB.out, fun j y hj hy => ?_⟩
          rcases Nat.lt_or_ge j k with h | h
          · exact hno.out j y h hy
          · obtain rfl : j = k := by omega
            have := HX.out
            rw [this] at hy
            cases hy
            exact HPP.out
        case measure => simp [intOf]; omega
    · obtain rfl : k = len := by omega
      have hres := idxP_none p L fun x hx => by
        obtain ⟨j, hj⟩ := List.getElem?_of_mem hx
        exact hno.out j x (by have := (List.getElem?_eq_some_iff.1 hj).1; have := HL.out; omega) hj
      have HRS := Lib.hid hres
      have HBB := Lib.hid hbr
      clear hres hlt hbr
      go_wp2
      go_ret
      exact ⟨by rw [HRS.out]; rfl, HBB.out⟩
theorem cf_mp (L : List EdgE) (p : EdgE → Bool) (A : Option Addr) (len cap cl : Nat) (cb : Array Value) (w : World) (hR : RdG w w.heap.size A (edL L)) (hl : len = L.length) (hm : len ≤ 140737488355328) (hc : ∀ W, Below w.heap.size w W → ∀ f : EdgE, f ∈ L → Calls Tryz.prog cl (#[.agg #[.int .i64 f.a, .int .i64 f.b, .int .i64 f.c]] ++ cb) W fun e w' => e = .returned (.bool (p f)) ∧ Below W.heap.size W w') (eg : ∀ args w, (callFunc cl args).run Tryz.prog w = .ok (.enter cl args) w) :
    Calls Tryz.prog 29 #[.slice A len cap, .func (.func cl) #[] cb] w fun e w' => e = .returned (.bool (L.any p)) ∧ Below w.heap.size w w' := by
  have ha := idxP_any p L
  have hge := idxP_ge p L
  have H := Lib.hid (idx_mp L p A len cap cl cb w hR hl hm hc eg)
  clear hR hl hc
  rw [← ha]
  generalize idxP p L = r at *
  clear ha
  go_enter Tryz.func29, Tryz.ntmps29
  go_wp2_with fail
  refine H.out.mono ?_
  rintro e w2 ⟨rfl, hb2⟩
  go_wp2
  go_ret
  exact ⟨rfl, hb2⟩
/-- an edge whose places a sort may compare -/
abbrev EdgT : Type := { p : EdgD // (0 ≤ p.f ∧ p.f ≤ 400000) ∧ 0 ≤ p.t ∧ p.t ≤ 400000 }
instance : Inhabited EdgT := ⟨⟨⟨0, 0, 0⟩, by decide⟩⟩
def edgTE (x : EdgT) : List Value := [.int .i64 x.1.f, .int .i64 x.1.t, .int .i64 x.1.c]
def edgCmp (x y : EdgT) : Int := if x.1.f = y.1.f then x.1.t - y.1.t else x.1.f - y.1.f
instance (a b : EdgD) : Decidable (ltE a b) := by unfold ltE; infer_instance
theorem edgCmp_lt (x y : EdgT) : ltOf edgCmp x y = decide (ltE x.1 y.1) := by
  unfold ltOf edgCmp ltE
  congr 1
  apply propext
  split
  · omega
  · omega
theorem edgSWO : Go.Sort.SWO (ltOf edgCmp) where
  irrefl x := by rw [edgCmp_lt]; simp [ltE]
  trans x y z h1 h2 := by rw [edgCmp_lt, decide_eq_true_eq] at *; unfold ltE at *; omega
  ntrans x y z h1 h2 := by rw [edgCmp_lt, decide_eq_false_iff_not] at *; unfold ltE at *; omega
set_option maxRecDepth 100000 in
theorem edg_closure (x y : EdgT) (W : World) : Calls Tryz.prog 43 #[.agg #[.int .i64 x.1.f, .int .i64 x.1.t, .int .i64 x.1.c], .agg #[.int .i64 y.1.f, .int .i64 y.1.t, .int .i64 y.1.c]] W fun e w' => e = .returned (.int .i64 (edgCmp x y)) ∧ ∃ q os', w' = Go.Sort.grow (W.drewN q) os' := by
  obtain ⟨⟨a, b, c⟩, ⟨h1, h2⟩, h3, h4⟩ := x
  obtain ⟨⟨a', b', c'⟩, ⟨k1, k2⟩, k3, k4⟩ := y
  simp only at h1 h2 h3 h4 k1 k2 k3 k4 ⊢
  by_cases e : a = a'
  · subst e
    obtain ⟨r, hr⟩ : ∃ z, b - b' = z := ⟨_, rfl⟩
    have hres : edgCmp ⟨⟨a, b, c⟩, ⟨h1, h2⟩, h3, h4⟩ ⟨⟨a, b', c'⟩, ⟨k1, k2⟩, k3, k4⟩ = r := by unfold edgCmp; simp [hr]
    rw [hres]
    have qw : IntKind.i64.wrap (b - b') = r := by rw [IntWalk.i64_in _ (by omega)]; exact hr
    clear hres hr
    go_enter Tryz.func43, Tryz.ntmps43
    go_wp2
    go_ret
    exact ⟨rfl, 0, _, by rw [Go.Sort.alloc_eq_grow, Go.Sort.alloc_eq_grow, Go.Sort.grow_grow]; rfl⟩
  · obtain ⟨r, hr⟩ : ∃ z, a - a' = z := ⟨_, rfl⟩
    have hres : edgCmp ⟨⟨a, b, c⟩, ⟨h1, h2⟩, h3, h4⟩ ⟨⟨a', b', c'⟩, ⟨k1, k2⟩, k3, k4⟩ = r := by unfold edgCmp; simp [hr, e]
    rw [hres]
    have qw : IntKind.i64.wrap (a - a') = r := by rw [IntWalk.i64_in _ (by omega)]; exact hr
    have hne : (a != a') = true := by simpa using e
    clear hres hr
    go_enter Tryz.func43, Tryz.ntmps43
    go_wp2
    go_ret
    exact ⟨rfl, 0, _, by rw [Go.Sort.alloc_eq_grow, Go.Sort.alloc_eq_grow, Go.Sort.grow_grow]; rfl⟩
theorem edgV_len (L : List EdgD) : (edgV L).length = L.length * 3 := flat_len edgC 3 (fun _ => rfl) L
theorem flatK_edg (d : Array EdgT) : (Go.Sort.flatK edgTE 3 d).toList = edgV (d.toList.map Subtype.val) := by
  apply List.ext_getElem?
  intro j
  rcases Nat.lt_or_ge j (d.size * 3) with hj | hj
  · have hi : j / 3 < d.size := by omega
    have h1 : (d.toList.map Subtype.val)[j / 3]? = some (d[j / 3]'hi).1 := by
      rw [List.getElem?_map, Array.getElem?_toList, Array.getElem?_eq_getElem hi]
      rfl
    have h2 := edgV_at h1 (j % 3) ((edgTE (d[j / 3]'hi))[j % 3]!) (by
      have h3 : j % 3 = 0 ∨ j % 3 = 1 ∨ j % 3 = 2 := by omega
      rcases h3 with e | e | e <;> rw [e] <;> rfl)
    rw [show j / 3 * 3 + j % 3 = j by omega] at h2
    rw [h2, Array.getElem?_toList, Array.getElem?_eq_getElem (by simpa using hj)]
    congr 1
    have h4 := Go.Sort.get_flatK edgTE 3 d j hj
    rw [getElem!_pos _ j (by simpa using hj)] at h4
    rw [h4, getElem!_pos d _ hi]
  · rw [List.getElem?_eq_none (by simpa using hj), List.getElem?_eq_none (by rw [edgV_len, List.length_map]; simpa using hj)]
theorem holds_flatK {K : Nat} {w : World} {base : Nat} {e : TypeId} {g n cap : Nat} {xs : List Value} {F : Array Value} (h : w.ownsRow base e K (.slice (some ⟨g, 0, none⟩) n cap) n xs) (hF : F.toList = xs) : Go.Sort.Holds id w g 0 F := by
  intro j hj
  have hu : xs[j]? = some F[j] := by rw [← hF, Array.getElem?_toList, Array.getElem?_eq_getElem hj]
  have := own_cellf h hu
  rw [Nat.zero_add, getElem!_pos F j hj]
  exact ⟨this.1, this.2.1⟩
theorem own_putK {K : Nat} {w : World} {base : Nat} {e : TypeId} {g n cap q : Nat} {xs : List Value} {F : Array Value} (h : w.ownsRow base e K (.slice (some ⟨g, 0, none⟩) n cap) n xs) (hF : F.size = n * K) :
    (Go.Sort.putRow id (Go.Sort.ahead w q) g 0 F).ownsRow base e K (.slice (some ⟨g, 0, none⟩) n cap) n F.toList := by
  rcases h.2 with ⟨e0, _⟩ | ⟨g', cap', cur, e0, hb, hg, hn, hm, hs, ht⟩
  · cases e0
  · injection e0 with e1 _ e3
    injection e1 with e1
    injection e1 with e1
    subst e1; subst e3
    refine ⟨by simpa using hF, .inr ⟨g, cap, Go.Sort.putCells id 0 F cur, rfl, hb, ?_, hn, hm, by simpa [Go.Sort.putCells] using hs, ?_⟩⟩
    · simp [Go.Sort.putRow, Go.Sort.mapBlock, Go.Sort.ahead, Array.getElem?_modify, hg, Go.Sort.onCells]
    · apply List.ext_getElem?
      intro j
      rw [List.getElem?_take, Array.getElem?_toList, Array.getElem?_toList]
      by_cases hj : j < n * K
      · have hjc : j < cur.size := by
          have : n * K ≤ cap * K := Nat.mul_le_mul_right K hn
          omega
        simp only [if_pos hj, Go.Sort.putCells, Array.getElem?_mapIdx, Array.getElem?_eq_getElem hjc, Option.map_some]
        rw [if_pos (by simp; omega), Array.getElem?_eq_getElem (by omega)]
        simp [getElem!_pos, show j < F.size by omega]
      · rw [if_neg hj, Array.getElem?_eq_none (by omega)]
theorem below_grwM {B : Nat} {w0 w : World} (h : Below B w0 w) (hB : B ≤ w.heap.size) (os : Array Obj) : Below B w0 (Go.Sort.grow w os) :=
  ⟨h.os, h.tape, h.output, Nat.le_trans h.size (by rw [Go.Sort.size_grow]; omega), fun k hk => (Go.Sort.heap_grow_old w os (Nat.lt_of_lt_of_le hk hB)).trans (h.block k hk)⟩
def edgsT : (L : List EdgD) → (∀ x ∈ L, (0 ≤ x.f ∧ x.f ≤ 400000) ∧ 0 ≤ x.t ∧ x.t ≤ 400000) → List EdgT
  | [], _ => []
  | x :: r, h => ⟨x, h x (by simp)⟩ :: edgsT r fun y hy => h y (by simp [hy])
theorem edgsT_val : ∀ (L : List EdgD) (h : ∀ x ∈ L, (0 ≤ x.f ∧ x.f ≤ 400000) ∧ 0 ≤ x.t ∧ x.t ≤ 400000), (edgsT L h).map Subtype.val = L
  | [], _ => rfl
  | x :: r, h => by
    show x :: (edgsT r _).map Subtype.val = x :: r
    rw [edgsT_val r]
set_option maxRecDepth 100000 in
/-- slices.SortFunc of the edges -/
theorem sort_edgs {W : World} {B n c : Nat} {A : Option Addr} {L : List EdgD} (ho : W.ownsRow B 43 3 (.slice A n c) n (edgV L)) (hL : ∀ x ∈ L, (0 ≤ x.f ∧ x.f ≤ 400000) ∧ 0 ≤ x.t ∧ x.t ≤ 400000) (hn : n ≤ 1000000000) :
    Calls Tryz.prog 42 #[.slice A n c, .func (.func 43) #[] #[]] W fun e W' => e = .returned (.tuple #[]) ∧ ∃ L' : List EdgD, L'.Perm L ∧ L'.Pairwise (fun a b => ¬ ltE b a) ∧ W'.ownsRow B 43 3 (.slice A n c) n (edgV L') ∧ ∀ B0 w0, Below B0 w0 W → B0 ≤ B → Below B0 w0 W' := by
  have hlen : L.length = n := by have := ho.1; rw [edgV_len] at this; omega
  by_cases h0 : n = 0
  · subst h0
    obtain rfl : L = [] := List.length_eq_zero_iff.1 hlen
    have hcon := AnyF.slices_SortFunc_none Sh.sortEdge A c (.func (.func 43) #[] #[]) W
    change Calls Tryz.prog 42 _ _ _ at hcon
    exact hcon.mono fun e1 w1 ⟨h1, h2⟩ => ⟨h1, [], List.Perm.refl _, List.Pairwise.nil, by rw [h2]; exact ho, fun B0 w0 hb _ => by rw [h2]; exact hb⟩
  · obtain ⟨g, rfl⟩ := own_ptr ho h0
    obtain ⟨hgB, hgl⟩ := World.ownsRow.lt ho g rfl
    obtain ⟨d, hd⟩ : ∃ d : Array EdgT, d = (edgsT L hL).toArray := ⟨_, rfl⟩
    have hdv : d.toList.map Subtype.val = L := by rw [hd]; exact edgsT_val L hL
    have hds : d.size = n := by
      have := congrArg List.length hdv
      rw [List.length_map, Array.length_toList] at this
      omega
    have hH : Go.Sort.HoldsK edgTE 3 W g 0 d := holds_flatK ho (by rw [flatK_edg, hdv])
    have eg : ∀ args w, (callFunc 43 args).run Tryz.prog w = .ok (.enter 43 args) w := enters_of Tryz.func43 (by kernel_rfl) rfl
    have hcon := AnyQ.slices_SortFunc Sh.sortEdge 3 Tryz.isAgg43 Tryz.sizeOf43 edgTE (fun _ => rfl) (fun x v hv => by simp [edgTE] at hv; rcases hv with rfl | rfl | rfl <;> rfl) edgCmp edgSWO 43 #[] g 0 c d W eg (fun _ _ _ _ x y => edg_closure x y _) hH hgl (by omega)
    change Calls Tryz.prog 42 _ _ _ at hcon
    rw [hds] at hcon
    refine hcon.mono fun e1 w1 ⟨h1, d', q, os, hp, hs, h2⟩ => ⟨h1, d'.toList.map Subtype.val, ?_, ?_, ?_, fun B0 w0 hb hBB => ?_⟩
    · have h3 := hp.2.2
      have hsz : d'.size = n := by rw [hp.1, hds]
      have e1 : d'.extract 0 n = d' := by rw [← hsz, Array.extract_size]
      have e2 : d.extract 0 n = d := by rw [← hds, Array.extract_size]
      rw [e1, e2] at h3
      have h4 := h3.map Subtype.val
      rw [hdv] at h4
      exact h4
    · have hsz : d'.size = n := by rw [hp.1, hds]
      rw [List.pairwise_map, List.pairwise_iff_getElem]
      intro i j hi hj hij
      have hi2 : i < d'.size := by simpa using hi
      have hj2 : j < d'.size := by simpa using hj
      have h3 := hs i j (Nat.zero_le _) hij (by omega)
      rw [edgCmp_lt, getElem!_pos d' i hi2, getElem!_pos d' j hj2, decide_eq_false_iff_not] at h3
      rw [Array.getElem_toList, Array.getElem_toList]
      exact h3
    · have hsz : d'.size = n := by rw [hp.1, hds]
      have h3 := own_putK (q := q) (F := Go.Sort.flatK edgTE 3 d') ho (by rw [Go.Sort.size_flatK, hsz])
      rw [flatK_edg] at h3
      rw [h2]
      exact own_keep h3 (below_grwM (Below.refl _ _) (Nat.le_refl _) os)
    · rw [h2]
      have h4 : Below B0 w0 (Go.Sort.putRow id (Go.Sort.ahead W q) g 0 (Go.Sort.flatK edgTE 3 d')) := Go.Lib.below_putRow hb (by omega)
      have h5 : (Go.Sort.putRow id (Go.Sort.ahead W q) g 0 (Go.Sort.flatK edgTE 3 d')).heap.size = W.heap.size := by simp [Go.Sort.putRow, Go.Sort.mapBlock, Go.Sort.ahead]
      exact below_grwM h4 (by rw [h5]; omega) os
end Go.Proofs.YtcdlgjhdbmmomaaGreatDoor
