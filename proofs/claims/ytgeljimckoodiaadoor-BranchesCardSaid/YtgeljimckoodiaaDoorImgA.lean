/- Images, read; image.name, walked. slices.ContainsFunc at functions of images, with the closure of image.funcs. -/
import Derived.Test.YtgeljimckoodiaaDoorCfA
import Derived.Laws.IdiomStrings
import Derived.Laws.Strings
namespace Go.Proofs.YtgeljimckoodiaaDoor
open Go.RowKit
def strL (s : ByteArray) : List Int := s.data.toList.map fun b => (b.toNat : Int)
theorem strL_len (s : ByteArray) : (strL s).length = s.size := by unfold strL; rw [List.length_map]; rfl
theorem strL_bd (s : ByteArray) : ∀ x ∈ strL s, 0 ≤ x ∧ x < 256 := by
  intro x hx
  simp only [strL, List.mem_map] at hx
  obtain ⟨b, _, rfl⟩ := hx
  have := b.toNat_lt
  omega
theorem bytesRow_get (s : ByteArray) (cap j : Nat) (x : Int) (h : (strL s)[j]? = some x) : (bytesRow s cap)[j]? = some (Value.int .u8 x) := by
  simp only [strL, List.getElem?_map, Option.map_eq_some_iff] at h
  obtain ⟨b, hb, rfl⟩ := h
  have hj : j < s.data.size := by
    have := (List.getElem?_eq_some_iff.1 hb).1
    simpa using this
  unfold bytesRow
  rw [Array.getElem?_append_left (by simpa using hj)]
  rw [Array.getElem?_map, ← Array.getElem?_toList, hb]
  rfl
theorem bytesRow_size (s : ByteArray) (C : Nat) (h : s.size ≤ C) : (bytesRow s C).size = C := by
  unfold bytesRow
  rw [Array.size_append, Array.size_map, Array.size_replicate]
  have : s.data.size = s.size := rfl
  omega
/-- a letter that no name has -/
def oddCh (c : Int) : Bool := (decide (c < 97) || decide (122 < c)) && (decide (c < 48) || decide (57 < c)) && c != 95 && c != 46
theorem oddCh_any (c : Int) (_h : 0 ≤ c ∧ c < 256) (w : World) : Calls Tryd.prog 100 #[.int .u8 c] w fun e w' => e = .returned (.bool (oddCh c)) ∧ w = w' := by
  obtain ⟨r, hr⟩ : ∃ r, oddCh c = r := ⟨_, rfl⟩
  rw [hr]
  have HR := Lib.hid hr
  clear hr
  by_cases h1 : c < 97
  all_goals
    by_cases h2 : 122 < c
    all_goals
      by_cases h3 : c < 48
      all_goals
        by_cases h4 : 57 < c
        all_goals
          first
            | (exfalso; omega)
            | (by_cases h5 : c = 95
               · subst h5
                 go_enter Tryd.func100, Tryd.ntmps100
                 go_wp2
                 go_ret
                 exact ⟨by rw [← HR.out]; rfl, rfl⟩
               · by_cases h6 : c = 46
                 · subst h6
                   go_enter Tryd.func100, Tryd.ntmps100
                   go_wp2
                   go_ret
                   exact ⟨by rw [← HR.out]; rfl, rfl⟩
                 · have h5' : (c != 95) = true := by simpa using h5
                   have h6' : (c != 46) = true := by simpa using h6
                   have hq : oddCh c = ((decide (c < 97) || decide (122 < c)) && (decide (c < 48) || decide (57 < c))) := by simp [oddCh, h5', h6']
                   have HQ := Lib.hid hq
                   clear hq h5 h6
                   go_enter Tryd.func100, Tryd.ntmps100
                   go_wp2
                   go_ret
                   exact ⟨by rw [← HR.out, HQ.out]; simp [*], rfl⟩)
/-- may a function have this name? -/
def nameOk (s : ByteArray) : Bool := !s.toList.isEmpty && decide (s.size ≤ 16) && !(strL s).any oddCh
set_option maxRecDepth 100000 in
theorem name_any (s : ByteArray) (hs : s.size ≤ 140737488355328) (w : World) : Calls Tryd.prog 83 #[.string s] w fun e w' => e = .returned (.bool (nameOk s)) ∧ Below w.heap.size w w' := by
  obtain ⟨r, hr⟩ : ∃ r, nameOk s = r := ⟨_, rfl⟩
  rw [hr]
  by_cases h1 : s.toList = []
  · have e : r = false := by rw [← hr]; simp [nameOk, h1]
    subst e
    have h1' : s.toList.isEmpty = true := by simp [h1]
    clear hr h1
    go_enter Tryd.func83, Tryd.ntmps83
    go_wp2
    go_ret
    exact ⟨rfl, Below.refl _ _⟩
  · have h1' : s.toList.isEmpty = false := by simp [h1]
    by_cases h2 : (16 : Int) < s.size
    · have e : r = false := by rw [← hr]; simp [nameOk]; omega
      subst e
      clear hr
      go_enter Tryd.func83, Tryd.ntmps83
      go_wp2
      go_ret
      exact ⟨rfl, Below.refl _ _⟩
    · have e : r = !(strL s).any oddCh := by rw [← hr]; simp [nameOk, h1']; omega
      have E := Lib.hid e
      clear hr e
      have hcv := run_bytes_of_string (P := Tryd.prog) w 9 30 5 s Tryd.underlying9 Tryd.underlying30 Tryd.underlying5
      go_enter Tryd.func83, Tryd.ntmps83
      go_wp2_with fail
      refine (cf_name (strL s) oddCh _ _ _ _ (fun hn => ⟨w.heap.size, 0, rfl, by simp, fun j v hv => ?hcc⟩) (strL_len s).symm hs (fun x hx => oddCh_any x (strL_bd s x hx) _)).mono ?_
      case hcc =>
        simp only [intsV, List.getElem?_map, Option.map_eq_some_iff] at hv
        obtain ⟨x, hx, rfl⟩ := hv
        have hbl : ∀ C, ((w.alloc (.cells (bytesRow s C) 5 ((bytesRow s C).size, (bytesRow s C).size + 1))).drew).heap[w.heap.size]? = some (.cells (bytesRow s C) 5 ((bytesRow s C).size, (bytesRow s C).size + 1)) := fun C => by
          show (w.heap.push _)[w.heap.size]? = _
          simp
        rw [Nat.zero_add]
        exact (cell_of_row _ _ j _ _ _ (hbl _)).trans (bytesRow_get s _ j x hx)
      rintro e w3 ⟨rfl, rfl⟩
      have hfin : ∀ X, Below w.heap.size w ((w.alloc X).drew) := fun X => ((Below.refl _ _).alloc (Nat.le_refl _) _).drew
      go_wp2
      go_ret
      exact ⟨by rw [E.out]; rfl, hfin _⟩
end Go.Proofs.YtgeljimckoodiaaDoor
namespace Go.Proofs.YtgeljimckoodiaaDoor
open Go.RowKit
/-- a function of an image -/
structure FnD where
  name : ByteArray
  start : Int
  size : Int
def fnV (f : FnD) : List Value := [.string f.name, .int .i64 f.start, .int .i64 f.size]
def funcsV (L : List FnD) : List Value := L.flatMap fnV
theorem flat_at {α : Type} (F : α → List Value) (n : Nat) (hF : ∀ a, (F a).length = n) : ∀ (L : List α) (j : Nat) (a : α), L[j]? = some a → ∀ (q : Nat) (v : Value), q < n → (F a)[q]? = some v → (L.flatMap F)[j * n + q]? = some v
  | [], _, _, h, _, _, _, _ => by simp at h
  | b :: r, 0, _, h, q, v, hq, hv => by
    cases h
    rw [List.flatMap_cons, Nat.zero_mul, Nat.zero_add, List.getElem?_append_left (by rw [hF]; exact hq)]
    exact hv
  | b :: r, j + 1, a, h, q, v, hq, hv => by
    have ih := flat_at F n hF r j a (by simpa using h) q v hq hv
    rw [List.flatMap_cons, List.getElem?_append_right (by rw [hF, Nat.succ_mul]; omega), hF, show (j + 1) * n + q - n = j * n + q by rw [Nat.succ_mul]; omega]
    exact ih
theorem flat_len {α : Type} (F : α → List Value) (n : Nat) (hF : ∀ a, (F a).length = n) (L : List α) : (L.flatMap F).length = L.length * n := by
  induction L with
  | nil => simp
  | cons b r ih => rw [List.flatMap_cons, List.length_append, hF, ih, List.length_cons, Nat.succ_mul]; omega
theorem flat_take {α : Type} (F : α → List Value) (n : Nat) (hF : ∀ a, (F a).length = n) : ∀ (L : List α) (k : Nat), (L.take k).flatMap F = (L.flatMap F).take (k * n)
  | [], k => by simp
  | b :: r, 0 => by simp
  | b :: r, k + 1 => by
    rw [List.take_succ_cons, List.flatMap_cons, List.flatMap_cons, flat_take F n hF r k, Nat.succ_mul, List.take_append, hF, List.take_of_length_le (show (F b).length ≤ k * n + n by rw [hF]; omega), show k * n + n - n = k * n by omega]
theorem funcsV_at {L : List FnD} {j : Nat} {f : FnD} (h : L[j]? = some f) : (funcsV L)[j * 3]? = some (.string f.name) ∧ (funcsV L)[j * 3 + 1]? = some (.int .i64 f.start) ∧ (funcsV L)[j * 3 + 2]? = some (.int .i64 f.size) :=
  ⟨flat_at fnV 3 (fun _ => rfl) L j f h 0 _ (by decide) rfl, flat_at fnV 3 (fun _ => rfl) L j f h 1 _ (by decide) rfl, flat_at fnV 3 (fun _ => rfl) L j f h 2 _ (by decide) rfl⟩
theorem RdG.at3 {w : World} {B : Nat} {A : Option Addr} {L : List FnD} (h : RdG w B A (funcsV L)) {j : Nat} {f : FnD} (hv : L[j]? = some f) :
    ∃ b o, A = some ⟨b, o, none⟩ ∧ b < B ∧ w.cell? ⟨b, o + j * 3, none⟩ = some (.string f.name) ∧ w.cell? ⟨b, o + j * 3 + 1, none⟩ = some (.int .i64 f.start) ∧ w.cell? ⟨b, o + j * 3 + 2, none⟩ = some (.int .i64 f.size) := by
  obtain ⟨h0, h1, h2⟩ := funcsV_at hv
  obtain ⟨b, o, e, hb, hc⟩ := h (by intro e; rw [e] at h0; simp at h0)
  exact ⟨b, o, e, hb, hc _ _ h0, by rw [Nat.add_assoc]; exact hc _ _ h1, by rw [Nat.add_assoc]; exact hc _ _ h2⟩
def sameName (m : ByteArray) (f : FnD) : Bool := f.name.toList == m.toList
theorem same_any (f : FnD) (m : ByteArray) (bf : Nat) (w : World) (hb : bf < w.heap.size) (hc : w.cell? ⟨bf, 0, none⟩ = some (.string m)) :
    Calls Tryd.prog 84 #[.agg #[.string f.name, .int .i64 f.start, .int .i64 f.size], .pointer (some ⟨bf, 0, none⟩)] w fun e w' => e = .returned (.bool (sameName m f)) ∧ Below w.heap.size w w' := by
  go_enter Tryd.func84, Tryd.ntmps84
  go_wp2
  go_ret
  exact ⟨rfl, (Below.refl _ _).alloc (Nat.le_refl _) _⟩
set_option maxRecDepth 100000 in
theorem idx_same (L : List FnD) (m : ByteArray) (A : Option Addr) (len cap bf : Nat) (w : World) (hR : RdG w w.heap.size A (funcsV L)) (hl : len = L.length) (hm : len ≤ 140737488355328) (hb : bf < w.heap.size) (hc : w.cell? ⟨bf, 0, none⟩ = some (.string m)) :
    Calls Tryd.prog 87 #[.slice A len cap, .func (.func 84) #[] #[.pointer (some ⟨bf, 0, none⟩)]] w fun e w' => e = .returned (.int .i64 (idxP (sameName m) L)) ∧ Below w.heap.size w w' := by
  have HR := Lib.hid hR
  have HL := Lib.hid hl
  have HC := Lib.hid hc
  clear hR hl hc
  go_enter Tryd.func87, Tryd.ntmps87
  go_wp2
  go_loopw [8] (fun i wr => ∃ k : Nat, k ≤ len ∧ i = .int .i64 k ∧ Below w.heap.size w wr ∧ Hid (∀ (j : Nat) (y : FnD), j < k → L[j]? = some y → sameName m y = false)) (fun i _ => len - (intOf i).toNat)
  case atStart => exact ⟨0, Nat.zero_le _, rfl, Below.refl _ _, fun j y h => absurd h (Nat.not_lt_zero _)⟩
  case round =>
    obtain ⟨k, hk, rfl, hbr, hno⟩ := hrel
    by_cases hlt : k < len
    · have hx : L[k]? = some (L[k]'(by have := HL.out; omega)) := List.getElem?_eq_getElem _
      obtain ⟨x, hxx⟩ : ∃ x, L[k]'(by have := HL.out; omega) = x := ⟨_, rfl⟩
      rw [hxx] at hx
      obtain ⟨b, o, rfl, hb', c0, c1, c2⟩ := HR.out.at3 hx
      have d0 := (hbr.cell (p := ⟨b, o + k * 3, none⟩) hb').trans c0
      have d1 := (hbr.cell (p := ⟨b, o + k * 3 + 1, none⟩) hb').trans c1
      have d2 := (hbr.cell (p := ⟨b, o + k * 3 + 2, none⟩) hb').trans c2
      have hcf : wr.cell? ⟨bf, 0, none⟩ = some (.string m) := (hbr.cell (p := ⟨bf, 0, none⟩) hb).trans HC.out
      have HX := Lib.hid hx
      have HCF := Lib.hid hcf
      have hz := hbr.size
      have HB := Lib.hid hbr
      clear hx hxx c0 c1 c2 hbr hcf
      go_wp2_with fail
      refine (same_any x m bf _ (by omega) HCF.out).mono ?_
      rintro e w2 ⟨rfl, hb2⟩
      have hbb := HB.out.trans (hb2.mono hz)
      have HBB := Lib.hid hbb
      clear hbb hb2 d0 d1 d2
      by_cases hpp : sameName m x = true
      · have hres := idxP_at (sameName m) L k x HX.out hpp hno.out
        have HRS := Lib.hid hres
        rw [hpp]
        clear hres hpp
        go_wp2
        go_ret
        exact ⟨by rw [HRS.out]; rfl, HBB.out⟩
      · rw [Bool.not_eq_true] at hpp
        have HPP := Lib.hid hpp
        rw [hpp]
        clear hpp
        go_wp2
        go_roundw
        case rel =>
          refine ⟨k + 1, by omega, by go_num, HBB.out, fun j y hj hy => ?_⟩
          rcases Nat.lt_or_ge j k with h | h
          · exact hno.out j y h hy
          · obtain rfl : j = k := by omega
            have := HX.out
            rw [this] at hy
            cases hy
            exact HPP.out
        case measure => simp [intOf]; omega
    · obtain rfl : k = len := by omega
      have hres := idxP_none (sameName m) L fun x hx => by
        obtain ⟨j, hj⟩ := List.getElem?_of_mem hx
        exact hno.out j x (by have := (List.getElem?_eq_some_iff.1 hj).1; have := HL.out; omega) hj
      have HRS := Lib.hid hres
      have HBB := Lib.hid hbr
      clear hres hlt hbr
      go_wp2
      go_ret
      exact ⟨by rw [HRS.out]; rfl, HBB.out⟩
theorem cf_same (L : List FnD) (m : ByteArray) (A : Option Addr) (len cap bf : Nat) (w : World) (hR : RdG w w.heap.size A (funcsV L)) (hl : len = L.length) (hm : len ≤ 140737488355328) (hb : bf < w.heap.size) (hc : w.cell? ⟨bf, 0, none⟩ = some (.string m)) :
    Calls Tryd.prog 67 #[.slice A len cap, .func (.func 84) #[] #[.pointer (some ⟨bf, 0, none⟩)]] w fun e w' => e = .returned (.bool (L.any (sameName m))) ∧ Below w.heap.size w w' := by
  have ha := idxP_any (sameName m) L
  have hge := idxP_ge (sameName m) L
  have H := Lib.hid (idx_same L m A len cap bf w hR hl hm hb hc)
  clear hR hl hc
  rw [← ha]
  generalize idxP (sameName m) L = r at *
  clear ha
  go_enter Tryd.func67, Tryd.ntmps67
  go_wp2_with fail
  refine H.out.mono ?_
  rintro e w2 ⟨rfl, hb2⟩
  go_wp2
  go_ret
  exact ⟨rfl, hb2⟩
end Go.Proofs.YtgeljimckoodiaaDoor
