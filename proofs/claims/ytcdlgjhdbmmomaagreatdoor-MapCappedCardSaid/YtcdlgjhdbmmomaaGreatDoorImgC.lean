/- Images, read; image.name, walked. slices.ContainsFunc at functions of images, with the closure of image.funcs. Images as values; image.funcs, walked. -/
import Derived.Test.YtcdlgjhdbmmomaaGreatDoorAppG
import Derived.WalkLawsBesides
import Derived.Outline
import Derived.Laws.IdiomStrings
import Derived.Laws.Strings
namespace Go.Proofs.YtcdlgjhdbmmomaaGreatDoor
open Go.RowKit
set_option maxRecDepth 100000 in
theorem idx_table (L : List Int) (p : Int → Bool) (A : Option Addr) (len cap : Nat) (bx : Nat) (w : World) (hR : RdG w w.heap.size A (intsV .i64 L)) (hl : len = L.length) (hm : len ≤ 140737488355328)
 (hp : ∀ x ∈ L, Calls Tryz.prog 80 #[.int .i64 x, .pointer (some ⟨bx, 0, none⟩)] w fun e w' => e = .returned (.bool (p x)) ∧ w = w') :
 Calls Tryz.prog 127 #[.slice A len cap, .func (.func 80) #[] #[.pointer (some ⟨bx, 0, none⟩)]] w fun e w' => e = .returned (.int .i64 (idxP p L)) ∧ w = w' := by
 have HR := hd' hR; have HP := hd' hp; have HL := hd' hl; clear hR hp hl
 go_enter Tryz.func127, Tryz.ntmps127
 go_wp2
 go_loop [8] (fun i => ∃ k : Nat, k ≤ len ∧ i = .int .i64 k ∧ Hid (∀ (j : Nat) (y : Int), j < k → L[j]? = some y → p y = false)) (fun i => len - (intOf i).toNat)
 case atStart => exact ⟨0, Nat.zero_le _, rfl, fun j y h => absurd h (Nat.not_lt_zero _)⟩
 case round =>
  obtain ⟨k, hk, rfl, hno⟩ := hrel
  by_cases hlt : k < len
  · have hx : L[k]? = some (L[k]'(by have := HL.out; omega)) := gE' _; obtain ⟨x, hxx⟩ := ex' (L[k]'(by have := HL.out; omega))
    rw [hxx] at hx; have hpx := HP.out x (mG' hx); obtain ⟨b, o, rfl, hb, hc⟩ := HR.out.at (intsV_at .i64 hx); have HX := hd' hx; have HPX := hd' hpx; clear hx hxx hpx
    go_wp2_with fail
    refine (HPX.out).mono ?_; rintro e w2 ⟨rfl, rfl⟩
    by_cases hpp : p x = true
    · have hres := idxP_at p L k x HX.out hpp hno.out; have HRS := hd' hres; rw [hpp]; clear hres hpp
      go_wp2
      go_ret
      exact ⟨by rw [HRS.out]; rfl, rfl⟩
    · rw [Bool.not_eq_true] at hpp; have HPP := hd' hpp; rw [hpp]; clear hpp
      go_wp2
      go_round
      case rel =>
       refine ⟨k + 1, by omega, by go_num, fun j y hj hy => ?_⟩; rcases Nat.lt_or_ge j k with h | h
       · exact hno.out j y h hy
       · obtain rfl : j = k := by omega
         have := HX.out; rw [this] at hy
         cases hy
         exact HPP.out
      case measure => simp [intOf]; omega
  · obtain rfl : k = len := by omega
    have hres := idxP_none p L fun x hx => by
     obtain ⟨j, hj⟩ := List.getElem?_of_mem hx; exact hno.out j x (by have := (List.getElem?_eq_some_iff.1 hj).1; have := HL.out; omega) hj
    have HRS := hd' hres; clear hres hlt
    go_wp2
    go_ret
    exact ⟨by rw [HRS.out]; rfl, rfl⟩
theorem cf_table (L : List Int) (p : Int → Bool) (A : Option Addr) (len cap : Nat) (bx : Nat) (w : World) (hR : RdG w w.heap.size A (intsV .i64 L)) (hl : len = L.length) (hm : len ≤ 140737488355328)
 (hp : ∀ x ∈ L, Calls Tryz.prog 80 #[.int .i64 x, .pointer (some ⟨bx, 0, none⟩)] w fun e w' => e = .returned (.bool (p x)) ∧ w = w') :
 Calls Tryz.prog 79 #[.slice A len cap, .func (.func 80) #[] #[.pointer (some ⟨bx, 0, none⟩)]] w fun e w' => e = .returned (.bool (L.any p)) ∧ w = w' := by
 have ha := idxP_any p L; have hge := idxP_ge p L; have H := hd' (idx_table L p A len cap bx w hR hl hm hp); clear hR hp hl; rw [← ha]; generalize idxP p L = r at *; clear ha
 go_enter Tryz.func79, Tryz.ntmps79
 go_wp2_with fail
 refine H.out.mono ?_; rintro e w2 ⟨rfl, rfl⟩
 go_wp2
 go_ret
 exact ⟨rfl, rfl⟩
set_option maxRecDepth 100000 in
theorem idx_data (L : List Int) (p : Int → Bool) (A : Option Addr) (len cap : Nat) (w : World) (hR : RdG w w.heap.size A (intsV .i64 L)) (hl : len = L.length) (hm : len ≤ 140737488355328)
 (hp : ∀ x ∈ L, Calls Tryz.prog 81 #[.int .i64 x] w fun e w' => e = .returned (.bool (p x)) ∧ w = w') :
 Calls Tryz.prog 127 #[.slice A len cap, .func (.func 81) #[] #[]] w fun e w' => e = .returned (.int .i64 (idxP p L)) ∧ w = w' := by
 have HR := hd' hR; have HP := hd' hp; have HL := hd' hl; clear hR hp hl
 go_enter Tryz.func127, Tryz.ntmps127
 go_wp2
 go_loop [8] (fun i => ∃ k : Nat, k ≤ len ∧ i = .int .i64 k ∧ Hid (∀ (j : Nat) (y : Int), j < k → L[j]? = some y → p y = false)) (fun i => len - (intOf i).toNat)
 case atStart => exact ⟨0, Nat.zero_le _, rfl, fun j y h => absurd h (Nat.not_lt_zero _)⟩
 case round =>
  obtain ⟨k, hk, rfl, hno⟩ := hrel
  by_cases hlt : k < len
  · have hx : L[k]? = some (L[k]'(by have := HL.out; omega)) := gE' _; obtain ⟨x, hxx⟩ := ex' (L[k]'(by have := HL.out; omega))
    rw [hxx] at hx; have hpx := HP.out x (mG' hx); obtain ⟨b, o, rfl, hb, hc⟩ := HR.out.at (intsV_at .i64 hx); have HX := hd' hx; have HPX := hd' hpx; clear hx hxx hpx
    go_wp2_with fail
    refine (HPX.out).mono ?_; rintro e w2 ⟨rfl, rfl⟩
    by_cases hpp : p x = true
    · have hres := idxP_at p L k x HX.out hpp hno.out; have HRS := hd' hres; rw [hpp]; clear hres hpp
      go_wp2
      go_ret
      exact ⟨by rw [HRS.out]; rfl, rfl⟩
    · rw [Bool.not_eq_true] at hpp; have HPP := hd' hpp; rw [hpp]; clear hpp
      go_wp2
      go_round
      case rel =>
       refine ⟨k + 1, by omega, by go_num, fun j y hj hy => ?_⟩; rcases Nat.lt_or_ge j k with h | h
       · exact hno.out j y h hy
       · obtain rfl : j = k := by omega
         have := HX.out; rw [this] at hy
         cases hy
         exact HPP.out
      case measure => simp [intOf]; omega
  · obtain rfl : k = len := by omega
    have hres := idxP_none p L fun x hx => by
     obtain ⟨j, hj⟩ := List.getElem?_of_mem hx; exact hno.out j x (by have := (List.getElem?_eq_some_iff.1 hj).1; have := HL.out; omega) hj
    have HRS := hd' hres; clear hres hlt
    go_wp2
    go_ret
    exact ⟨by rw [HRS.out]; rfl, rfl⟩
theorem cf_data (L : List Int) (p : Int → Bool) (A : Option Addr) (len cap : Nat) (w : World) (hR : RdG w w.heap.size A (intsV .i64 L)) (hl : len = L.length) (hm : len ≤ 140737488355328)
 (hp : ∀ x ∈ L, Calls Tryz.prog 81 #[.int .i64 x] w fun e w' => e = .returned (.bool (p x)) ∧ w = w') :
 Calls Tryz.prog 79 #[.slice A len cap, .func (.func 81) #[] #[]] w fun e w' => e = .returned (.bool (L.any p)) ∧ w = w' := by
 have ha := idxP_any p L; have hge := idxP_ge p L; have H := hd' (idx_data L p A len cap w hR hl hm hp); clear hR hp hl; rw [← ha]; generalize idxP p L = r at *; clear ha
 go_enter Tryz.func79, Tryz.ntmps79
 go_wp2_with fail
 refine H.out.mono ?_; rintro e w2 ⟨rfl, rfl⟩
 go_wp2
 go_ret
 exact ⟨rfl, rfl⟩
set_option maxRecDepth 100000 in
theorem idx_name (L : List Int) (p : Int → Bool) (A : Option Addr) (len cap : Nat) (w : World) (hR : RdG w w.heap.size A (intsV .u8 L)) (hl : len = L.length) (hm : len ≤ 140737488355328)
 (hp : ∀ x ∈ L, Calls Tryz.prog 168 #[.int .u8 x] w fun e w' => e = .returned (.bool (p x)) ∧ w = w') :
 Calls Tryz.prog 184 #[.slice A len cap, .func (.func 168) #[] #[]] w fun e w' => e = .returned (.int .i64 (idxP p L)) ∧ w = w' := by
 have HR := hd' hR; have HP := hd' hp; have HL := hd' hl; clear hR hp hl
 go_enter Tryz.func184, Tryz.ntmps184
 go_wp2
 go_loop [8] (fun i => ∃ k : Nat, k ≤ len ∧ i = .int .i64 k ∧ Hid (∀ (j : Nat) (y : Int), j < k → L[j]? = some y → p y = false)) (fun i => len - (intOf i).toNat)
 case atStart => exact ⟨0, Nat.zero_le _, rfl, fun j y h => absurd h (Nat.not_lt_zero _)⟩
 case round =>
  obtain ⟨k, hk, rfl, hno⟩ := hrel
  by_cases hlt : k < len
  · have hx : L[k]? = some (L[k]'(by have := HL.out; omega)) := gE' _; obtain ⟨x, hxx⟩ := ex' (L[k]'(by have := HL.out; omega))
    rw [hxx] at hx; have hpx := HP.out x (mG' hx); obtain ⟨b, o, rfl, hb, hc⟩ := HR.out.at (intsV_at .u8 hx); have HX := hd' hx; have HPX := hd' hpx; clear hx hxx hpx
    go_wp2_with fail
    refine (HPX.out).mono ?_; rintro e w2 ⟨rfl, rfl⟩
    by_cases hpp : p x = true
    · have hres := idxP_at p L k x HX.out hpp hno.out; have HRS := hd' hres; rw [hpp]; clear hres hpp
      go_wp2
      go_ret
      exact ⟨by rw [HRS.out]; rfl, rfl⟩
    · rw [Bool.not_eq_true] at hpp; have HPP := hd' hpp; rw [hpp]; clear hpp
      go_wp2
      go_round
      case rel =>
       refine ⟨k + 1, by omega, by go_num, fun j y hj hy => ?_⟩; rcases Nat.lt_or_ge j k with h | h
       · exact hno.out j y h hy
       · obtain rfl : j = k := by omega
         have := HX.out; rw [this] at hy
         cases hy
         exact HPP.out
      case measure => simp [intOf]; omega
  · obtain rfl : k = len := by omega
    have hres := idxP_none p L fun x hx => by
     obtain ⟨j, hj⟩ := List.getElem?_of_mem hx; exact hno.out j x (by have := (List.getElem?_eq_some_iff.1 hj).1; have := HL.out; omega) hj
    have HRS := hd' hres; clear hres hlt
    go_wp2
    go_ret
    exact ⟨by rw [HRS.out]; rfl, rfl⟩
theorem cf_name (L : List Int) (p : Int → Bool) (A : Option Addr) (len cap : Nat) (w : World) (hR : RdG w w.heap.size A (intsV .u8 L)) (hl : len = L.length) (hm : len ≤ 140737488355328)
 (hp : ∀ x ∈ L, Calls Tryz.prog 168 #[.int .u8 x] w fun e w' => e = .returned (.bool (p x)) ∧ w = w') :
 Calls Tryz.prog 167 #[.slice A len cap, .func (.func 168) #[] #[]] w fun e w' => e = .returned (.bool (L.any p)) ∧ w = w' := by
 have ha := idxP_any p L; have hge := idxP_ge p L; have H := hd' (idx_name L p A len cap w hR hl hm hp); clear hR hp hl; rw [← ha]; generalize idxP p L = r at *; clear ha
 go_enter Tryz.func167, Tryz.ntmps167
 go_wp2_with fail
 refine H.out.mono ?_; rintro e w2 ⟨rfl, rfl⟩
 go_wp2
 go_ret
 exact ⟨rfl, rfl⟩
end Go.Proofs.YtcdlgjhdbmmomaaGreatDoor
namespace Go.Proofs.YtcdlgjhdbmmomaaGreatDoor
open Go.RowKit
def strL (s : ByteArray) : List Int := s.data.toList.map fun b => (b.toNat : Int)
theorem strL_len (s : ByteArray) : (strL s).length = s.size := by unfold strL; rw [List.length_map]; rfl
theorem strL_bd (s : ByteArray) : ∀ x ∈ strL s, 0 ≤ x ∧ x < 256 := by
 intro x hx; simp only [strL, List.mem_map] at hx; obtain ⟨b, _, rfl⟩ := hx; have := b.toNat_lt; omega
theorem bytesRow_get (s : ByteArray) (cap j : Nat) (x : Int) (h : (strL s)[j]? = some x) : (bytesRow s cap)[j]? = some (Value.int .u8 x) := by
 simp only [strL, List.getElem?_map, Option.map_eq_some_iff] at h; obtain ⟨b, hb, rfl⟩ := h
 have hj : j < s.data.size := by
  have := (List.getElem?_eq_some_iff.1 hb).1; simpa using this
 unfold bytesRow; rw [Array.getElem?_append_left (by simpa using hj)]; rw [Array.getElem?_map, ← Array.getElem?_toList, hb]
 rfl
def oddCh (c : Int) : Bool := (decide (c < 97) || decide (122 < c)) && (decide (c < 48) || decide (57 < c)) && c != 95 && c != 46
theorem oddCh_any (c : Int) (_h : 0 ≤ c ∧ c < 256) (w : World) : Calls Tryz.prog 168 #[.int .u8 c] w fun e w' => e = .returned (.bool (oddCh c)) ∧ w = w' := by
 obtain ⟨r, hr⟩ := ex' (oddCh c)
 rw [hr]; have HR := hd' hr; clear hr
 by_cases h1 : c < 97
 all_goals
  by_cases h2 : 122 < c
  all_goals
   by_cases h3 : c < 48
   all_goals
    by_cases h4 : 57 < c
    all_goals
     first
      | (exfalso; omega)
      | (by_cases h5 : c = 95
         · subst h5
           go_enter Tryz.func168, Tryz.ntmps168
           go_wp2
           go_ret
           exact ⟨by rw [← HR.out]; rfl, rfl⟩
         · by_cases h6 : c = 46
           · subst h6
             go_enter Tryz.func168, Tryz.ntmps168
             go_wp2
             go_ret
             exact ⟨by rw [← HR.out]; rfl, rfl⟩
           · have h5' : (c != 95) = true := by simpa using h5
             have h6' : (c != 46) = true := by simpa using h6
             have hq : oddCh c = ((decide (c < 97) || decide (122 < c)) && (decide (c < 48) || decide (57 < c))) := by simp [oddCh, h5', h6']
             have HQ := hd' hq; clear hq h5 h6
             go_enter Tryz.func168, Tryz.ntmps168
             go_wp2
             go_ret
             exact ⟨by rw [← HR.out, HQ.out]; simp [*], rfl⟩)
def nameOk (s : ByteArray) : Bool := !s.toList.isEmpty && decide (s.size ≤ 16) && !(strL s).any oddCh
set_option maxRecDepth 100000 in
theorem name_any (s : ByteArray) (hs : s.size ≤ 140737488355328) (w : World) : Calls Tryz.prog 125 #[.string s] w fun e w' => e = .returned (.bool (nameOk s)) ∧ Below w.heap.size w w' := by
 obtain ⟨r, hr⟩ := ex' (nameOk s)
 rw [hr]
 by_cases h1 : s.toList = []
 · have e : r = false := by rw [← hr]; simp [nameOk, h1]
   subst e; have h1' : s.toList.isEmpty = true := by simp [h1]
   clear hr h1
   go_enter Tryz.func125, Tryz.ntmps125
   go_wp2
   go_ret
   exact ⟨rfl, Below.refl _ _⟩
 · have h1' : s.toList.isEmpty = false := by simp [h1]
   by_cases h2 : (16 : Int) < s.size
   · have e : r = false := by rw [← hr]; simp [nameOk]; omega
     subst e; clear hr
     go_enter Tryz.func125, Tryz.ntmps125
     go_wp2
     go_ret
     exact ⟨rfl, Below.refl _ _⟩
   · have e : r = !(strL s).any oddCh := by rw [← hr]; simp [nameOk, h1']; omega
     have E := hd' e; clear hr e; have hcv := run_bytes_of_string (P := Tryz.prog) w 9 24 5 s Tryz.underlying9 Tryz.underlying24 Tryz.underlying5
     go_enter Tryz.func125, Tryz.ntmps125
     go_wp2_with fail
     refine (cf_name (strL s) oddCh _ _ _ _ (fun hn => ⟨w.heap.size, 0, rfl, by simp, fun j v hv => ?hcc⟩) (strL_len s).symm hs (fun x hx => oddCh_any x (strL_bd s x hx) _)).mono ?_
     case hcc =>
      simp only [intsV, List.getElem?_map, Option.map_eq_some_iff] at hv; obtain ⟨x, hx, rfl⟩ := hv
      have hbl : ∀ C, ((w.alloc (.cells (bytesRow s C) 5 ((bytesRow s C).size, (bytesRow s C).size + 1))).drew).heap[w.heap.size]? = some (.cells (bytesRow s C) 5 ((bytesRow s C).size, (bytesRow s C).size + 1)) := fun C => by
       show (w.heap.push _)[w.heap.size]? = _; simp
      rw [Nat.zero_add]; exact (cell_of_row _ _ j _ _ _ (hbl _)).trans (bytesRow_get s _ j x hx)
     rintro e w3 ⟨rfl, rfl⟩; have hfin : ∀ X, Below w.heap.size w ((w.alloc X).drew) := fun X => ((Below.refl _ _).alloc lr' _).drew
     go_wp2
     go_ret
     exact ⟨by rw [E.out]; rfl, hfin _⟩
structure FnD where
 name : ByteArray
 start : Int
 size : Int
def fnV (f : FnD) : List Value := [.string f.name, .int .i64 f.start, .int .i64 f.size]
def funcsV (L : List FnD) : List Value := L.flatMap fnV
theorem flat_at {α : Type} (F : α → List Value) (n : Nat) (hF : ∀ a, (F a).length = n) : ∀ (L : List α) (j : Nat) (a : α), L[j]? = some a → ∀ (q : Nat) (v : Value), q < n → (F a)[q]? = some v → (L.flatMap F)[j * n + q]? = some v
 | [], _, _, h, _, _, _, _ => by simp at h
 | b :: r, 0, _, h, q, v, hq, hv => by
  cases h
  rw [List.flatMap_cons, Nat.zero_mul, Nat.zero_add, List.getElem?_append_left (by rw [hF]; exact hq)]; exact hv
 | b :: r, j + 1, a, h, q, v, hq, hv => by
  have ih := flat_at F n hF r j a (by simpa using h) q v hq hv; rw [List.flatMap_cons, List.getElem?_append_right (by rw [hF, Nat.succ_mul]; omega), hF, show (j + 1) * n + q - n = j * n + q by rw [Nat.succ_mul]; omega]; exact ih
theorem flat_len {α : Type} (F : α → List Value) (n : Nat) (hF : ∀ a, (F a).length = n) (L : List α) : (L.flatMap F).length = L.length * n := by
 induction L with
 | nil => simp
 | cons b r ih => rw [List.flatMap_cons, List.length_append, hF, ih, List.length_cons, Nat.succ_mul]; omega
theorem flat_take {α : Type} (F : α → List Value) (n : Nat) (hF : ∀ a, (F a).length = n) : ∀ (L : List α) (k : Nat), (L.take k).flatMap F = (L.flatMap F).take (k * n)
 | [], k => by simp
 | b :: r, 0 => by simp
 | b :: r, k + 1 => by
  rw [List.take_succ_cons, List.flatMap_cons, List.flatMap_cons, flat_take F n hF r k, Nat.succ_mul, List.take_append, hF, List.take_of_length_le (show (F b).length ≤ k * n + n by rw [hF]; omega), show k * n + n - n = k * n by omega]
theorem funcsV_at {L : List FnD} {j : Nat} {f : FnD} (h : L[j]? = some f) : (funcsV L)[j * 3]? = some (.string f.name) ∧ (funcsV L)[j * 3 + 1]? = some (.int .i64 f.start) ∧ (funcsV L)[j * 3 + 2]? = some (.int .i64 f.size) :=
 ⟨flat_at fnV 3 (fun _ => rfl) L j f h 0 _ (by decide) rfl, flat_at fnV 3 (fun _ => rfl) L j f h 1 _ (by decide) rfl, flat_at fnV 3 (fun _ => rfl) L j f h 2 _ (by decide) rfl⟩
theorem RdG.at3 {w : World} {B : Nat} {A : Option Addr} {L : List FnD} (h : RdG w B A (funcsV L)) {j : Nat} {f : FnD} (hv : L[j]? = some f) :
 ∃ b o, A = some ⟨b, o, none⟩ ∧ b < B ∧ w.cell? ⟨b, o + j * 3, none⟩ = some (.string f.name) ∧ w.cell? ⟨b, o + j * 3 + 1, none⟩ = some (.int .i64 f.start) ∧ w.cell? ⟨b, o + j * 3 + 2, none⟩ = some (.int .i64 f.size) := by
 obtain ⟨h0, h1, h2⟩ := funcsV_at hv; obtain ⟨b, o, e, hb, hc⟩ := h (by intro e; rw [e] at h0; simp at h0); exact ⟨b, o, e, hb, hc _ _ h0, by rw [Nat.add_assoc]; exact hc _ _ h1, by rw [Nat.add_assoc]; exact hc _ _ h2⟩
def sameName (m : ByteArray) (f : FnD) : Bool := f.name.toList == m.toList
theorem same_any (f : FnD) (m : ByteArray) (bf : Nat) (w : World) (hb : bf < w.heap.size) (hc : w.cell? ⟨bf, 0, none⟩ = some (.string m)) :
 Calls Tryz.prog 126 #[.agg #[.string f.name, .int .i64 f.start, .int .i64 f.size], .pointer (some ⟨bf, 0, none⟩)] w fun e w' => e = .returned (.bool (sameName m f)) ∧ Below w.heap.size w w' := by
 go_enter Tryz.func126, Tryz.ntmps126
 go_wp2
 go_ret
 exact ⟨rfl, (Below.refl _ _).alloc lr' _⟩
set_option maxRecDepth 100000 in
theorem idx_same (L : List FnD) (m : ByteArray) (A : Option Addr) (len cap bf : Nat) (w : World) (hR : RdG w w.heap.size A (funcsV L)) (hl : len = L.length) (hm : len ≤ 140737488355328) (hb : bf < w.heap.size) (hc : w.cell? ⟨bf, 0, none⟩ = some (.string m)) :
 Calls Tryz.prog 130 #[.slice A len cap, .func (.func 126) #[] #[.pointer (some ⟨bf, 0, none⟩)]] w fun e w' => e = .returned (.int .i64 (idxP (sameName m) L)) ∧ Below w.heap.size w w' := by
 have HR := hd' hR; have HL := hd' hl; have HC := hd' hc; clear hR hl hc
 go_enter Tryz.func130, Tryz.ntmps130
 go_wp2
 go_loopw [8] (fun i wr => ∃ k : Nat, k ≤ len ∧ i = .int .i64 k ∧ Below w.heap.size w wr ∧ Hid (∀ (j : Nat) (y : FnD), j < k → L[j]? = some y → sameName m y = false)) (fun i _ => len - (intOf i).toNat)
 case atStart => exact ⟨0, Nat.zero_le _, rfl, Below.refl _ _, fun j y h => absurd h (Nat.not_lt_zero _)⟩
 case round =>
  obtain ⟨k, hk, rfl, hbr, hno⟩ := hrel
  by_cases hlt : k < len
  · have hx : L[k]? = some (L[k]'(by have := HL.out; omega)) := gE' _; obtain ⟨x, hxx⟩ := ex' (L[k]'(by have := HL.out; omega))
    rw [hxx] at hx; obtain ⟨b, o, rfl, hb', c0, c1, c2⟩ := HR.out.at3 hx; have d0 := (hbr.cell (p := ⟨b, o + k * 3, none⟩) hb').trans c0; have d1 := (hbr.cell (p := ⟨b, o + k * 3 + 1, none⟩) hb').trans c1; have d2 := (hbr.cell (p := ⟨b, o + k * 3 + 2, none⟩) hb').trans c2; have hcf : wr.cell? ⟨bf, 0, none⟩ = some (.string m) := (hbr.cell (p := ⟨bf, 0, none⟩) hb).trans HC.out; have HX := hd' hx; have HCF := hd' hcf; have hz := hbr.size; have HB := hd' hbr; clear hx hxx c0 c1 c2 hbr hcf
    go_wp2_with fail
    refine (same_any x m bf _ (by omega) HCF.out).mono ?_; rintro e w2 ⟨rfl, hb2⟩; have hbb := HB.out.trans (hb2.mono hz); have HBB := hd' hbb; clear hbb hb2 d0 d1 d2
    by_cases hpp : sameName m x = true
    · have hres := idxP_at (sameName m) L k x HX.out hpp hno.out; have HRS := hd' hres; rw [hpp]; clear hres hpp
      go_wp2
      go_ret
      exact ⟨by rw [HRS.out]; rfl, HBB.out⟩
    · rw [Bool.not_eq_true] at hpp; have HPP := hd' hpp; rw [hpp]; clear hpp
      go_wp2
      go_roundw
      case rel =>
       refine ⟨k + 1, by omega, by go_num, HBB.out, fun j y hj hy => ?_⟩; rcases Nat.lt_or_ge j k with h | h
       · exact hno.out j y h hy
       · obtain rfl : j = k := by omega
         have := HX.out; rw [this] at hy
         cases hy
         exact HPP.out
      case measure => simp [intOf]; omega
  · obtain rfl : k = len := by omega
    have hres := idxP_none (sameName m) L fun x hx => by
     obtain ⟨j, hj⟩ := List.getElem?_of_mem hx; exact hno.out j x (by have := (List.getElem?_eq_some_iff.1 hj).1; have := HL.out; omega) hj
    have HRS := hd' hres; have HBB := hd' hbr; clear hres hlt hbr
    go_wp2
    go_ret
    exact ⟨by rw [HRS.out]; rfl, HBB.out⟩
theorem cf_same (L : List FnD) (m : ByteArray) (A : Option Addr) (len cap bf : Nat) (w : World) (hR : RdG w w.heap.size A (funcsV L)) (hl : len = L.length) (hm : len ≤ 140737488355328) (hb : bf < w.heap.size) (hc : w.cell? ⟨bf, 0, none⟩ = some (.string m)) :
 Calls Tryz.prog 88 #[.slice A len cap, .func (.func 126) #[] #[.pointer (some ⟨bf, 0, none⟩)]] w fun e w' => e = .returned (.bool (L.any (sameName m))) ∧ Below w.heap.size w w' := by
 have ha := idxP_any (sameName m) L; have hge := idxP_ge (sameName m) L; have H := hd' (idx_same L m A len cap bf w hR hl hm hb hc); clear hR hl hc; rw [← ha]; generalize idxP (sameName m) L = r at *; clear ha
 go_enter Tryz.func88, Tryz.ntmps88
 go_wp2_with fail
 refine H.out.mono ?_; rintro e w2 ⟨rfl, hb2⟩
 go_wp2
 go_ret
 exact ⟨rfl, hb2⟩
structure Img where
 text : List Int
 funcs : List FnD
 tables : List (List Int)
 data : List Int
 lines : List (Int × Int)
 entry : Int
structure ImgV where
 tA : Option Addr
 tc : Nat
 fA : Option Addr
 fc : Nat
 bA : Option Addr
 bc : Nat
 dA : Option Addr
 dc : Nat
 lA : Option Addr
 lc : Nat
def Img.val (m : Img) (v : ImgV) : Array Value :=
 #[.slice v.tA m.text.length v.tc, .slice v.fA m.funcs.length v.fc, .slice v.bA m.tables.length v.bc, .slice v.dA m.data.length v.dc, .slice v.lA m.lines.length v.lc, .int .i64 m.entry]
def lineV (l : Int × Int) : List Value := [.int .i64 l.1, .int .i64 l.2]
def linesV (L : List (Int × Int)) : List Value := L.flatMap lineV
def RdT (w : World) (B : Nat) (A : Option Addr) (ts : List (List Int)) : Prop :=
 ∃ vs : List Value, vs.length = ts.length ∧ RdG w B A vs ∧ ∀ (j : Nat) (t : List Int), ts[j]? = some t → ∃ a c, vs[j]? = some (.slice a t.length c) ∧ t.length ≤ c ∧ c ≤ maxLen ∧ t.length ≤ 140737488355328 ∧ RdG w B a (intsV .i64 t)
theorem RdT.keep {w w' : World} {B : Nat} {A : Option Addr} {ts : List (List Int)} (h : RdT w B A ts) (hb : Below B w w') : RdT w' B A ts := by
 obtain ⟨vs, h1, h2, h3⟩ := h; refine ⟨vs, h1, h2.below hb, fun j t hj => ?_⟩; obtain ⟨a, c, h4, h5, h6, h7, h8⟩ := h3 j t hj; exact ⟨a, c, h4, h5, h6, h7, h8.below hb⟩
theorem RdT.more {w : World} {B B' : Nat} {A : Option Addr} {ts : List (List Int)} (h : RdT w B A ts) (hB : B ≤ B') : RdT w B' A ts := by
 obtain ⟨vs, h1, h2, h3⟩ := h; refine ⟨vs, h1, h2.more hB, fun j t hj => ?_⟩; obtain ⟨a, c, h4, h5, h6, h7, h8⟩ := h3 j t hj; exact ⟨a, c, h4, h5, h6, h7, h8.more hB⟩
structure ImgRd (w : World) (B : Nat) (m : Img) (v : ImgV) : Prop where
 text : RdG w B v.tA (intsV .u8 m.text)
 funcs : RdG w B v.fA (funcsV m.funcs)
 tables : RdT w B v.bA m.tables
 data : RdG w B v.dA (intsV .i64 m.data)
 lines : RdG w B v.lA (linesV m.lines)
structure ImgOk (m : Img) (v : ImgV) : Prop where
 tl : m.text.length ≤ 140737488355328
 fl : m.funcs.length ≤ 140737488355328
 bl : m.tables.length ≤ 140737488355328
 dl : m.data.length ≤ 140737488355328
 ll : m.lines.length ≤ 140737488355328
 tc : m.text.length ≤ v.tc
 fc : m.funcs.length ≤ v.fc
 bc : m.tables.length ≤ v.bc
 dc : m.data.length ≤ v.dc
 lc : m.lines.length ≤ v.lc
 tb : ∀ x ∈ m.text, 0 ≤ x ∧ x < 256
 fb : ∀ f ∈ m.funcs, N64 f.start ∧ N64 f.size ∧ f.name.size ≤ 140737488355328
 bb : ∀ t ∈ m.tables, ∀ x ∈ t, N64 x
 db : ∀ x ∈ m.data, N64 x
 lb : ∀ l ∈ m.lines, N64 l.1 ∧ N64 l.2
 eb : N64 m.entry
theorem ImgRd.below {w w' : World} {B : Nat} {m : Img} {v : ImgV} (h : ImgRd w B m v) (hb : Below B w w') : ImgRd w' B m v := ⟨h.text.below hb, h.funcs.below hb, h.tables.keep hb, h.data.below hb, h.lines.below hb⟩
theorem ImgRd.more {w : World} {B B' : Nat} {m : Img} {v : ImgV} (h : ImgRd w B m v) (hB : B ≤ B') : ImgRd w B' m v := ⟨h.text.more hB, h.funcs.more hB, h.tables.more hB, h.data.more hB, h.lines.more hB⟩
def funcsGo (T : Int) : List FnD → Int → List FnD → Int
 | _, at_, [] => if at_ = T then 0 else 8
 | prev, at_, f :: r => if nameOk f.name = false then 4 else if prev.any (sameName f.name) = true then 7 else if f.start ≠ at_ ∨ f.size < 1 ∨ T - at_ < f.size then 8 else funcsGo T (prev ++ [f]) (at_ + f.size) r
def funcsE (m : Img) : Int := if 40 < m.funcs.length then 1 else funcsGo m.text.length [] 0 m.funcs
set_option maxHeartbeats 4000000 in
set_option maxRecDepth 100000 in
theorem funcs_any (m : Img) (v : ImgV) (w : World) (hI : ImgRd w w.heap.size m v) (hO : ImgOk m v) : Calls Tryz.prog 78 #[.agg (m.val v)] w fun e w' => e = .returned (.int .i64 (funcsE m)) ∧ Below w.heap.size w w' := by
 obtain ⟨R, hR⟩ := ex' (funcsE m)
 rw [hR]; unfold Img.val; have htl := hO.tl; have hfl := hO.fl; have hfc := hO.fc; have HI := hd' hI; have HO := hd' hO; unfold funcsE at hR
 by_cases h40 : 40 < m.funcs.length
 · rw [if_pos h40] at hR; subst hR; have h40' : (40 : Int) < m.funcs.length := by omega
   clear hI hO
   go_enter Tryz.func78, Tryz.ntmps78
   go_wp2
   go_ret
   exact ⟨rfl, (Below.refl _ _).alloc lr' _⟩
 · rw [if_neg h40] at hR; have HR := hd' hR; have h40' : ¬ (40 : Int) < m.funcs.length := by omega
   clear hI hO hR; obtain ⟨T, hT⟩ := ex' m.text.length
   obtain ⟨N, hN⟩ := ex' m.funcs.length
   rw [hT] at HR htl ⊢; rw [hN] at hfl hfc h40 h40' ⊢; have HN := hd' hN; clear hT hN; obtain ⟨tA, tc, fA, fc, bA, bc, dA, dc, lA, lc⟩ := v; simp only at *
   go_enter Tryz.func78, Tryz.ntmps78
   go_wp2
   obtain ⟨W0, hW0⟩ := ex' (w.alloc (.cells #[.slice tA T tc, .slice fA N fc, .slice bA m.tables.length bc, .slice dA m.data.length dc, .slice lA m.lines.length lc, .int .i64 m.entry] 30))
   rw [hW0]; have hx0 : W0.heap[w.heap.size]? = some (.cells #[.slice tA T tc, .slice fA N fc, .slice bA m.tables.length bc, .slice dA m.data.length dc, .slice lA m.lines.length lc, .int .i64 m.entry] 30 (0, 0)) := by rw [← hW0]; exact heap_alloc_new w _
   have hB0 : Below w.heap.size w W0 := by rw [← hW0]; exact (Below.refl _ _).alloc lr' _
   have hz0 : w.heap.size + 1 = W0.heap.size := by rw [← hW0]; simp
   have HX0 := hd' hx0; have HB0 := hd' hB0; have HZ0 := hd' hz0; clear hW0 hx0 hB0 hz0
   go_loopw [3, 13] (fun v3 v13 wr => ∃ (k : Nat) (a : Int), k ≤ N ∧ v13 = .int .i64 k ∧ v3 = .int .i64 a ∧ 0 ≤ a ∧ a ≤ T ∧ Below W0.heap.size W0 wr ∧ Hid (funcsGo T (m.funcs.take k) a (m.funcs.drop k) = R)) (fun _ v13 _ => N - (intOf v13).toNat)
   case atStart => exact ⟨0, 0, Nat.zero_le _, rfl, rfl, by omega, by omega, Below.refl _ _, HR.out⟩
   case round =>
    obtain ⟨k, a, hk, rfl, rfl, ha0, ha1, hbr, hR⟩ := hrel; have hbx : wr.heap[w.heap.size]? = some (.cells #[.slice tA T tc, .slice fA N fc, .slice bA m.tables.length bc, .slice dA m.data.length dc, .slice lA m.lines.length lc, .int .i64 m.entry] 30 (0, 0)) := (hbr.block _ (by have := HZ0.out; omega)).trans HX0.out; have x0 : wr.cell? ⟨w.heap.size, 0, none⟩ = some (.slice tA T tc) := cell_of_row _ _ 0 _ _ _ hbx; have x1 : wr.cell? ⟨w.heap.size, 1, none⟩ = some (.slice fA N fc) := cell_of_row _ _ 1 _ _ _ hbx
    have hsz : w.heap.size < wr.heap.size := by have := hbr.size; have := HZ0.out; omega
    have hBw : Below w.heap.size w wr := HB0.out.trans (hbr.mono (by have := HZ0.out; omega)); have hFr := HI.out.funcs.below hBw; have HBw := hd' hBw; have HBr := hd' hbr; have HR' := hd' hR; clear hbx hbr hBw hR
    by_cases hlt : k < N
    · have hx : m.funcs[k]? = some (m.funcs[k]'(by have := HN.out; omega)) := gE' _; have hdr : m.funcs.drop k = m.funcs[k]'(by have := HN.out; omega) :: m.funcs.drop (k + 1) := List.drop_eq_getElem_cons _; have htk : m.funcs.take (k + 1) = m.funcs.take k ++ [m.funcs[k]'(by have := HN.out; omega)] := by rw [List.take_add_one, hx]; rfl
      obtain ⟨f, hf⟩ := ex' (m.funcs[k]'(by have := HN.out; omega))
      rw [hf] at hx hdr htk; obtain ⟨nb1, nb2, nb3⟩ := HO.out.fb f (mG' hx); obtain ⟨s1, s2⟩ := nb1; obtain ⟨z1, z2⟩ := nb2; obtain ⟨b, o, hA, hb', c0, c1, c2⟩ := hFr.at3 hx; simp only at hA; subst hA; have hR1 := HR'.out; rw [hdr] at hR1; unfold funcsGo at hR1; have HR1 := hd' hR1; have HTK := hd' htk; have HX := hd' hx; have hpl : (m.funcs.take k).length = k := by rw [List.length_take]; have := HN.out; omega
      have HPL := hd' hpl; have HFR := hd' (hFr.take (k * 3)); have hRD : RdG wr w.heap.size (some ⟨b, o, none⟩) (funcsV (m.funcs.take k)) := by unfold funcsV; rw [flat_take fnV 3 (fun _ => rfl)]; exact HFR.out
      have HRD := hd' hRD; have hzz : wr.heap.size ≤ wr.heap.size := Nat.le_refl _; clear hdr htk hf hx hR1 HR' hFr hpl HFR hRD
      go_wp2_with fail
      refine (name_any f.name nb3 _).mono ?_; rintro e w2 ⟨rfl, hb2⟩; have hbw2 : Below wr.heap.size wr w2 := ((Below.refl _ _).alloc lr' _).trans (hb2.mono (by simp)); have hy : w2.heap[wr.heap.size]? = some (.cells #[.string f.name, .int .i64 f.start, .int .i64 f.size] 114 (0, 0)) := (hb2.block _ (by simp)).trans (heap_alloc_new wr _); have y0 : w2.cell? ⟨wr.heap.size, 0, none⟩ = some (.string f.name) := cell_of_row _ _ 0 _ _ _ hy; have y1 : w2.cell? ⟨wr.heap.size, 1, none⟩ = some (.int .i64 f.start) := cell_of_row _ _ 1 _ _ _ hy
      have y2 : w2.cell? ⟨wr.heap.size, 2, none⟩ = some (.int .i64 f.size) := cell_of_row _ _ 2 _ _ _ hy; have u0 : w2.cell? ⟨w.heap.size, 0, none⟩ = some (.slice tA T tc) := (hbw2.cell (p := ⟨w.heap.size, 0, none⟩) hsz).trans x0; have u1 : w2.cell? ⟨w.heap.size, 1, none⟩ = some (.slice (some ⟨b, o, none⟩) N fc) := (hbw2.cell (p := ⟨w.heap.size, 1, none⟩) hsz).trans x1; have hs2 : wr.heap.size < w2.heap.size := by have := hb2.size; simp at this; omega
      have hlt2 : w.heap.size < w2.heap.size := by omega
      have HB2 := hd' (HBr.out.trans (hbw2.mono HBr.out.size)); have HRD2 := hd' ((HRD.out.below (hbw2.mono (by omega))).more (B' := w2.heap.size) (by omega)); have HBW2 := hd' (HBw.out.trans (hbw2.mono HBw.out.size)); clear hb2 hbw2 hy x0 x1 c0 c1 c2 HRD
      by_cases hn : nameOk f.name = false
      · have hR := HR1.out; rw [if_pos hn] at hR; have HRR := hd' hR; have hn' := hn; clear hR hn; rw [hn']; clear hn'
        go_wp2
        go_ret
        exact ⟨by rw [← HRR.out]; rfl, HBW2.out⟩
      · have hR := HR1.out; rw [if_neg hn] at hR; rw [Bool.not_eq_false] at hn; have HRR := hd' hR; rw [hn]; clear hR hn HR1; have hkN : ¬ (fc : Int) < k := by omega
        go_wp2_with fail
        refine (cf_same (m.funcs.take k) f.name _ k _ wr.heap.size w2 HRD2.out HPL.out.symm (by omega) hs2 y0).mono ?_; rintro e w3 ⟨rfl, hb3⟩; have v0 : w3.cell? ⟨w.heap.size, 0, none⟩ = some (.slice tA T tc) := (hb3.cell (p := ⟨w.heap.size, 0, none⟩) hlt2).trans u0; have v1 : w3.cell? ⟨w.heap.size, 1, none⟩ = some (.slice (some ⟨b, o, none⟩) N fc) := (hb3.cell (p := ⟨w.heap.size, 1, none⟩) hlt2).trans u1; have t1 : w3.cell? ⟨wr.heap.size, 1, none⟩ = some (.int .i64 f.start) := (hb3.cell (p := ⟨wr.heap.size, 1, none⟩) hs2).trans y1
        have t2 : w3.cell? ⟨wr.heap.size, 2, none⟩ = some (.int .i64 f.size) := (hb3.cell (p := ⟨wr.heap.size, 2, none⟩) hs2).trans y2; have HB3 := hd' (HB2.out.trans (hb3.mono HB2.out.size)); have HBW3 := hd' (HBW2.out.trans (hb3.mono HBW2.out.size)); have hs3 : wr.heap.size < w3.heap.size := by have := hb3.size; omega
        clear hb3 y0 y1 y2 u0 u1 HRD2 HB2 HBW2
        by_cases hp : (m.funcs.take k).any (sameName f.name) = true
        · have hR := HRR.out; rw [if_pos hp] at hR; have HRR' := hd' hR; rw [hp]; clear hR hp
          go_wp2
          go_ret
          exact ⟨by rw [← HRR'.out]; rfl, HBW3.out⟩
        · have hR := HRR.out; rw [if_neg hp] at hR; rw [Bool.not_eq_true] at hp; have HRR' := hd' hR; rw [hp]; clear hR hp HRR
          by_cases hq : f.start ≠ a ∨ f.size < 1 ∨ (T : Int) - a < f.size
          · have hR := HRR'.out; rw [if_pos hq] at hR; have HR2 := hd' hR; clear hR
            by_cases q1 : f.start = a
            · by_cases q2 : f.size < 1
              · have q1' : (f.start == a) = true := by simp [q1]
                clear hq
                go_wp2
                go_ret
                exact ⟨by rw [← HR2.out]; rfl, HBW3.out⟩
              · have q3 : (T : Int) - a < f.size := by omega
                clear hq
                go_wp2
                go_ret
                exact ⟨by rw [← HR2.out]; rfl, HBW3.out⟩
            · have q1' : (f.start != a) = true := by simpa using q1
              clear hq
              go_wp2
              go_ret
              exact ⟨by rw [← HR2.out]; rfl, HBW3.out⟩
          · have hR := HRR'.out; rw [if_neg hq, ← HTK.out] at hR; have q1 : f.start = a := by omega
            have q2 : 1 ≤ f.size := by omega
            have q3 : f.size ≤ (T : Int) - a := by omega
            have q1' : (f.start != a) = false := by simp [q1]
            have HRN := hd' hR; clear hR hq q1 HRR'
            go_wp2
            go_roundw
            case rel => exact ⟨k + 1, a + f.size, by omega, by go_num, rfl, by omega, by omega, HB3.out, HRN.out⟩
            case measure => simp [intOf]; omega
    · obtain rfl : k = N := by omega
      have hR := HR'.out; rw [List.drop_of_length_le (by have := HN.out; omega)] at hR; unfold funcsGo at hR; have HBW := HBw.out
      by_cases hq : a = T
      · rw [if_pos hq] at hR; have hq' : (a != (T : Int)) = false := by simp [hq]
        have HR2 := hd' hR; have HB := hd' HBW; clear hR hq hlt HBW
        go_wp2
        go_ret
        exact ⟨by rw [← HR2.out]; rfl, HB.out⟩
      · rw [if_neg hq] at hR; have hq' : (a != (T : Int)) = true := by simpa using hq
        have HR2 := hd' hR; have HB := hd' HBW; clear hR hq hlt HBW
        go_wp2
        go_ret
        exact ⟨by rw [← HR2.out]; rfl, HB.out⟩
end Go.Proofs.YtcdlgjhdbmmomaaGreatDoor
