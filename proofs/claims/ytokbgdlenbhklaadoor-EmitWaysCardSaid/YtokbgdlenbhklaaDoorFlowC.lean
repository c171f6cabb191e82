/- slices.IndexFunc and ContainsFunc with the closures of mark and plain. -/
import Derived.Test.YtokbgdlenbhklaaDoorFlowP
import Derived.Test.YtokbgdlenbhklaaDoorFlowA
import Derived.WalkLawsBesides
import Derived.Test.YtokbgdlenbhklaaDoorCfA
import Derived.Test.YtokbgdlenbhklaaDoorImgC
namespace Go.Proofs.YtokbgdlenbhklaaDoor
open Go.RowKit
set_option maxRecDepth 100000 in
theorem fin_inside (X o n : Nat) (own : Int → Option Int) (f p : Int) (w : World) (hc : w.cell? ⟨X, 7, none⟩ = some (.map (some o))) (hm : MapI w o n own) (hp : N64 p) :
 Calls Tryd.prog 85 #[.pointer (some ⟨X, 0, none⟩), .int .i64 f, .int .i64 p] w fun e w' => e = .returned (.bool (own p == some f)) ∧ w = w' := by
 have hl := hm.look_ok hp; clear hm
 go_enter Tryd.func85, Tryd.ntmps85
 rcases h : own p with _ | g
 · rw [h] at hl; simp only [Option.getD_none, Option.isSome_none] at hl
   go_wp2
   go_ret
   exact ⟨by simp, rfl⟩
 · rw [h] at hl; simp only [Option.getD_some, Option.isSome_some] at hl
   by_cases e : g = f
   · subst e
     go_wp2
     go_ret
     exact ⟨by simp, rfl⟩
   · have e2 : (g == f) = false := by simpa using e
     go_wp2
     go_ret
     exact ⟨by simp [e], rfl⟩
set_option maxRecDepth 100000 in
theorem fin_mark1 (X o n gx gf : Nat) (own : Int → Option Int) (f p : Int) (w : World) (hc : w.cell? ⟨X, 7, none⟩ = some (.map (some o))) (hm : MapI w o n own) (hp : N64 p) (hx : w.cell? ⟨gx, 0, none⟩ = some (.pointer (some ⟨X, 0, none⟩))) (hf : w.cell? ⟨gf, 0, none⟩ = some (.int .i64 f)) :
 Calls Tryd.prog 86 #[.int .i64 p, .pointer (some ⟨gx, 0, none⟩), .pointer (some ⟨gf, 0, none⟩)] w fun e w' => e = .returned (.bool (!(own p == some f))) ∧ w = w' := by
 have HI := Lib.hid (fin_inside X o n own f p w hc hm hp); clear hm hp hc
 go_enter Tryd.func86, Tryd.ntmps86
 go_wp2_with fail
 refine HI.out.mono ?_; rintro e w1 ⟨rfl, rfl⟩
 go_wp2
 go_ret
 exact ⟨rfl, rfl⟩
set_option maxRecDepth 100000 in
theorem fin_mark2 (gt : Nat) (nm : ByteArray) (st sz t : Int) (w : World) (ht : w.cell? ⟨gt, 0, none⟩ = some (.int .i64 t)) (hl : gt < w.heap.size) :
 Calls Tryd.prog 88 #[.agg #[.string nm, .int .i64 st, .int .i64 sz], .pointer (some ⟨gt, 0, none⟩)] w fun e w' => e = .returned (.bool (st == t)) ∧ Below w.heap.size w w' := by
 go_enter Tryd.func88, Tryd.ntmps88
 go_wp2
 go_ret
 exact ⟨rfl, (Below.refl _ _).alloc (Nat.le_refl _) _⟩
set_option maxRecDepth 100000 in
theorem fin_plain1 (gs : Nat) (nm : ByteArray) (st sz p m : Int) (w : World) (h0 : w.cell? ⟨gs, 0, none⟩ = some (.int .i64 p)) (h1 : w.cell? ⟨gs, 6, none⟩ = some (.int .i64 m)) (hl : gs < w.heap.size) (hb : IntKind.i64.wrap (p + m) = p + m) :
 Calls Tryd.prog 115 #[.agg #[.string nm, .int .i64 st, .int .i64 sz], .pointer (some ⟨gs, 0, none⟩)] w fun e w' => e = .returned (.bool (st == p + m)) ∧ Below w.heap.size w w' := by
 go_enter Tryd.func115, Tryd.ntmps115
 go_wp2
 go_ret
 exact ⟨rfl, (Below.refl _ _).alloc (Nat.le_refl _) _⟩
end Go.Proofs.YtokbgdlenbhklaaDoor
namespace Go.Proofs.YtokbgdlenbhklaaDoor
open Go.RowKit
set_option maxRecDepth 100000 in
theorem idx_mk1 (L : List Int) (p : Int → Bool) (A : Option Addr) (len cap : Nat) (gx gf : Nat) (w : World) (hR : RdG w w.heap.size A (intsV .i64 L)) (hl : len = L.length) (hm : len ≤ 140737488355328)
 (hp : ∀ x ∈ L, Calls Tryd.prog 86 #[.int .i64 x, .pointer (some ⟨gx, 0, none⟩), .pointer (some ⟨gf, 0, none⟩)] w fun e w' => e = .returned (.bool (p x)) ∧ w = w') :
 Calls Tryd.prog 113 #[.slice A len cap, .func (.func 86) #[] #[.pointer (some ⟨gx, 0, none⟩), .pointer (some ⟨gf, 0, none⟩)]] w fun e w' => e = .returned (.int .i64 (idxP p L)) ∧ w = w' := by
 have HR := Lib.hid hR; have HP := Lib.hid hp; have HL := Lib.hid hl; clear hR hp hl
 go_enter Tryd.func113, Tryd.ntmps113
 go_wp2
 go_loop [8] (fun i => ∃ k : Nat, k ≤ len ∧ i = .int .i64 k ∧ Hid (∀ (j : Nat) (y : Int), j < k → L[j]? = some y → p y = false)) (fun i => len - (intOf i).toNat)
 case atStart => exact ⟨0, Nat.zero_le _, rfl, fun j y h => absurd h (Nat.not_lt_zero _)⟩
 case round =>
  obtain ⟨k, hk, rfl, hno⟩ := hrel
  by_cases hlt : k < len
  · have hx : L[k]? = some (L[k]'(by have := HL.out; omega)) := List.getElem?_eq_getElem _; obtain ⟨x, hxx⟩ : ∃ x, L[k]'(by have := HL.out; omega) = x := ⟨_, rfl⟩
    rw [hxx] at hx; have hpx := HP.out x (List.mem_of_getElem? hx); obtain ⟨b, o, rfl, hb, hc⟩ := HR.out.at (intsV_at .i64 hx); have HX := Lib.hid hx; have HPX := Lib.hid hpx; clear hx hxx hpx
    go_wp2_with fail
    refine (HPX.out).mono ?_; rintro e w2 ⟨rfl, rfl⟩
    by_cases hpp : p x = true
    · have hres := idxP_at p L k x HX.out hpp hno.out; have HRS := Lib.hid hres; rw [hpp]; clear hres hpp
      go_wp2
      go_ret
      exact ⟨by rw [HRS.out]; rfl, rfl⟩
    · rw [Bool.not_eq_true] at hpp; have HPP := Lib.hid hpp; rw [hpp]; clear hpp
      go_wp2
      go_round
      case rel =>
       refine ⟨k + 1, by omega, by go_num, fun j y hj hy => ?_⟩; rcases Nat.lt_or_ge j k with h | h
       · exact hno.out j y h hy
       · obtain rfl : j = k := by omega
         have := HX.out; rw [this] at hy
         cases hy
         exact HPP.out
      case measure => simp [intOf]; omega
  · obtain rfl : k = len := by omega
    have hres := idxP_none p L fun x hx => by
     obtain ⟨j, hj⟩ := List.getElem?_of_mem hx; exact hno.out j x (by have := (List.getElem?_eq_some_iff.1 hj).1; have := HL.out; omega) hj
    have HRS := Lib.hid hres; clear hres hlt
    go_wp2
    go_ret
    exact ⟨by rw [HRS.out]; rfl, rfl⟩
theorem cf_mk1 (L : List Int) (p : Int → Bool) (A : Option Addr) (len cap : Nat) (gx gf : Nat) (w : World) (hR : RdG w w.heap.size A (intsV .i64 L)) (hl : len = L.length) (hm : len ≤ 140737488355328)
 (hp : ∀ x ∈ L, Calls Tryd.prog 86 #[.int .i64 x, .pointer (some ⟨gx, 0, none⟩), .pointer (some ⟨gf, 0, none⟩)] w fun e w' => e = .returned (.bool (p x)) ∧ w = w') :
 Calls Tryd.prog 79 #[.slice A len cap, .func (.func 86) #[] #[.pointer (some ⟨gx, 0, none⟩), .pointer (some ⟨gf, 0, none⟩)]] w fun e w' => e = .returned (.bool (L.any p)) ∧ w = w' := by
 have ha := idxP_any p L; have hge := idxP_ge p L; have H := Lib.hid (idx_mk1 L p A len cap gx gf w hR hl hm hp); clear hR hp hl; rw [← ha]; generalize idxP p L = r at *; clear ha
 go_enter Tryd.func79, Tryd.ntmps79
 go_wp2_with fail
 refine H.out.mono ?_; rintro e w2 ⟨rfl, rfl⟩
 go_wp2
 go_ret
 exact ⟨rfl, rfl⟩
set_option maxRecDepth 100000 in
theorem idx_mk2 (L : List FnD) (p : FnD → Bool) (A : Option Addr) (len cap bf : Nat) (w : World) (hR : RdG w w.heap.size A (funcsV L)) (hl : len = L.length) (hm : len ≤ 140737488355328) (hc : ∀ W, Below w.heap.size w W → ∀ f : FnD, f ∈ L → Calls Tryd.prog 88 #[.agg #[.string f.name, .int .i64 f.start, .int .i64 f.size], .pointer (some ⟨bf, 0, none⟩)] W fun e w' => e = .returned (.bool (p f)) ∧ Below W.heap.size W w') :
 Calls Tryd.prog 114 #[.slice A len cap, .func (.func 88) #[] #[.pointer (some ⟨bf, 0, none⟩)]] w fun e w' => e = .returned (.int .i64 (idxP p L)) ∧ Below w.heap.size w w' := by
 have HR := Lib.hid hR; have HL := Lib.hid hl; have HC := Lib.hid hc; clear hR hl hc
 go_enter Tryd.func114, Tryd.ntmps114
 go_wp2
 go_loopw [8] (fun i wr => ∃ k : Nat, k ≤ len ∧ i = .int .i64 k ∧ Below w.heap.size w wr ∧ Hid (∀ (j : Nat) (y : FnD), j < k → L[j]? = some y → p y = false)) (fun i _ => len - (intOf i).toNat)
 case atStart => exact ⟨0, Nat.zero_le _, rfl, Below.refl _ _, fun j y h => absurd h (Nat.not_lt_zero _)⟩
 case round =>
  obtain ⟨k, hk, rfl, hbr, hno⟩ := hrel
  by_cases hlt : k < len
  · have hx : L[k]? = some (L[k]'(by have := HL.out; omega)) := List.getElem?_eq_getElem _; obtain ⟨x, hxx⟩ : ∃ x, L[k]'(by have := HL.out; omega) = x := ⟨_, rfl⟩
    rw [hxx] at hx; obtain ⟨b, o, rfl, hb', c0, c1, c2⟩ := HR.out.at3 hx; have d0 := (hbr.cell (p := ⟨b, o + k * 3, none⟩) hb').trans c0; have d1 := (hbr.cell (p := ⟨b, o + k * 3 + 1, none⟩) hb').trans c1; have d2 := (hbr.cell (p := ⟨b, o + k * 3 + 2, none⟩) hb').trans c2; have hcf := HC.out wr hbr x (List.mem_of_getElem? hx); have HX := Lib.hid hx; have HCF := Lib.hid hcf; have hz := hbr.size; have HB := Lib.hid hbr; clear hx hxx c0 c1 c2 hbr hcf
    go_wp2_with fail
    refine HCF.out.mono ?_; rintro e w2 ⟨rfl, hb2⟩; have hbb := HB.out.trans (hb2.mono hz); have HBB := Lib.hid hbb; clear hbb hb2 d0 d1 d2
    by_cases hpp : p x = true
    · have hres := idxP_at p L k x HX.out hpp hno.out; have HRS := Lib.hid hres; rw [hpp]; clear hres hpp
      go_wp2
      go_ret
      exact ⟨by rw [HRS.out]; rfl, HBB.out⟩
    · rw [Bool.not_eq_true] at hpp; have HPP := Lib.hid hpp; rw [hpp]; clear hpp
      go_wp2
      go_roundw
      case rel =>
       refine ⟨k + 1, by omega, by go_num, HBB.out, fun j y hj hy => ?_⟩; rcases Nat.lt_or_ge j k with h | h
       · exact hno.out j y h hy
       · obtain rfl : j = k := by omega
         have := HX.out; rw [this] at hy
         cases hy
         exact HPP.out
      case measure => simp [intOf]; omega
  · obtain rfl : k = len := by omega
    have hres := idxP_none p L fun x hx => by
     obtain ⟨j, hj⟩ := List.getElem?_of_mem hx; exact hno.out j x (by have := (List.getElem?_eq_some_iff.1 hj).1; have := HL.out; omega) hj
    have HRS := Lib.hid hres; have HBB := Lib.hid hbr; clear hres hlt hbr
    go_wp2
    go_ret
    exact ⟨by rw [HRS.out]; rfl, HBB.out⟩
theorem cf_mk2 (L : List FnD) (p : FnD → Bool) (A : Option Addr) (len cap bf : Nat) (w : World) (hR : RdG w w.heap.size A (funcsV L)) (hl : len = L.length) (hm : len ≤ 140737488355328) (hc : ∀ W, Below w.heap.size w W → ∀ f : FnD, f ∈ L → Calls Tryd.prog 88 #[.agg #[.string f.name, .int .i64 f.start, .int .i64 f.size], .pointer (some ⟨bf, 0, none⟩)] W fun e w' => e = .returned (.bool (p f)) ∧ Below W.heap.size W w') :
 Calls Tryd.prog 87 #[.slice A len cap, .func (.func 88) #[] #[.pointer (some ⟨bf, 0, none⟩)]] w fun e w' => e = .returned (.bool (L.any p)) ∧ Below w.heap.size w w' := by
 have ha := idxP_any p L; have hge := idxP_ge p L; have H := Lib.hid (idx_mk2 L p A len cap bf w hR hl hm hc); clear hR hl hc; rw [← ha]; generalize idxP p L = r at *; clear ha
 go_enter Tryd.func87, Tryd.ntmps87
 go_wp2_with fail
 refine H.out.mono ?_; rintro e w2 ⟨rfl, hb2⟩
 go_wp2
 go_ret
 exact ⟨rfl, hb2⟩
set_option maxRecDepth 100000 in
theorem idx_pl1 (L : List FnD) (p : FnD → Bool) (A : Option Addr) (len cap bf : Nat) (w : World) (hR : RdG w w.heap.size A (funcsV L)) (hl : len = L.length) (hm : len ≤ 140737488355328) (hc : ∀ W, Below w.heap.size w W → ∀ f : FnD, f ∈ L → Calls Tryd.prog 115 #[.agg #[.string f.name, .int .i64 f.start, .int .i64 f.size], .pointer (some ⟨bf, 0, none⟩)] W fun e w' => e = .returned (.bool (p f)) ∧ Below W.heap.size W w') :
 Calls Tryd.prog 114 #[.slice A len cap, .func (.func 115) #[] #[.pointer (some ⟨bf, 0, none⟩)]] w fun e w' => e = .returned (.int .i64 (idxP p L)) ∧ Below w.heap.size w w' := by
 have HR := Lib.hid hR; have HL := Lib.hid hl; have HC := Lib.hid hc; clear hR hl hc
 go_enter Tryd.func114, Tryd.ntmps114
 go_wp2
 go_loopw [8] (fun i wr => ∃ k : Nat, k ≤ len ∧ i = .int .i64 k ∧ Below w.heap.size w wr ∧ Hid (∀ (j : Nat) (y : FnD), j < k → L[j]? = some y → p y = false)) (fun i _ => len - (intOf i).toNat)
 case atStart => exact ⟨0, Nat.zero_le _, rfl, Below.refl _ _, fun j y h => absurd h (Nat.not_lt_zero _)⟩
 case round =>
  obtain ⟨k, hk, rfl, hbr, hno⟩ := hrel
  by_cases hlt : k < len
  · have hx : L[k]? = some (L[k]'(by have := HL.out; omega)) := List.getElem?_eq_getElem _; obtain ⟨x, hxx⟩ : ∃ x, L[k]'(by have := HL.out; omega) = x := ⟨_, rfl⟩
    rw [hxx] at hx; obtain ⟨b, o, rfl, hb', c0, c1, c2⟩ := HR.out.at3 hx; have d0 := (hbr.cell (p := ⟨b, o + k * 3, none⟩) hb').trans c0; have d1 := (hbr.cell (p := ⟨b, o + k * 3 + 1, none⟩) hb').trans c1; have d2 := (hbr.cell (p := ⟨b, o + k * 3 + 2, none⟩) hb').trans c2; have hcf := HC.out wr hbr x (List.mem_of_getElem? hx); have HX := Lib.hid hx; have HCF := Lib.hid hcf; have hz := hbr.size; have HB := Lib.hid hbr; clear hx hxx c0 c1 c2 hbr hcf
    go_wp2_with fail
    refine HCF.out.mono ?_; rintro e w2 ⟨rfl, hb2⟩; have hbb := HB.out.trans (hb2.mono hz); have HBB := Lib.hid hbb; clear hbb hb2 d0 d1 d2
    by_cases hpp : p x = true
    · have hres := idxP_at p L k x HX.out hpp hno.out; have HRS := Lib.hid hres; rw [hpp]; clear hres hpp
      go_wp2
      go_ret
      exact ⟨by rw [HRS.out]; rfl, HBB.out⟩
    · rw [Bool.not_eq_true] at hpp; have HPP := Lib.hid hpp; rw [hpp]; clear hpp
      go_wp2
      go_roundw
      case rel =>
       refine ⟨k + 1, by omega, by go_num, HBB.out, fun j y hj hy => ?_⟩; rcases Nat.lt_or_ge j k with h | h
       · exact hno.out j y h hy
       · obtain rfl : j = k := by omega
         have := HX.out; rw [this] at hy
         cases hy
         exact HPP.out
      case measure => simp [intOf]; omega
  · obtain rfl : k = len := by omega
    have hres := idxP_none p L fun x hx => by
     obtain ⟨j, hj⟩ := List.getElem?_of_mem hx; exact hno.out j x (by have := (List.getElem?_eq_some_iff.1 hj).1; have := HL.out; omega) hj
    have HRS := Lib.hid hres; have HBB := Lib.hid hbr; clear hres hlt hbr
    go_wp2
    go_ret
    exact ⟨by rw [HRS.out]; rfl, HBB.out⟩
end Go.Proofs.YtokbgdlenbhklaaDoor
