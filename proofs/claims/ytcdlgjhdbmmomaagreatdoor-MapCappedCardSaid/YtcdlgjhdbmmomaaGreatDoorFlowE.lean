/- The finder of blocks: what mark does, in plain words; what is read of the finder. -/
import Derived.Test.YtcdlgjhdbmmomaaGreatDoorFlowA
import Derived.WalkLawsBesides
import Derived.Test.YtcdlgjhdbmmomaaGreatDoorImgC
import Derived.Test.YtcdlgjhdbmmomaaGreatDoorImgE
namespace Go.Proofs.YtcdlgjhdbmmomaaGreatDoor
open Go.RowKit
set_option maxRecDepth 100000 in
theorem fin_inside (X o n : Nat) (own : Int → Option Int) (f p : Int) (w : World) (hc : w.cell? ⟨X, 7, none⟩ = some (.map (some o))) (hm : MapI w o n own) (hp : N64 p) :
 Calls Tryz.prog 86 #[.pointer (some ⟨X, 0, none⟩), .int .i64 f, .int .i64 p] w fun e w' => e = .returned (.bool (own p == some f)) ∧ w = w' := by
 have hl := hm.look_ok hp; clear hm
 go_enter Tryz.func86, Tryz.ntmps86
 rcases h : own p with _ | g
 · rw [h] at hl; simp only [Option.getD_none, Option.isSome_none] at hl
   go_wp2
   go_ret
   exact ⟨by simp, rfl⟩
 · rw [h] at hl; simp only [Option.getD_some, Option.isSome_some] at hl
   by_cases e : g = f
   · subst e
     go_wp2
     go_ret
     exact ⟨by simp, rfl⟩
   · have e2 : (g == f) = false := by simpa using e
     go_wp2
     go_ret
     exact ⟨by simp [e], rfl⟩
set_option maxRecDepth 100000 in
theorem fin_mark1 (X o n gx gf : Nat) (own : Int → Option Int) (f p : Int) (w : World) (hc : w.cell? ⟨X, 7, none⟩ = some (.map (some o))) (hm : MapI w o n own) (hp : N64 p) (hx : w.cell? ⟨gx, 0, none⟩ = some (.pointer (some ⟨X, 0, none⟩))) (hf : w.cell? ⟨gf, 0, none⟩ = some (.int .i64 f)) :
 Calls Tryz.prog 87 #[.int .i64 p, .pointer (some ⟨gx, 0, none⟩), .pointer (some ⟨gf, 0, none⟩)] w fun e w' => e = .returned (.bool (!(own p == some f))) ∧ w = w' := by
 have HI := hd' (fin_inside X o n own f p w hc hm hp); clear hm hp hc
 go_enter Tryz.func87, Tryz.ntmps87
 go_wp2_with fail
 refine HI.out.mono ?_; rintro e w1 ⟨rfl, rfl⟩
 go_wp2
 go_ret
 exact ⟨rfl, rfl⟩
set_option maxRecDepth 100000 in
theorem fin_mark2 (gt : Nat) (nm : ByteArray) (st sz t : Int) (w : World) (ht : w.cell? ⟨gt, 0, none⟩ = some (.int .i64 t)) (hl : gt < w.heap.size) :
 Calls Tryz.prog 89 #[.agg #[.string nm, .int .i64 st, .int .i64 sz], .pointer (some ⟨gt, 0, none⟩)] w fun e w' => e = .returned (.bool (st == t)) ∧ Below w.heap.size w w' := by
 go_enter Tryz.func89, Tryz.ntmps89
 go_wp2
 go_ret
 exact ⟨rfl, (Below.refl _ _).alloc lr' _⟩
set_option maxRecDepth 100000 in
theorem fin_plain1 (gs : Nat) (nm : ByteArray) (st sz p m : Int) (w : World) (h0 : w.cell? ⟨gs, 0, none⟩ = some (.int .i64 p)) (h1 : w.cell? ⟨gs, 6, none⟩ = some (.int .i64 m)) (hl : gs < w.heap.size) (hb : IntKind.i64.wrap (p + m) = p + m) :
 Calls Tryz.prog 131 #[.agg #[.string nm, .int .i64 st, .int .i64 sz], .pointer (some ⟨gs, 0, none⟩)] w fun e w' => e = .returned (.bool (st == p + m)) ∧ Below w.heap.size w w' := by
 go_enter Tryz.func131, Tryz.ntmps131
 go_wp2
 go_ret
 exact ⟨rfl, (Below.refl _ _).alloc lr' _⟩
end Go.Proofs.YtcdlgjhdbmmomaaGreatDoor
namespace Go.Proofs.YtcdlgjhdbmmomaaGreatDoor
open Go.RowKit
set_option maxRecDepth 100000 in
theorem idx_mk1 (L : List Int) (p : Int → Bool) (A : Option Addr) (len cap : Nat) (gx gf : Nat) (w : World) (hR : RdG w w.heap.size A (intsV .i64 L)) (hl : len = L.length) (hm : len ≤ 140737488355328)
 (hp : ∀ x ∈ L, Calls Tryz.prog 87 #[.int .i64 x, .pointer (some ⟨gx, 0, none⟩), .pointer (some ⟨gf, 0, none⟩)] w fun e w' => e = .returned (.bool (p x)) ∧ w = w') :
 Calls Tryz.prog 127 #[.slice A len cap, .func (.func 87) #[] #[.pointer (some ⟨gx, 0, none⟩), .pointer (some ⟨gf, 0, none⟩)]] w fun e w' => e = .returned (.int .i64 (idxP p L)) ∧ w = w' := by
 have HR := hd' hR; have HP := hd' hp; have HL := hd' hl; clear hR hp hl
 go_enter Tryz.func127, Tryz.ntmps127
 go_wp2
 go_loop [8] (fun i => ∃ k : Nat, k ≤ len ∧ i = .int .i64 k ∧ Hid (∀ (j : Nat) (y : Int), j < k → L[j]? = some y → p y = false)) (fun i => len - (intOf i).toNat)
 case atStart => exact ⟨0, Nat.zero_le _, rfl, fun j y h => absurd h (Nat.not_lt_zero _)⟩
 case round =>
  obtain ⟨k, hk, rfl, hno⟩ := hrel
  by_cases hlt : k < len
  · have hx : L[k]? = some (L[k]'(by have := HL.out; omega)) := gE' _; obtain ⟨x, hxx⟩ := ex' (L[k]'(by have := HL.out; omega))
    rw [hxx] at hx; have hpx := HP.out x (mG' hx); obtain ⟨b, o, rfl, hb, hc⟩ := HR.out.at (intsV_at .i64 hx); have HX := hd' hx; have HPX := hd' hpx; clear hx hxx hpx
    go_wp2_with fail
    refine (HPX.out).mono ?_; rintro e w2 ⟨rfl, rfl⟩
    by_cases hpp : p x = true
    · have hres := idxP_at p L k x HX.out hpp hno.out; have HRS := hd' hres; rw [hpp]; clear hres hpp
      go_wp2
      go_ret
      exact ⟨by rw [HRS.out]; rfl, rfl⟩
    · rw [Bool.not_eq_true] at hpp; have HPP := hd' hpp; rw [hpp]; clear hpp
      go_wp2
      go_round
      case rel =>
       refine ⟨k + 1, by omega, by go_num, fun j y hj hy => ?_⟩; rcases Nat.lt_or_ge j k with h | h
       · exact hno.out j y h hy
       · obtain rfl : j = k := by omega
         have := HX.out; rw [this] at hy
         cases hy
         exact HPP.out
      case measure => simp [intOf]; omega
  · obtain rfl : k = len := by omega
    have hres := idxP_none p L fun x hx => by
     obtain ⟨j, hj⟩ := List.getElem?_of_mem hx; exact hno.out j x (by have := (List.getElem?_eq_some_iff.1 hj).1; have := HL.out; omega) hj
    have HRS := hd' hres; clear hres hlt
    go_wp2
    go_ret
    exact ⟨by rw [HRS.out]; rfl, rfl⟩
theorem cf_mk1 (L : List Int) (p : Int → Bool) (A : Option Addr) (len cap : Nat) (gx gf : Nat) (w : World) (hR : RdG w w.heap.size A (intsV .i64 L)) (hl : len = L.length) (hm : len ≤ 140737488355328)
 (hp : ∀ x ∈ L, Calls Tryz.prog 87 #[.int .i64 x, .pointer (some ⟨gx, 0, none⟩), .pointer (some ⟨gf, 0, none⟩)] w fun e w' => e = .returned (.bool (p x)) ∧ w = w') :
 Calls Tryz.prog 79 #[.slice A len cap, .func (.func 87) #[] #[.pointer (some ⟨gx, 0, none⟩), .pointer (some ⟨gf, 0, none⟩)]] w fun e w' => e = .returned (.bool (L.any p)) ∧ w = w' := by
 have ha := idxP_any p L; have hge := idxP_ge p L; have H := hd' (idx_mk1 L p A len cap gx gf w hR hl hm hp); clear hR hp hl; rw [← ha]; generalize idxP p L = r at *; clear ha
 go_enter Tryz.func79, Tryz.ntmps79
 go_wp2_with fail
 refine H.out.mono ?_; rintro e w2 ⟨rfl, rfl⟩
 go_wp2
 go_ret
 exact ⟨rfl, rfl⟩
set_option maxRecDepth 100000 in
theorem idx_mk2 (L : List FnD) (p : FnD → Bool) (A : Option Addr) (len cap bf : Nat) (w : World) (hR : RdG w w.heap.size A (funcsV L)) (hl : len = L.length) (hm : len ≤ 140737488355328) (hc : ∀ W, Below w.heap.size w W → ∀ f : FnD, f ∈ L → Calls Tryz.prog 89 #[.agg #[.string f.name, .int .i64 f.start, .int .i64 f.size], .pointer (some ⟨bf, 0, none⟩)] W fun e w' => e = .returned (.bool (p f)) ∧ Below W.heap.size W w') :
 Calls Tryz.prog 130 #[.slice A len cap, .func (.func 89) #[] #[.pointer (some ⟨bf, 0, none⟩)]] w fun e w' => e = .returned (.int .i64 (idxP p L)) ∧ Below w.heap.size w w' := by
 have HR := hd' hR; have HL := hd' hl; have HC := hd' hc; clear hR hl hc
 go_enter Tryz.func130, Tryz.ntmps130
 go_wp2
 go_loopw [8] (fun i wr => ∃ k : Nat, k ≤ len ∧ i = .int .i64 k ∧ Below w.heap.size w wr ∧ Hid (∀ (j : Nat) (y : FnD), j < k → L[j]? = some y → p y = false)) (fun i _ => len - (intOf i).toNat)
 case atStart => exact ⟨0, Nat.zero_le _, rfl, Below.refl _ _, fun j y h => absurd h (Nat.not_lt_zero _)⟩
 case round =>
  obtain ⟨k, hk, rfl, hbr, hno⟩ := hrel
  by_cases hlt : k < len
  · have hx : L[k]? = some (L[k]'(by have := HL.out; omega)) := gE' _; obtain ⟨x, hxx⟩ := ex' (L[k]'(by have := HL.out; omega))
    rw [hxx] at hx; obtain ⟨b, o, rfl, hb', c0, c1, c2⟩ := HR.out.at3 hx; have d0 := (hbr.cell (p := ⟨b, o + k * 3, none⟩) hb').trans c0; have d1 := (hbr.cell (p := ⟨b, o + k * 3 + 1, none⟩) hb').trans c1; have d2 := (hbr.cell (p := ⟨b, o + k * 3 + 2, none⟩) hb').trans c2; have hcf := HC.out wr hbr x (mG' hx); have HX := hd' hx; have HCF := hd' hcf; have hz := hbr.size; have HB := hd' hbr; clear hx hxx c0 c1 c2 hbr hcf
    go_wp2_with fail
    refine HCF.out.mono ?_; rintro e w2 ⟨rfl, hb2⟩; have hbb := HB.out.trans (hb2.mono hz); have HBB := hd' hbb; clear hbb hb2 d0 d1 d2
    by_cases hpp : p x = true
    · have hres := idxP_at p L k x HX.out hpp hno.out; have HRS := hd' hres; rw [hpp]; clear hres hpp
      go_wp2
      go_ret
      exact ⟨by rw [HRS.out]; rfl, HBB.out⟩
    · rw [Bool.not_eq_true] at hpp; have HPP := hd' hpp; rw [hpp]; clear hpp
      go_wp2
      go_roundw
      case rel =>
       refine ⟨k + 1, by omega, by go_num, HBB.out, fun j y hj hy => ?_⟩; rcases Nat.lt_or_ge j k with h | h
       · exact hno.out j y h hy
       · obtain rfl : j = k := by omega
         have := HX.out; rw [this] at hy
         cases hy
         exact HPP.out
      case measure => simp [intOf]; omega
  · obtain rfl : k = len := by omega
    have hres := idxP_none p L fun x hx => by
     obtain ⟨j, hj⟩ := List.getElem?_of_mem hx; exact hno.out j x (by have := (List.getElem?_eq_some_iff.1 hj).1; have := HL.out; omega) hj
    have HRS := hd' hres; have HBB := hd' hbr; clear hres hlt hbr
    go_wp2
    go_ret
    exact ⟨by rw [HRS.out]; rfl, HBB.out⟩
theorem cf_mk2 (L : List FnD) (p : FnD → Bool) (A : Option Addr) (len cap bf : Nat) (w : World) (hR : RdG w w.heap.size A (funcsV L)) (hl : len = L.length) (hm : len ≤ 140737488355328) (hc : ∀ W, Below w.heap.size w W → ∀ f : FnD, f ∈ L → Calls Tryz.prog 89 #[.agg #[.string f.name, .int .i64 f.start, .int .i64 f.size], .pointer (some ⟨bf, 0, none⟩)] W fun e w' => e = .returned (.bool (p f)) ∧ Below W.heap.size W w') :
 Calls Tryz.prog 88 #[.slice A len cap, .func (.func 89) #[] #[.pointer (some ⟨bf, 0, none⟩)]] w fun e w' => e = .returned (.bool (L.any p)) ∧ Below w.heap.size w w' := by
 have ha := idxP_any p L; have hge := idxP_ge p L; have H := hd' (idx_mk2 L p A len cap bf w hR hl hm hc); clear hR hl hc; rw [← ha]; generalize idxP p L = r at *; clear ha
 go_enter Tryz.func88, Tryz.ntmps88
 go_wp2_with fail
 refine H.out.mono ?_; rintro e w2 ⟨rfl, hb2⟩
 go_wp2
 go_ret
 exact ⟨rfl, hb2⟩
set_option maxRecDepth 100000 in
theorem idx_pl1 (L : List FnD) (p : FnD → Bool) (A : Option Addr) (len cap bf : Nat) (w : World) (hR : RdG w w.heap.size A (funcsV L)) (hl : len = L.length) (hm : len ≤ 140737488355328) (hc : ∀ W, Below w.heap.size w W → ∀ f : FnD, f ∈ L → Calls Tryz.prog 131 #[.agg #[.string f.name, .int .i64 f.start, .int .i64 f.size], .pointer (some ⟨bf, 0, none⟩)] W fun e w' => e = .returned (.bool (p f)) ∧ Below W.heap.size W w') :
 Calls Tryz.prog 130 #[.slice A len cap, .func (.func 131) #[] #[.pointer (some ⟨bf, 0, none⟩)]] w fun e w' => e = .returned (.int .i64 (idxP p L)) ∧ Below w.heap.size w w' := by
 have HR := hd' hR; have HL := hd' hl; have HC := hd' hc; clear hR hl hc
 go_enter Tryz.func130, Tryz.ntmps130
 go_wp2
 go_loopw [8] (fun i wr => ∃ k : Nat, k ≤ len ∧ i = .int .i64 k ∧ Below w.heap.size w wr ∧ Hid (∀ (j : Nat) (y : FnD), j < k → L[j]? = some y → p y = false)) (fun i _ => len - (intOf i).toNat)
 case atStart => exact ⟨0, Nat.zero_le _, rfl, Below.refl _ _, fun j y h => absurd h (Nat.not_lt_zero _)⟩
 case round =>
  obtain ⟨k, hk, rfl, hbr, hno⟩ := hrel
  by_cases hlt : k < len
  · have hx : L[k]? = some (L[k]'(by have := HL.out; omega)) := gE' _; obtain ⟨x, hxx⟩ := ex' (L[k]'(by have := HL.out; omega))
    rw [hxx] at hx; obtain ⟨b, o, rfl, hb', c0, c1, c2⟩ := HR.out.at3 hx; have d0 := (hbr.cell (p := ⟨b, o + k * 3, none⟩) hb').trans c0; have d1 := (hbr.cell (p := ⟨b, o + k * 3 + 1, none⟩) hb').trans c1; have d2 := (hbr.cell (p := ⟨b, o + k * 3 + 2, none⟩) hb').trans c2; have hcf := HC.out wr hbr x (mG' hx); have HX := hd' hx; have HCF := hd' hcf; have hz := hbr.size; have HB := hd' hbr; clear hx hxx c0 c1 c2 hbr hcf
    go_wp2_with fail
    refine HCF.out.mono ?_; rintro e w2 ⟨rfl, hb2⟩; have hbb := HB.out.trans (hb2.mono hz); have HBB := hd' hbb; clear hbb hb2 d0 d1 d2
    by_cases hpp : p x = true
    · have hres := idxP_at p L k x HX.out hpp hno.out; have HRS := hd' hres; rw [hpp]; clear hres hpp
      go_wp2
      go_ret
      exact ⟨by rw [HRS.out]; rfl, HBB.out⟩
    · rw [Bool.not_eq_true] at hpp; have HPP := hd' hpp; rw [hpp]; clear hpp
      go_wp2
      go_roundw
      case rel =>
       refine ⟨k + 1, by omega, by go_num, HBB.out, fun j y hj hy => ?_⟩; rcases Nat.lt_or_ge j k with h | h
       · exact hno.out j y h hy
       · obtain rfl : j = k := by omega
         have := HX.out; rw [this] at hy
         cases hy
         exact HPP.out
      case measure => simp [intOf]; omega
  · obtain rfl : k = len := by omega
    have hres := idxP_none p L fun x hx => by
     obtain ⟨j, hj⟩ := List.getElem?_of_mem hx; exact hno.out j x (by have := (List.getElem?_eq_some_iff.1 hj).1; have := HL.out; omega) hj
    have HRS := hd' hres; have HBB := hd' hbr; clear hres hlt hbr
    go_wp2
    go_ret
    exact ⟨by rw [HRS.out]; rfl, HBB.out⟩
def finPl (fs : List FnD) (s : Sp) : Ins := if s.i.k = 23 then { s.i with n := idxP (fun f => f.start == s.p + s.i.n) fs } else s.i
set_option maxHeartbeats 2000000 in
set_option maxRecDepth 100000 in
theorem fin_plain (X : Nat) (fA : Option Addr) (fc : Nat) (fs : List FnD) (p z k d a b n : Int) (l : Bool) (w : World) (hX : X < w.heap.size) (hc : w.cell? ⟨X, 1, none⟩ = some (.slice fA fs.length fc)) (hR : RdG w w.heap.size fA (funcsV fs)) (hl : fs.length ≤ 140737488355328)
 (hb : IntKind.i64.wrap (p + n) = p + n) :
 Calls Tryz.prog 91 #[.pointer (some ⟨X, 0, none⟩), .agg #[.int .i64 p, .int .i64 z, .int .i64 k, .int .i64 d, .int .i64 a, .int .i64 b, .int .i64 n, .bool l]] w fun e w' => e = .returned (.agg #[.int .i64 k, .int .i64 d, .int .i64 a, .int .i64 b, .int .i64 (finPl fs ⟨p, z, ⟨k, d, a, b, n, l⟩⟩).n, .bool l]) ∧ Below w.heap.size w w' := by
 have HR := hd' hR; have HB := hd' hb; obtain ⟨nf, hnf⟩ := ex' fs.length
 rw [hnf] at hc hl; have HNF := hd' hnf; obtain ⟨N, hN⟩ := ex' ((finPl fs ⟨p, z, ⟨k, d, a, b, n, l⟩⟩).n)
 rw [hN]; clear hR hb hnf
 go_enter Tryz.func91, Tryz.ntmps91
 by_cases hk : k = 23
 · subst hk; have HN : Hid (idxP (fun f => f.start == p + n) fs = N) := hd' (by rw [← hN]; rfl); clear hN
   go_wp2_with fail
   obtain ⟨W, hW⟩ := ex' (((w.alloc (.cells #[.int .i64 p, .int .i64 z, .int .i64 23, .int .i64 d, .int .i64 a, .int .i64 b, .int .i64 n, .bool l] 119)).alloc (.cells #[.int .i64 0, .int .i64 0, .int .i64 0, .int .i64 0, .int .i64 0, .bool false] 52)))
   rw [hW]; have hbW : Below w.heap.size w W := by rw [← hW]; exact ((Below.refl _ _).alloc lr' _).alloc (by simp) _
   have hs : Blk W w.heap.size 119 [.int .i64 p, .int .i64 z, .int .i64 23, .int .i64 d, .int .i64 a, .int .i64 b, .int .i64 n, .bool l] := by rw [← hW]; exact (Blk.new w _ _).alloc _
   have hr : Blk W (w.heap.size + 1) 52 [.int .i64 0, .int .i64 0, .int .i64 0, .int .i64 0, .int .i64 0, .bool false] := by rw [← hW]; exact Blk.new2 w _ _ _
   clear hW; have hix := idx_pl1 fs (fun f => f.start == p + n) fA nf fc w.heap.size W ((HR.out.below hbW).more hbW.size) HNF.out.symm hl (fun V hV f _ => fin_plain1 w.heap.size f.name f.start f.size p n V ((hs.keep hV).cell 0 rfl) ((hs.keep hV).cell 6 rfl) (hs.keep hV).lt HB.out); refine hix.mono ?_; rintro e W2 ⟨rfl, hb2⟩; rw [HN.out]; have hs2 := hs.keep hb2; have hr2 := hr.keep hb2; have HB2 := hd' (hbW.trans (hb2.mono hbW.size)); have HR2 := hd' hr2; have hz2 : w.heap.size ≤ W2.heap.size := HB2.out.size; clear hix hb2 hbW hs hr; have s2 := hs2.cell 2 rfl; have s3 := hs2.cell 3 rfl
   have s4 := hs2.cell 4 rfl; have s5 := hs2.cell 5 rfl; have s6 := hs2.cell 6 rfl; have s7 := hs2.cell 7 rfl; have f6 := hs2.free 6; have r0 := hr2.cell 0 rfl; have r1 := hr2.cell 1 rfl; have r2 := hr2.cell 2 rfl; have r3 := hr2.cell 3 rfl; have r4 := hr2.cell 4 rfl; have r5 := hr2.cell 5 rfl; have g0 := hr2.free 0; have g1 := hr2.free 1; have g2 := hr2.free 2; have g3 := hr2.free 3; have g4 := hr2.free 4; have g5 := hr2.free 5; have l0 := hs2.lt; have l1 := hr2.lt; clear hs2 hr2
   go_wp2
   have h0 : Blk (W2.setCell ⟨w.heap.size, 6, none⟩ (.int .i64 N)) (w.heap.size + 1) 52 [.int .i64 0, .int .i64 0, .int .i64 0, .int .i64 0, .int .i64 0, .bool false] := HR2.out.set_ne (by omega) _ _; have h1 := (((((h0.set 0 (.int .i64 23)).set 1 (.int .i64 d)).set 2 (.int .i64 a)).set 3 (.int .i64 b)).set 4 (.int .i64 N)).set 5 (.bool l); have b1 := gb_to_below (B := w.heap.size) (gb_setCell (gb_refl W2 (some w.heap.size)) 6 (.int .i64 N)) lr' hz2
   have b2 := gb_to_below (B := w.heap.size) (gb_setCell (gb_setCell (gb_setCell (gb_setCell (gb_setCell (gb_setCell (gb_refl (W2.setCell ⟨w.heap.size, 6, none⟩ (.int .i64 N)) (some (w.heap.size + 1))) 0 (.int .i64 23)) 1 (.int .i64 d)) 2 (.int .i64 a)) 3 (.int .i64 b)) 4 (.int .i64 N)) 5 (.bool l)) (by omega) (by have := b1.size; omega); exact bodyPost_ret (results_cell_row rfl _ _ (w.heap.size + 1) 52 #[.int .i64 23, .int .i64 d, .int .i64 a, .int .i64 b, .int .i64 N, .bool l] (0, 0) _ rfl h1 Tryz.underlying52 rfl (by kernel_rfl)) rfl ⟨rfl, (HB2.out.trans b1).trans b2⟩
 · have hN2 : n = N := by rw [← hN]; unfold finPl; rw [if_neg hk]
   subst hN2; have hkb : (k == 23) = false := by simpa using hk
   clear hN
   go_wp2
   exact bodyPost_ret (results_cell_row rfl _ _ (w.heap.size + 1) 52 #[.int .i64 k, .int .i64 d, .int .i64 a, .int .i64 b, .int .i64 n, .bool l] (0, 0) _ rfl (heap_alloc2_new w _ _) Tryz.underlying52 rfl (by kernel_rfl)) rfl ⟨rfl, ((Below.refl _ _).alloc lr' _).alloc (by simp) _⟩
def markS (m : Img) (own : Int → Option Int) (f : Int) (s : Sp) (ld : Int → Bool) : Option (Int → Bool) :=
 if (branchI s.i || s.i.k == 22) = true then (if (own (s.p + s.i.n) == some f) = true then some (upF (upF ld (s.p + s.i.n) true) (s.p + s.z) true) else none)
 else if stopsI s.i = true then (if (s.i.k == 24 && decide (s.i.n < m.tables.length) && (m.tables.getD s.i.n.toNat []).any (fun a => !(own a == some f))) = true then none else some (upF ld (s.p + s.z) true))
 else if s.i.k = 23 then (if m.funcs.any (fun g => g.start == s.p + s.i.n) = true then some ld else none)
 else some ld
def markGo (m : Img) (own : Int → Option Int) (f : Int) : List Sp → (Int → Bool) → Option (Int → Bool)
 | [], ld => some ld
 | s :: r, ld => (markS m own f s ld).bind (markGo m own f r)
theorem markGo_snoc (m : Img) (own : Int → Option Int) (f : Int) : ∀ (l : List Sp) (s : Sp) (ld : Int → Bool), markGo m own f (l ++ [s]) ld = (markGo m own f l ld).bind (markS m own f s)
 | [], s, ld => by
  show (markS m own f s ld).bind (markGo m own f []) = markS m own f s ld
  cases markS m own f s ld <;> rfl
 | a :: r, s, ld => by
  show (markS m own f a ld).bind (markGo m own f (r ++ [s])) = ((markS m own f a ld).bind (markGo m own f r)).bind (markS m own f s)
  cases markS m own f a ld with
  | none => rfl
  | some x => exact markGo_snoc m own f r s x
theorem markGo_none (m : Img) (own : Int → Option Int) (f : Int) (l r : List Sp) (ld : Int → Bool) (h : markGo m own f l ld = none) : markGo m own f (l ++ r) ld = none := by
 induction l generalizing ld with
 | nil => cases h
 | cons a t ih =>
  have h' : (markS m own f a ld).bind (markGo m own f t) = none := h; show (markS m own f a ld).bind (markGo m own f (t ++ r)) = none
  cases e : markS m own f a ld with
  | none => rfl
  | some x =>
   rw [e] at h'; exact ih x h'
theorem mapB_is {w : World} {L n : Nat} {f : Int → Bool} (h : MapB w L n f) : ∃ es ck, w.heap[L]? = some (.map es ck) := by
 obtain ⟨D, ⟨es, ck, hb, _⟩, _⟩ := h; exact ⟨es, ck, hb⟩
theorem RdG.keepM {w w' : World} {H L n : Nat} {A : Option Addr} {xs : List Value} {f : Int → Bool} (h : RdG w H A xs) (hg : w.grownBy w' (some L)) (hm : MapB w L n f) : RdG w' H A xs := by
 obtain ⟨es, ck, hL⟩ := mapB_is hm; intro hne; obtain ⟨g, o, rfl, hgH, hc⟩ := h hne; refine ⟨g, o, rfl, hgH, fun j u hu => ?_⟩; have hcell := hc j u hu; have hlt := lt_of_cell hcell
 have hgL : g ≠ L := by
  rintro rfl; simp [World.cell?, hL] at hcell
 rw [← hcell]; have e := hg.block g hlt (fun e => hgL (by injection e)); simp [World.cell?, e]
theorem Blk.neM {w : World} {X L n : Nat} {t : TypeId} {cs : List Value} {f : Int → Bool} (h : Blk w X t cs) (hm : MapB w L n f) : L ≠ X := by
 obtain ⟨es, ck, hL⟩ := mapB_is hm; rintro rfl; unfold Blk at h; rw [hL] at h
 cases h
theorem Blk.keepM {w w' : World} {X L n : Nat} {t : TypeId} {cs : List Value} {f : Int → Bool} (h : Blk w X t cs) (hg : w.grownBy w' (some L)) (hm : MapB w L n f) : Blk w' X t cs :=
 h.gb hg (fun e => h.neM hm (by injection e))
def finC (m : Img) (v : ImgV) (aA : Option Addr) (an ac o L k : Nat) (R3 : List Value) : List Value :=
 [.slice v.tA m.text.length v.tc, .slice v.fA m.funcs.length v.fc, .slice v.bA m.tables.length v.bc, .slice v.dA m.data.length v.dc, .slice v.lA m.lines.length v.lc, .int .i64 m.entry, .slice aA an ac, .map (some o), .map (some L), .map (some k)] ++ R3
structure FinRd (w : World) (B H X : Nat) (m : Img) (v : ImgV) (aA : Option Addr) (ac : Nat) (all : List (List Sp)) (o no : Nat) (own : Int → Option Int) (L k : Nat) (R3 : List Value) : Prop where
 blk : Blk w X 112 (finC m v aA all.length ac o L k R3)
 img : ImgRd w B m v
 rows : ∃ vs : List Value, vs.length = all.length ∧ RdG w H aA vs ∧ ∀ (j : Nat) (l : List Sp), all[j]? = some l → ∃ A c, vs[j]? = some (.slice A l.length c) ∧ l.length ≤ c ∧ RdG w H A (spsV l)
 own : MapI w o no own
 hB : B ≤ L ∧ B ≤ H
 hH : H ≤ w.heap.size
 ne : L ≠ o
section
variable {w w' : World} {B H X : Nat} {m : Img} {v : ImgV} {aA : Option Addr} {ac : Nat} {all : List (List Sp)} {o no : Nat} {own : Int → Option Int} {L k : Nat} {R3 : List Value}
theorem FinRd.keepL {n : Nat} {f : Int → Bool} (h : FinRd w B H X m v aA ac all o no own L k R3) (hg : w.grownBy w' (some L)) (hm : MapB w L n f) : FinRd w' B H X m v aA ac all o no own L k R3 := by
 obtain ⟨vs, h1, h2, h3⟩ := h.rows; refine ⟨h.blk.keepM hg hm, h.img.below (gb_to_below hg h.hB.1 (by have := h.hB.2; have := h.hH; omega)), ⟨vs, h1, h2.keepM hg hm, fun j l hj => ?_⟩, h.own.gb hg (fun e => h.ne (by injection e)), h.hB, Nat.le_trans h.hH hg.size, h.ne⟩; obtain ⟨A, c, k1, k2, k3⟩ := h3 j l hj; exact ⟨A, c, k1, k2, k3.keepM hg hm⟩
theorem FinRd.below (h : FinRd w B H X m v aA ac all o no own L k R3) (hb : Below w.heap.size w w') : FinRd w' B H X m v aA ac all o no own L k R3 := by
 obtain ⟨vs, h1, h2, h3⟩ := h.rows; have hH := h.hH; have hB := h.hB.2; refine ⟨h.blk.keep hb, h.img.below (hb.mono (by omega)), ⟨vs, h1, h2.below (hb.mono hH), fun j l hj => ?_⟩, h.own.keep hb, h.hB, Nat.le_trans h.hH hb.size, h.ne⟩; obtain ⟨A, c, k1, k2, k3⟩ := h3 j l hj; exact ⟨A, c, k1, k2, k3.below (hb.mono hH)⟩
end
end Go.Proofs.YtcdlgjhdbmmomaaGreatDoor
