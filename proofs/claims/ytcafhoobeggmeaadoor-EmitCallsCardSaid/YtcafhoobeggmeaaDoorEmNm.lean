/- EmitCalls' own function that names the function at an address. -/
import Derived.Test.YtcafhoobeggmeaaDoorEmCl
import Derived.Test.YtcafhoobeggmeaaDoorEmV
import Derived.Deep.DeepCutAuto
import Derived.Deep.CutBlock
import Derived.Deep.LoopGhost
import Derived.Deep.QuietTactic
import Derived.BigQuiet
import Derived.IntWalk
import Derived.WalkLawsBesides
namespace Go.Proofs.YtcafhoobeggmeaaDoor
open Go.RowKit
section
variable {P : Program} {l : List Oper} {Q : Exit → Act → World → Prop} {md : Region.Mode} {S : World → Prop} {n : Nat}
theorem wo (i : Nat) {oi : Oper} {fuel : Nat} {listed : Array Bool} {a a' : Act} {w : World} (hS : S w) (h : wpW P md l.toArray Q S n fuel (listed.setIfInBounds i true) a' w) (hi : l[i]? = some oi := by rfl) (hw : Region.wanted oi (yielded l.toArray a.tmps) = false := by rfl) (hp : a.put oi.dst undef = a' := by (try simp only [putE]); rfl) (hs : Region.noSelect l.toArray = true := by kernel_rfl) (hf : Region.free md l.toArray listed i = true := by kernel_rfl) (hr : (Region.ready md l.toArray listed).contains i = true := by kernel_rfl) (hwait : waitB md l.toArray n i = true := by kernel_rfl)
 (hQ : ∀ c a w, Q (.panic c) (a.put oi.dst undef) w → Q (.panic c) a w := by exact fun _ _ _ h => h) : wpW P md l.toArray Q S n (fuel + 1) listed a w := by
 subst hp; exact wpW_take i hi hs hf hr hwait hQ (Or.inr ⟨hw, rfl⟩) hS h
end
theorem nmF_none {fs : List FnD} {a : Int} (h : ∀ (j : Nat) (g : FnD), fs[j]? = some g → g.start ≠ a) : nmF fs a = ⟨#[]⟩ := by
 have : fs.find? (fun f => f.start == a) = none := by
  rw [List.find?_eq_none]; intro x hx; obtain ⟨j, hj⟩ := List.getElem?_of_mem hx; have := h j x hj; simpa using this
 unfold nmF; rw [this]
 rfl
set_option maxHeartbeats 1000000 in
set_option maxRecDepth 100000 in
theorem nm_any (m : Img) (v : ImgV) (a : Int) (w : World) (hI : ImgRd w w.heap.size m v) (hfl : m.funcs.length ≤ 140737488355328) (hfc : m.funcs.length ≤ v.fc) : Calls Tryd.prog 21 #[.agg (m.val v), .int .i64 a] w fun e w' => e = .returned (.string (nmF m.funcs a)) ∧ Below w.heap.size w w' := by
 obtain ⟨R, hR⟩ := ex' (nmF m.funcs a)
 rw [hR]; unfold Img.val; have HI := hd' hI; have HR := hd' hR; obtain ⟨T, hT⟩ := ex' m.text.length
 obtain ⟨N, hN⟩ := ex' m.funcs.length
 rw [hN] at hfl hfc; rw [hT, hN]; have HN := hd' hN; obtain ⟨tA, tc, fA, fc, bA, bc, dA, dc, lA, lc⟩ := v; clear hT hN hI hR; simp only at *
 go_enter Tryd.func21, Tryd.ntmps21
 go_upto_region 1 with fail
 obtain ⟨W0, hW0⟩ := ex' (w.alloc (.cells #[.slice tA T tc, .slice fA N fc, .slice bA m.tables.length bc, .slice dA m.data.length dc, .slice lA m.lines.length lc, .int .i64 m.entry] 42))
 rw [hW0]; have hB0 : Below w.heap.size w W0 := by rw [← hW0]; exact (Below.refl _ _).alloc lr' _
 have h0 : Blk W0 w.heap.size 42 [.slice tA T tc, .slice fA N fc, .slice bA m.tables.length bc, .slice dA m.data.length dc, .slice lA m.lines.length lc, .int .i64 m.entry] := by rw [← hW0]; exact Blk.new w _ _
 have HB0 := hd' hB0; have x1 := h0.cell 1 rfl; have xl := h0.lt; clear hW0 hB0 h0
 go_wp2_with fail
 go_loopg [10] N (fun gk s wr => ∃ k : Nat, k ≤ N ∧ s = .int .i64 k ∧ Hid (Below w.heap.size w wr) ∧ Hid (∀ (j : Nat) (g : FnD), j < k → m.funcs[j]? = some g → g.start ≠ a) ∧ N - k ≤ gk)
 case atStart => exact ⟨0, Nat.zero_le _, rfl, HB0, hd' (fun j g h => by omega), Nat.le_refl _⟩
 case round =>
  obtain ⟨k, hk, rfl, HB, HNO, hgk⟩ := hrel; clear x1 xl
  by_cases hlt : k < N
  · have hltI : (k : Int) < (N : Int) := by omega
    have hx : m.funcs[k]? = some (m.funcs[k]'(by have := HN.out; omega)) := gE' _; generalize m.funcs[k]'(by have := HN.out; omega) = f at hx; obtain ⟨nm, st, sz⟩ := f; obtain ⟨b, o, hA, hb', c0, c1, c2⟩ := (HI.out.funcs.below HB.out).at3 hx; simp only at hA c0 c1 c2; have HX := hd' hx; subst hA
    by_cases p : st = a
    · have hR1 := HR.out; rw [nmF_at hx p HNO.out] at hR1; simp only at hR1; subst hR1 p; clear hx; have qe : (st == st) = true := by simp
      go_wp2_with fail
      go_ret
      exact ⟨by rfl, HB.out.alloc HB.out.size _⟩
    · have qe : (st == a) = false := by simpa using p
      have HNX : Hid (∀ (j : Nat) (g : FnD), j < k + 1 → m.funcs[j]? = some g → g.start ≠ a) := hd' fun j g hj hg => by
       rcases Nat.lt_or_ge j k with h | h
       · exact HNO.out j g h hg
       · obtain rfl : k = j := by omega
         rw [HX.out] at hg; injection hg with hg; rw [← hg]; exact p
      clear hx
      go_wp2_with fail
      go_roundg (N - (k + 1))
      case measure => omega
      case rel => exact ⟨k + 1, by omega, (by go_num), hd' (HB.out.alloc HB.out.size _), HNX, Nat.le_refl _⟩
  · obtain rfl : N = k := by omega
    have hltI : ¬ (N : Int) < (N : Int) := by omega
    have hR1 := HR.out; rw [nmF_none (fun j g hg => HNO.out j g (by have := (List.getElem?_eq_some_iff.1 hg).1; have := HN.out; omega) hg)] at hR1; have HR1 := hd' hR1; clear hR1
    go_wp2_with fail
    go_ret
    exact ⟨by rw [← HR1.out]; rfl, HB.out⟩
end Go.Proofs.YtcafhoobeggmeaaDoor
