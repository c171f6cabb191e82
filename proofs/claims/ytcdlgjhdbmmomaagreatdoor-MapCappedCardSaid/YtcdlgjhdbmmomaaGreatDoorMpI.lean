/- The first block that falls or jumps: slices.IndexFunc of MapCapped, walked. -/
import Derived.Test.YtcdlgjhdbmmomaaGreatDoorMpK
import Derived.Deep.DeepCutAuto
import Derived.Deep.CutBlock
import Derived.Deep.LoopGhost
import Derived.Deep.QuietTactic
import Derived.BigQuiet
import Derived.IntWalk
import Derived.WalkLawsBesides
namespace Go.Proofs.YtcdlgjhdbmmomaaGreatDoor
open Go.RowKit Go.Deep
theorem blk_rdg {w : World} {b : Nat} {T : TypeId} {cs : List Value} (h : Blk w b T cs) : RdG w w.heap.size (some ⟨b, 0, none⟩) cs := fun _ => ⟨b, 0, rfl, h.lt, fun j u hj => by rw [Nat.zero_add]; exact h.cell j hj⟩
def goB (b : BlkD) : Bool := decide (b.ends = 2) || decide (b.ends = 3)
theorem goB_any (bf bst : Int) (cA : Option Addr) (NC cc : Nat) (aA : Option Addr) (na ac : Nat) (lk lld la lb ln : Int) (llb : Bool) (ben bds bel : Int) (liA : Option Addr) (NL lic : Nat) (w : World) :
    Calls Tryz.prog 21 #[.agg #[.int .i64 bf, .int .i64 bst, .slice cA NC cc, .slice aA na ac, .int .i64 lk, .int .i64 lld, .int .i64 la, .int .i64 lb, .int .i64 ln, .bool llb, .int .i64 ben, .int .i64 bds, .int .i64 bel, .slice liA NL lic]] w fun e w' => e = .returned (.bool (decide (ben = 2) || decide (ben = 3))) ∧ Below w.heap.size w w' := by
  by_cases h2 : ben = 2
  · subst h2
    go_enter Tryz.func21, Tryz.ntmps21
    go_wp2
    go_ret
    exact ⟨rfl, (Below.refl _ _).alloc (Nat.le_refl _) _⟩
  · have q2 : (ben == 2) = false := by simpa using h2
    by_cases h3 : ben = 3
    · subst h3
      go_enter Tryz.func21, Tryz.ntmps21
      go_wp2
      go_ret
      exact ⟨rfl, (Below.refl _ _).alloc (Nat.le_refl _) _⟩
    · have q3 : (ben == 3) = false := by simpa using h3
      rw [show (decide (ben = 2) || decide (ben = 3)) = false by simp [h2, h3]]
      go_enter Tryz.func21, Tryz.ntmps21
      go_wp2
      go_ret
      exact ⟨rfl, (Below.refl _ _).alloc (Nat.le_refl _) _⟩
def IdxPost (d : FlowD) (w : World) (e : Ending) (w' : World) : Prop :=
  Below w.heap.size w w' ∧ (e = .returned (.int .i64 (-1)) ∨ ∃ (k : Nat) (b : BlkD), e = .returned (.int .i64 k) ∧ d.blocks[k]? = some b ∧ goB b = true)
set_option maxHeartbeats 4000000 in
set_option maxRecDepth 100000 in
theorem idx_blk {d : FlowD} {xA yA zA : Option Addr} {xc yc zc : Nat} (w : World) (hF : FlowRd w xA xc yA yc zA zc d) (n : Nat) (hn : d.blocks.length = n) (hm : n ≤ 1000000) :
    Calls Tryz.prog 20 #[.slice xA n xc, .func (.func 21) #[] #[]] w (IdxPost d w) := by
  have HPO : Hid (∀ e w', Below w.heap.size w w' → (e = .returned (.int .i64 (-1)) ∨ ∃ (k : Nat) (b : BlkD), e = .returned (.int .i64 k) ∧ d.blocks[k]? = some b ∧ goB b = true) → IdxPost d w e w') := Lib.hid fun e w' h1 h2 => ⟨h1, h2⟩
  have HF := Lib.hid hF
  have HN := Lib.hid hn
  have hcap := hF.fst.2.2
  rw [hn] at hcap
  clear hF hn
  go_enter Tryz.func20, Tryz.ntmps20
  go_wp2
  go_loopg [8] n (fun gk s wr => ∃ k : Nat, k ≤ n ∧ s = .int .i64 k ∧ Hid (Below w.heap.size w wr) ∧ n - k ≤ gk)
  case atStart => exact ⟨0, Nat.zero_le _, rfl, Below.refl _ _, Nat.le_refl _⟩
  case round =>
    obtain ⟨k, hk, rfl, HB, hgk⟩ := hrel
    by_cases hlt : k < n
    · have hltI : (k : Int) < (n : Int) := by omega
      have hk0 : (0 : Int) ≤ (k : Int) := by omega
      have hblk : d.blocks[k]? = some (d.blocks[k]'(by have := HN.out; omega)) := List.getElem?_eq_getElem _
      generalize d.blocks[k]'(by have := HN.out; omega) = bq at hblk
      obtain ⟨v, g, o, hxA, hg, -, hcs⟩ := (HF.out.below HB.out).at hblk
      have HBLK := Lib.hid hblk
      have HGB : Hid (goB bq = (decide (bq.ends = 2) || decide (bq.ends = 3))) := Lib.hid rfl
      obtain ⟨bf, bst, bco, bat, ⟨lk, lld, la, lb, ln, llb⟩, ben, bds, bel, bli⟩ := bq
      obtain ⟨cA, cc, aA, ac, liA, lic⟩ := v
      obtain ⟨na, hna⟩ : ∃ z, bat.length = z := ⟨_, rfl⟩
      obtain ⟨NC, hNC⟩ : ∃ z, bco.length = z := ⟨_, rfl⟩
      obtain ⟨NL, hNL⟩ : ∃ z, bli.length = z := ⟨_, rfl⟩
      simp only at HGB
      have b0 := hcs 0 _ rfl
      have b1 := hcs 1 _ rfl
      have b2 := hcs 2 _ rfl
      have b3 := hcs 3 _ rfl
      have b4 := hcs 4 _ rfl
      have b5 := hcs 5 _ rfl
      have b6 := hcs 6 _ rfl
      have b7 := hcs 7 _ rfl
      have b8 := hcs 8 _ rfl
      have b9 := hcs 9 _ rfl
      have b10 := hcs 10 _ rfl
      have b11 := hcs 11 _ rfl
      have b12 := hcs 12 _ rfl
      have b13 := hcs 13 _ rfl
      simp only [hNC, hna, hNL, Nat.add_zero] at b0 b2 b3 b13
      have HCL := Lib.hid (fun W => goB_any bf bst cA NC cc aA na ac lk lld la lb ln llb ben bds bel liA NL lic W)
      obtain ⟨gb, hgb⟩ : ∃ z, (decide (ben = 2) || decide (ben = 3)) = z := ⟨_, rfl⟩
      rw [hgb] at HGB HCL
      subst hxA
      clear hblk hcs hna hNC hNL hgb
      go_wp2_with fail
      refine (HCL.out wr).mono ?_
      rintro e w2 ⟨rfl, hb2⟩
      have HB2 := Lib.hid (HB.out.trans (hb2.mono HB.out.size))
      clear hb2 b0 b1 b2 b3 b4 b5 b6 b7 b8 b9 b10 b11 b12 b13
      cases gb with
      | true =>
        go_wp2
        go_ret
        exact HPO.out _ _ HB2.out (.inr ⟨k, _, rfl, HBLK.out, HGB.out⟩)
      | false =>
        go_wp2
        go_roundg (n - (k + 1))
        case measure => omega
        case rel => exact ⟨k + 1, by omega, (by go_num), HB2, Nat.le_refl _⟩
    · obtain rfl : k = n := by omega
      have hltI : ¬ (k : Int) < (k : Int) := by omega
      go_wp2
      go_ret
      exact HPO.out _ _ HB.out (.inl rfl)
end Go.Proofs.YtcdlgjhdbmmomaaGreatDoor
