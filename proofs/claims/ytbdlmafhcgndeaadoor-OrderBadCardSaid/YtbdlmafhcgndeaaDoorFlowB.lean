/- The finder of blocks: inside, and the closures of mark and plain. -/
import Derived.Test.YtbdlmafhcgndeaaDoorMapE
import Derived.Test.YtbdlmafhcgndeaaDoorFlowA
import Derived.WalkLawsBesides
namespace Go.Proofs.YtbdlmafhcgndeaaDoor
open Go.RowKit
set_option maxRecDepth 100000 in
theorem fin_inside (X o n : Nat) (own : Int → Option Int) (f p : Int) (w : World) (hc : w.cell? ⟨X, 7, none⟩ = some (.map (some o))) (hm : MapI w o n own) (hp : N64 p) :
    Calls Tryd.prog 75 #[.pointer (some ⟨X, 0, none⟩), .int .i64 f, .int .i64 p] w fun e w' => e = .returned (.bool (own p == some f)) ∧ w = w' := by
  have hl := hm.look_ok hp
  clear hm
  go_enter Tryd.func75, Tryd.ntmps75
  rcases h : own p with _ | g
  · rw [h] at hl
    simp only [Option.getD_none, Option.isSome_none] at hl
    go_wp2
    go_ret
    exact ⟨by simp, rfl⟩
  · rw [h] at hl
    simp only [Option.getD_some, Option.isSome_some] at hl
    by_cases e : g = f
    · subst e
      go_wp2
      go_ret
      exact ⟨by simp, rfl⟩
    · have e2 : (g == f) = false := by simpa using e
      go_wp2
      go_ret
      exact ⟨by simp [e], rfl⟩
set_option maxRecDepth 100000 in
theorem fin_mark1 (X o n gx gf : Nat) (own : Int → Option Int) (f p : Int) (w : World) (hc : w.cell? ⟨X, 7, none⟩ = some (.map (some o))) (hm : MapI w o n own) (hp : N64 p) (hx : w.cell? ⟨gx, 0, none⟩ = some (.pointer (some ⟨X, 0, none⟩))) (hf : w.cell? ⟨gf, 0, none⟩ = some (.int .i64 f)) :
    Calls Tryd.prog 76 #[.int .i64 p, .pointer (some ⟨gx, 0, none⟩), .pointer (some ⟨gf, 0, none⟩)] w fun e w' => e = .returned (.bool (!(own p == some f))) ∧ w = w' := by
  have HI := Lib.hid (fin_inside X o n own f p w hc hm hp)
  clear hm hp hc
  go_enter Tryd.func76, Tryd.ntmps76
  go_wp2_with fail
  refine HI.out.mono ?_
  rintro e w1 ⟨rfl, rfl⟩
  go_wp2
  go_ret
  exact ⟨rfl, rfl⟩
set_option maxRecDepth 100000 in
theorem fin_mark2 (gt : Nat) (nm : ByteArray) (st sz t : Int) (w : World) (ht : w.cell? ⟨gt, 0, none⟩ = some (.int .i64 t)) (hl : gt < w.heap.size) :
    Calls Tryd.prog 78 #[.agg #[.string nm, .int .i64 st, .int .i64 sz], .pointer (some ⟨gt, 0, none⟩)] w fun e w' => e = .returned (.bool (st == t)) ∧ Below w.heap.size w w' := by
  go_enter Tryd.func78, Tryd.ntmps78
  go_wp2
  go_ret
  exact ⟨rfl, (Below.refl _ _).alloc (Nat.le_refl _) _⟩
set_option maxRecDepth 100000 in
theorem fin_plain1 (gs : Nat) (nm : ByteArray) (st sz p m : Int) (w : World) (h0 : w.cell? ⟨gs, 0, none⟩ = some (.int .i64 p)) (h1 : w.cell? ⟨gs, 6, none⟩ = some (.int .i64 m)) (hl : gs < w.heap.size) (hb : IntKind.i64.wrap (p + m) = p + m) :
    Calls Tryd.prog 110 #[.agg #[.string nm, .int .i64 st, .int .i64 sz], .pointer (some ⟨gs, 0, none⟩)] w fun e w' => e = .returned (.bool (st == p + m)) ∧ Below w.heap.size w w' := by
  go_enter Tryd.func110, Tryd.ntmps110
  go_wp2
  go_ret
  exact ⟨rfl, (Below.refl _ _).alloc (Nat.le_refl _) _⟩
end Go.Proofs.YtbdlmafhcgndeaaDoor
