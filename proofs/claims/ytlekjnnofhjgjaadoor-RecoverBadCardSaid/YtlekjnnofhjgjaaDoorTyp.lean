/- Rows and blocks kept apart by their types. -/
import Derived.Test.YtlekjnnofhjgjaaDoorAsmB
import Derived.Test.YtlekjnnofhjgjaaDoorAsmG
namespace Go.Proofs.YtlekjnnofhjgjaaDoor
open Go.RowKit
/-- block g of w is of type T -/
def TypB (w : World) (g : Nat) (T : TypeId) : Prop := ∃ cs fz, w.heap[g]? = some (.cells cs T fz)
theorem TypB.ne {w : World} {g g' : Nat} {T T' : TypeId} (h : TypB w g T) (h' : TypB w g' T') (hne : T ≠ T') : g ≠ g' := by
  rintro rfl
  obtain ⟨cs, fz, h1⟩ := h
  obtain ⟨cs', fz', h2⟩ := h'
  rw [h1] at h2
  injection h2 with h2
  injection h2 with _ h3 _
  exact hne h3
theorem Blk.typ {w : World} {g : Nat} {T : TypeId} {cs : List Value} (h : Blk w g T cs) : TypB w g T := ⟨_, _, h⟩
theorem own_typ {w : World} {b : Nat} {e : TypeId} {sz n : Nat} {v : Value} {xs : List Value} (h : w.ownsRow b e sz v n xs) {g : Nat} (hg : v.ownBlock = some g) : TypB w g e := by
  rcases h.2 with ⟨rfl, _⟩ | ⟨g', cap, cur, rfl, _, h2, _⟩
  · cases hg
  · simp only [Value.ownBlock] at hg
    injection hg with hg
    subst hg
    exact ⟨_, _, h2⟩
/-- where a row of another type is written, this one stays -/
theorem own_keepT {w w' : World} {b : Nat} {e T : TypeId} {sz n : Nat} {v : Value} {xs : List Value} {r : Option Nat} (h : w.ownsRow b e sz v n xs) (hg : w.grownBy w' r) (hr : ∀ g, r = some g → TypB w g T) (hne : e ≠ T) : w'.ownsRow b e sz v n xs := by
  refine gb_own h hg ?_
  rcases hv : v.ownBlock with _ | q
  · exact .inl rfl
  · right
    intro e2
    exact (own_typ h hv).ne (hr q e2.symm) hne rfl
theorem Blk.keepT {w w' : World} {g : Nat} {e T : TypeId} {cs : List Value} {r : Option Nat} (h : Blk w g e cs) (hg : w.grownBy w' r) (hr : ∀ g, r = some g → TypB w g T) (hne : e ≠ T) : Blk w' g e cs :=
  h.gb hg fun e2 => h.typ.ne (hr g e2) hne rfl
theorem own_ltH {w w' : World} {b H : Nat} {e : TypeId} {sz n : Nat} {v : Value} {xs : List Value} (h : w.ownsRow b e sz v n xs) (hb : Below H w w') (hH : ∀ g, v.ownBlock = some g → g < H) : w'.ownsRow b e sz v n xs := by
  refine ⟨h.1, ?_⟩
  rcases h.2 with hn | ⟨g, cap, cur, rfl, hbb, hgg, rest⟩
  · exact .inl hn
  · exact .inr ⟨g, cap, cur, rfl, hbb, (hb.block g (hH g rfl)).trans hgg, rest⟩
end Go.Proofs.YtlekjnnofhjgjaaDoor
