/- A slice's cells, read; numbers read. -/
import Derived.Test.YtbdlmafhcgndeaaDoorIsaC
import Derived.Lib.Hide
namespace Go.Proofs.YtbdlmafhcgndeaaDoor
open Go.RowKit
/-- is it a number of 64 bits? -/
def N64 (n : Int) : Prop := -9223372036854775808 ≤ n ∧ n ≤ 9223372036854775807
/-- a slice at A reads as these cells, all below block B -/
def RdG (w : World) (B : Nat) (A : Option Addr) (cs : List Value) : Prop :=
  cs ≠ [] → ∃ b o, A = some ⟨b, o, none⟩ ∧ b < B ∧ ∀ (j : Nat) (v : Value), cs[j]? = some v → w.cell? ⟨b, o + j, none⟩ = some v
theorem RdG.keep {w w' : World} {B : Nat} {A : Option Addr} {cs : List Value} (h : RdG w B A cs) (hk : ∀ b o, b < B → w'.cell? ⟨b, o, none⟩ = w.cell? ⟨b, o, none⟩) : RdG w' B A cs :=
  fun hn => by obtain ⟨b, o, e, hb, hc⟩ := h hn; exact ⟨b, o, e, hb, fun j v hv => (hk _ _ hb).trans (hc j v hv)⟩
theorem RdG.below {w w' : World} {B : Nat} {A : Option Addr} {cs : List Value} (h : RdG w B A cs) (hb : Below B w w') : RdG w' B A cs := h.keep fun _ _ hp => hb.cell hp
theorem RdG.more {w : World} {B B' : Nat} {A : Option Addr} {cs : List Value} (h : RdG w B A cs) (hB : B ≤ B') : RdG w B' A cs :=
  fun hn => by obtain ⟨b, o, e, hb, hc⟩ := h hn; exact ⟨b, o, e, by omega, hc⟩
theorem RdG.nil (w : World) (B : Nat) (A : Option Addr) : RdG w B A [] := fun h => absurd rfl h
theorem RdG.take {w : World} {B : Nat} {A : Option Addr} {cs : List Value} (h : RdG w B A cs) (n : Nat) : RdG w B A (cs.take n) := fun hn => by
  have hn' : cs ≠ [] := fun e => hn (by rw [e]; simp)
  obtain ⟨b, o, e, hb, hc⟩ := h hn'
  refine ⟨b, o, e, hb, fun j v hv => hc j v ?_⟩
  rw [List.getElem?_take] at hv
  split at hv
  · exact hv
  · cases hv
theorem RdG.at {w : World} {B : Nat} {A : Option Addr} {cs : List Value} (h : RdG w B A cs) {j : Nat} {v : Value} (hv : cs[j]? = some v) : ∃ b o, A = some ⟨b, o, none⟩ ∧ b < B ∧ w.cell? ⟨b, o + j, none⟩ = some v := by
  obtain ⟨b, o, e, hb, hc⟩ := h (by intro e; rw [e] at hv; simp at hv)
  exact ⟨b, o, e, hb, hc j v hv⟩
def intsV (k : IntKind) (L : List Int) : List Value := L.map (Value.int k)
theorem intsV_len (k : IntKind) (L : List Int) : (intsV k L).length = L.length := by simp [intsV]
theorem intsV_at (k : IntKind) {L : List Int} {j : Nat} {x : Int} (h : L[j]? = some x) : (intsV k L)[j]? = some (.int k x) := by simp [intsV, h]
/-- where the first one is of which p holds -/
def idxP {α : Type} (p : α → Bool) : List α → Int
  | [] => -1
  | x :: r => if p x then 0 else if idxP p r < 0 then -1 else idxP p r + 1
theorem idxP_ge {α : Type} (p : α → Bool) (L : List α) : -1 ≤ idxP p L := by
  induction L with
  | nil => exact Int.le_refl _
  | cons x r ih =>
    unfold idxP
    split
    · omega
    · split <;> omega
theorem idxP_any {α : Type} (p : α → Bool) (L : List α) : decide (0 ≤ idxP p L) = L.any p := by
  induction L with
  | nil => rfl
  | cons x r ih =>
    have := idxP_ge p r
    unfold idxP
    by_cases h : p x = true
    · simp [h]
    · rw [if_neg h]
      rw [Bool.not_eq_true] at h
      rw [List.any_cons, h, Bool.false_or, ← ih]
      split <;> simp <;> omega
theorem idxP_none {α : Type} (p : α → Bool) (L : List α) (h : ∀ x ∈ L, p x = false) : idxP p L = -1 := by
  induction L with
  | nil => rfl
  | cons x r ih =>
    unfold idxP
    rw [if_neg (by rw [h x (by simp)]; decide), ih fun y hy => h y (by simp [hy])]
    rfl
theorem idxP_at {α : Type} (p : α → Bool) (L : List α) (k : Nat) (x : α) (hx : L[k]? = some x) (hp : p x = true) (h : ∀ (j : Nat) (y : α), j < k → L[j]? = some y → p y = false) : idxP p L = k := by
  induction L generalizing k with
  | nil => simp at hx
  | cons z r ih =>
    cases k with
    | zero =>
      simp at hx
      subst hx
      unfold idxP
      rw [if_pos hp]
      rfl
    | succ k =>
      have h0 := h 0 z (by omega) rfl
      have := ih k (by simpa using hx) fun j y hj hy => h (j + 1) y (by omega) (by simpa using hy)
      unfold idxP
      rw [if_neg (by rw [h0]; decide), this, if_neg (by omega)]
      omega
end Go.Proofs.YtbdlmafhcgndeaaDoor
