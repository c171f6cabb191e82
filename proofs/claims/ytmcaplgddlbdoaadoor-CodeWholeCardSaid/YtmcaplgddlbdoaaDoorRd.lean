/- A slice of bytes, read. -/
import Derived.Test.YtmcaplgddlbdoaaDoorEnc
namespace Go.Proofs.YtmcaplgddlbdoaaDoor
open Go.RowKit
/-- a slice at A reads as these bytes, all below block B -/
def RdB (w : World) (B : Nat) (A : Option Addr) (L : List Int) : Prop :=
  (∀ x ∈ L, 0 ≤ x ∧ x < 256) ∧ (L ≠ [] → ∃ b o, A = some ⟨b, o, none⟩ ∧ b < B ∧ ∀ j x, L[j]? = some x → w.cell? ⟨b, o + j, none⟩ = some (.int .u8 x))
theorem RdB.keep {w w' : World} {B : Nat} {A : Option Addr} {L : List Int} (h : RdB w B A L) (hk : ∀ b o, b < B → w'.cell? ⟨b, o, none⟩ = w.cell? ⟨b, o, none⟩) : RdB w' B A L :=
  ⟨h.1, fun hn => by obtain ⟨b, o, e, hb, hc⟩ := h.2 hn; exact ⟨b, o, e, hb, fun j x hx => (hk _ _ hb).trans (hc j x hx)⟩⟩
theorem RdB.below {w w' : World} {B : Nat} {A : Option Addr} {L : List Int} (h : RdB w B A L) (hb : Below B w w') : RdB w' B A L := h.keep fun _ _ hp => hb.cell hp
theorem RdB.more {w : World} {B B' : Nat} {A : Option Addr} {L : List Int} (h : RdB w B A L) (hB : B ≤ B') : RdB w B' A L :=
  ⟨h.1, fun hn => by obtain ⟨b, o, e, hb, hc⟩ := h.2 hn; exact ⟨b, o, e, by omega, hc⟩⟩
theorem below_drewN {B : Nat} {a w : World} (h : Below B a w) (n : Nat) : Below B a (w.drewN n) := ⟨h.os, h.tape, h.output, h.size, h.block⟩
theorem RdB.nil (w : World) (B : Nat) (A : Option Addr) : RdB w B A [] := ⟨by simp, fun h => absurd rfl h⟩
/-- the answer, once the bytes are there -/
def decAns (I : Ins) (n : Int) : Value := if I.chk = 0 then .tuple #[.agg I.cells, .int .i64 n, .int .i64 0] else .tuple #[.agg Ins.zero.cells, .int .i64 0, .int .i64 4]
end Go.Proofs.YtmcaplgddlbdoaaDoor
