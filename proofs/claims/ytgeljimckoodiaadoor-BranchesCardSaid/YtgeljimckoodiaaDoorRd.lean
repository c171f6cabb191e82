/- Plain words: the bytes of an instruction, the instruction of bytes. A slice of bytes, read. -/
import Derived.Test.YtgeljimckoodiaaDoorIsaE
namespace Go.Proofs.YtgeljimckoodiaaDoor
open Go.RowKit
def kindFrom (op : Int) : List Nat → Int × Bool
  | [] => (0, false)
  | k :: r => if 0 < k ∧ opT k = op then (k, false) else if 0 < k ∧ longT k ≠ 0 ∧ longT k = op then (k, true) else kindFrom op r
/-- the kind of an operator; 0: there is none -/
def kindOf (op : Int) : Int × Bool := kindFrom op (List.range 25)
def lastB (n : Int) (l : Bool) : List Int := if l then [n % 256, n / 256 % 256] else [n % 256]
/-- what stands behind an instruction's first byte, by its shape -/
def tailB (s d a b n : Int) (l : Bool) : List Int :=
  if s = 2 then [d, n % 256, n / 256 % 256] else if s = 3 then [d * 16 + a, n % 256] else if s = 4 then [d * 16 + a, b] else if s = 5 then [b * 16 + a, n % 256]
  else if s = 6 then [d] else if s = 7 then [a] else if s = 8 then (a * 16 + b) :: lastB n l else if s = 9 then lastB n l else if s = 10 then [n % 256, n / 256 % 256]
  else if s = 11 then [a, n % 256] else []
def opL (k : Int) (l : Bool) : Int := if l then longT k else opT k
def encB (k d a b n : Int) (l : Bool) : List Int := opL k l :: tailB (shapeT k) d a b n l
/-- the instruction that bytes behind the first one say -/
def insOf (k : Int) (l : Bool) (x y z : Int) : Ins :=
  let s := shapeT k
  if s = 2 then ⟨k, x, 0, 0, num2 y z, l⟩ else if s = 3 then ⟨k, x / 16, x % 16, 0, num1 y, l⟩ else if s = 4 then ⟨k, x / 16, x % 16, y, 0, l⟩
  else if s = 5 then ⟨k, 0, x % 16, x / 16, num1 y, l⟩ else if s = 6 then ⟨k, x, 0, 0, 0, l⟩ else if s = 7 then ⟨k, 0, x, 0, 0, l⟩
  else if s = 8 then ⟨k, 0, x / 16, x % 16, (if l then num2 y z else num1 y), l⟩ else if s = 9 then ⟨k, 0, 0, 0, (if l then num2 x y else num1 x), l⟩
  else if s = 10 then ⟨k, 0, 0, 0, num2 x y, l⟩ else if s = 11 then ⟨k, 0, x, 0, y, l⟩ else ⟨k, 0, 0, 0, 0, l⟩
/-- what isa.Decode answers -/
def decB (L : List Int) (at_ : Int) : Ins × Int × Int :=
  if at_ < 0 ∨ (L.length : Int) ≤ at_ then (Ins.zero, 0, 2)
  else
    let q := kindOf (L.getD at_.toNat 0)
    if q.1 = 0 then (Ins.zero, 0, 3)
    else if (L.length : Int) < at_ + sizeK q.1 q.2 then (Ins.zero, 0, 5)
    else
      let i := insOf q.1 q.2 (L.getD (at_.toNat + 1) 0) (L.getD (at_.toNat + 2) 0) (L.getD (at_.toNat + 3) 0)
      if i.chk = 0 then (i, sizeK q.1 q.2, 0) else (Ins.zero, 0, 4)
theorem insOf_kl (k : Int) (l : Bool) (x y z : Int) : (insOf k l x y z).k = k ∧ (insOf k l x y z).l = l := by
  simp only [insOf]
  repeat' split
  all_goals exact ⟨rfl, rfl⟩
end Go.Proofs.YtgeljimckoodiaaDoor
namespace Go.Proofs.YtgeljimckoodiaaDoor
open Go.RowKit
/-- a slice at A reads as these bytes, all below block B -/
def RdB (w : World) (B : Nat) (A : Option Addr) (L : List Int) : Prop :=
  (∀ x ∈ L, 0 ≤ x ∧ x < 256) ∧ (L ≠ [] → ∃ b o, A = some ⟨b, o, none⟩ ∧ b < B ∧ ∀ j x, L[j]? = some x → w.cell? ⟨b, o + j, none⟩ = some (.int .u8 x))
theorem RdB.keep {w w' : World} {B : Nat} {A : Option Addr} {L : List Int} (h : RdB w B A L) (hk : ∀ b o, b < B → w'.cell? ⟨b, o, none⟩ = w.cell? ⟨b, o, none⟩) : RdB w' B A L :=
  ⟨h.1, fun hn => by obtain ⟨b, o, e, hb, hc⟩ := h.2 hn; exact ⟨b, o, e, hb, fun j x hx => (hk _ _ hb).trans (hc j x hx)⟩⟩
theorem RdB.below {w w' : World} {B : Nat} {A : Option Addr} {L : List Int} (h : RdB w B A L) (hb : Below B w w') : RdB w' B A L := h.keep fun _ _ hp => hb.cell hp
theorem RdB.more {w : World} {B B' : Nat} {A : Option Addr} {L : List Int} (h : RdB w B A L) (hB : B ≤ B') : RdB w B' A L :=
  ⟨h.1, fun hn => by obtain ⟨b, o, e, hb, hc⟩ := h.2 hn; exact ⟨b, o, e, by omega, hc⟩⟩
theorem below_drewN {B : Nat} {a w : World} (h : Below B a w) (n : Nat) : Below B a (w.drewN n) := ⟨h.os, h.tape, h.output, h.size, h.block⟩
theorem RdB.nil (w : World) (B : Nat) (A : Option Addr) : RdB w B A [] := ⟨by simp, fun h => absurd rfl h⟩
/-- the answer, once the bytes are there -/
def decAns (I : Ins) (n : Int) : Value := if I.chk = 0 then .tuple #[.agg I.cells, .int .i64 n, .int .i64 0] else .tuple #[.agg Ins.zero.cells, .int .i64 0, .int .i64 4]
end Go.Proofs.YtgeljimckoodiaaDoor
