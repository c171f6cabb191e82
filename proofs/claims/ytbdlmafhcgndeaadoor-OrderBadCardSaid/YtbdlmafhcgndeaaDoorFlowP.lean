/- flow: what a function's sweep finds. -/
import Derived.Test.YtbdlmafhcgndeaaDoorIsaJ
import Derived.Test.YtbdlmafhcgndeaaDoorImgE
namespace Go.Proofs.YtbdlmafhcgndeaaDoor
open Go.RowKit
theorem rdg_bytes {w : World} {B : Nat} {A : Option Addr} {L : List Int} (h : RdG w B A (intsV .u8 L)) (hb : ∀ x ∈ L, 0 ≤ x ∧ x < 256) : RdB w B A L := by
  refine ⟨hb, fun hn => ?_⟩
  obtain ⟨b, o, e, hbb, hc⟩ := h (fun e => hn (List.map_eq_nil_iff.1 e))
  exact ⟨b, o, e, hbb, fun j x hx => hc j _ (intsV_at .u8 hx)⟩
theorem own_ptr {w : World} {base size n c : Nat} {e : TypeId} {A : Option Addr} {xs : List Value} (h : w.ownsRow base e size (.slice A n c) n xs) (hn : n ≠ 0) : ∃ g, A = some ⟨g, 0, none⟩ := by
  rcases h.2 with ⟨e, _⟩ | ⟨g, cap, cur, hv, _⟩
  · injection e with _ e2
    exact absurd e2 hn
  · injection hv with e1
    exact ⟨g, e1⟩
/-- an instruction of a function: where it stands, its size -/
structure Sp where
  p : Int
  z : Int
  i : Ins
def stopsI (i : Ins) : Bool := decide (i.k ≤ 3) || i.k == 24
def branchI (i : Ins) : Bool := decide (18 ≤ i.k) && decide (i.k ≤ 21)
theorem decB_ok {L : List Int} {p : Int} (h : (decB L p).2.2 = 0) : (decB L p).1.chk = 0 ∧ (decB L p).2.1 = sizeK (decB L p).1.k (decB L p).1.l ∧ 0 ≤ p ∧ p + (decB L p).2.1 ≤ L.length := by
  unfold decB at h ⊢
  split at h
  · cases h
  · rename_i h1
    rw [if_neg h1]
    simp only at h ⊢
    split at h
    · cases h
    · rename_i h2
      rw [if_neg h2]
      split at h
      · cases h
      · rename_i h3
        rw [if_neg h3]
        split at h
        · rename_i h4
          rw [if_pos h4]
          obtain ⟨e1, e2⟩ := insOf_kl (kindOf (L.getD p.toNat 0)).1 (kindOf (L.getD p.toNat 0)).2 (L.getD (p.toNat + 1) 0) (L.getD (p.toNat + 2) 0) (L.getD (p.toNat + 3) 0)
          exact ⟨h4, by rw [e1, e2], by omega, by simp only; omega⟩
        · cases h
theorem decB_sz {L : List Int} {p : Int} (h : (decB L p).2.2 = 0) : 1 ≤ (decB L p).2.1 ∧ (decB L p).2.1 ≤ 4 := by
  obtain ⟨h1, h2, -⟩ := decB_ok h
  rw [h2]
  exact sizeK_bd h1
/-- what can be followed from p on, to the end en -/
def sweepGo (text : List Int) (en : Int) : Nat → Int → Option (List Sp)
  | 0, _ => some []
  | d + 1, p => if p < en then (if (decB text p).2.2 ≠ 0 ∨ en < p + (decB text p).2.1 then none else (sweepGo text en d (p + (decB text p).2.1)).map (⟨p, (decB text p).2.1, (decB text p).1⟩ :: ·)) else some []
def lastOk (l : List Sp) : Bool := match l.getLast? with | none => false | some s => stopsI s.i || s.i.k == 22
def sweepL (text : List Int) (f : FnD) : Option (List Sp) :=
  match sweepGo text (f.start + f.size) f.size.toNat f.start with
  | none => none
  | some l => if lastOk l then some l else none
/-- how it lies in memory -/
def spC (s : Sp) : List Value := [.int .i64 s.p, .int .i64 s.z, .int .i64 s.i.k, .int .i64 s.i.d, .int .i64 s.i.a, .int .i64 s.i.b, .int .i64 s.i.n, .bool s.i.l]
def spsV (l : List Sp) : List Value := l.flatMap spC
theorem spsV_len (l : List Sp) : (spsV l).length = l.length * 8 := flat_len spC 8 (fun _ => rfl) l
theorem spsV_at {l : List Sp} {j : Nat} {s : Sp} (h : l[j]? = some s) (q : Nat) (v : Value) (hv : (spC s)[q]? = some v) : (spsV l)[j * 8 + q]? = some v := by
  have hq : q < 8 := by
    have := (List.getElem?_eq_some_iff.1 hv).1
    simpa [spC] using this
  exact flat_at spC 8 (fun _ => rfl) l j s h q v hq hv
theorem spsV_snoc (l : List Sp) (s : Sp) : spsV (l ++ [s]) = spsV l ++ spC s := by simp [spsV]
theorem sweepGo_end (text : List Int) (en : Int) (d : Nat) (p : Int) (h : en ≤ p) : sweepGo text en d p = some [] := by
  cases d with
  | zero => rfl
  | succ d => simp only [sweepGo]; rw [if_neg (by omega)]
theorem sweepGo_succ (text : List Int) (en : Int) : ∀ (d : Nat) (p : Int), en - p ≤ d → sweepGo text en (d + 1) p = sweepGo text en d p := by
  intro d
  induction d with
  | zero => intro p h; rw [sweepGo_end _ _ _ _ (by omega), sweepGo_end _ _ _ _ (by omega)]
  | succ d ih =>
    intro p h
    rw [sweepGo]
    conv => rhs; rw [sweepGo]
    split
    · split
      · rfl
      · rename_i hc
        have he : (decB text p).2.2 = 0 := by
          rcases Classical.em ((decB text p).2.2 = 0) with e | e
          · exact e
          · exact absurd (.inl e) hc
        have hz := decB_sz he
        rw [ih _ (by omega)]
    · rfl
theorem sweepGo_fuel (text : List Int) (en p : Int) : ∀ d : Nat, (en - p).toNat ≤ d → sweepGo text en d p = sweepGo text en (en - p).toNat p := by
  intro d h
  obtain ⟨k, rfl⟩ : ∃ k, d = (en - p).toNat + k := ⟨d - (en - p).toNat, by omega⟩
  clear h
  induction k with
  | zero => rfl
  | succ k ih => rw [← Nat.add_assoc, sweepGo_succ _ _ _ _ (by omega), ih]
/-- what it finds: one behind the other, all of it code -/
theorem sweepGo_ok (text : List Int) (en : Int) : ∀ (d : Nat) (p : Int) (l : List Sp), sweepGo text en d p = some l → (en - p ≤ d) →
    ∀ (j : Nat) (s : Sp), l[j]? = some s → p ≤ s.p ∧ s.p + s.z ≤ en ∧ decB text s.p = (s.i, s.z, 0) := by
  intro d
  induction d with
  | zero => intro p l h _ j s hs; simp only [sweepGo, Option.some.injEq] at h; subst h; simp at hs
  | succ d ih =>
    intro p l h hd j s hs
    simp only [sweepGo] at h
    split at h
    · split at h
      · cases h
      · rename_i hc
        have he : (decB text p).2.2 = 0 := by
          rcases Classical.em ((decB text p).2.2 = 0) with e | e
          · exact e
          · exact absurd (.inl e) hc
        have hz := decB_sz he
        have hen : p + (decB text p).2.1 ≤ en := by
          rcases Classical.em (en < p + (decB text p).2.1) with e | e
          · exact absurd (.inr e) hc
          · omega
        obtain ⟨r, hr, rfl⟩ := Option.map_eq_some_iff.1 h
        cases j with
        | zero =>
          simp only [List.getElem?_cons_zero, Option.some.injEq] at hs
          subst hs
          exact ⟨Int.le_refl _, hen, by rw [← he]⟩
        | succ j =>
          simp only [List.getElem?_cons_succ] at hs
          have := ih _ r hr (by omega) j s hs
          exact ⟨by omega, this.2⟩
    · simp only [Option.some.injEq] at h
      subst h
      simp at hs
end Go.Proofs.YtbdlmafhcgndeaaDoor
