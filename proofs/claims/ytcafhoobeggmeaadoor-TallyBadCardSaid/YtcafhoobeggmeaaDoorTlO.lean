/- The odd lines of TallyBad are refused. -/
import Derived.Test.YtcafhoobeggmeaaDoorTlD
namespace Go.Proofs.YtcafhoobeggmeaaDoor
open Go.RowKit
def oddW (k : Nat) : Int := if k = 0 ∨ k = 9 then 5 else 4
theorem numE_bad {l : List UInt8} (h : notNum (Lib.atoiAll l) = true) : numE l = none := numE_not h
theorem numE_out {l : List UInt8} {v : Int} (h : Lib.atoiAll l = .ok v) (hb : ¬ (0 ≤ v ∧ v ≤ 1073741824)) : numE l = none := by
  unfold numE
  rw [h]
  simp only
  rw [if_neg (fun h2 => hb h2.2)]
theorem numE_form {l : List UInt8} {v : Int} (h : Lib.atoiAll l = .ok v) (hb : Lib.itoa v ≠ l) : numE l = none := by
  unfold numE
  rw [h]
  simp only
  rw [if_neg (fun h2 => hb h2.1)]
theorem lineT_of {l : List UInt8} {P : List (List UInt8)} (h : Lib.split l [32] = P) (hn : P.length ≠ 3) : lineT l = none := by
  unfold lineT
  rw [h]
  rcases P with _ | ⟨x, _ | ⟨y, _ | ⟨z, _ | ⟨u, r⟩⟩⟩⟩
  · rfl
  · rfl
  · rfl
  · exact absurd rfl hn
  · rfl
theorem lineT_a {l x y z : List UInt8} (h : Lib.split l [32] = [x, y, z]) (hx : numE x = none) : lineT l = none := by
  unfold lineT
  rw [h]
  simp only
  rw [hx]
  rfl
theorem lineT_c {l x y z : List UInt8} (h : Lib.split l [32] = [x, y, z]) (hz : numE z = none) : lineT l = none := by
  unfold lineT
  rw [h]
  simp only
  rw [hz]
  cases numE x <;> cases numE y <;> rfl
theorem odd_form {l t r : List UInt8} (k : Nat) (h : Lib.cut t [10] = (l, r, true)) (hne : t ≠ []) (hl : lineT l = none) : readG (k + 1) t = .inl 4 := by
  rw [readG_succ, if_neg hne, h]
  simp only [hl]
  simp
theorem odd_short {l r : List UInt8} {t : List UInt8} (k : Nat) (h : Lib.cut t [10] = (l, r, false)) (hne : t ≠ []) : readG (k + 1) t = .inl 5 := by
  rw [readG_succ, if_neg hne, h]
  rfl
theorem odd_read (k j : Nat) (hj : j < 10) : readG (k + 1) ((oddT.getD j ⟨#[]⟩).data.toList) = .inl (oddW j) := by
  have h : j = 0 ∨ j = 1 ∨ j = 2 ∨ j = 3 ∨ j = 4 ∨ j = 5 ∨ j = 6 ∨ j = 7 ∨ j = 8 ∨ j = 9 := by omega
  rcases h with rfl | rfl | rfl | rfl | rfl | rfl | rfl | rfl | rfl | rfl
  · exact odd_short (l := [49, 32, 50]) (r := []) k (by decide) (by decide)
  · exact odd_form (l := [49, 32, 50]) (r := []) k (by decide) (by decide) (lineT_of (P := [[49], [50]]) (by decide) (by decide))
  · exact odd_form (l := [49, 32, 50, 32, 51, 32, 52]) (r := []) k (by decide) (by decide) (lineT_of (P := [[49], [50], [51], [52]]) (by decide) (by decide))
  · exact odd_form (l := [97, 32, 50, 32, 51]) (r := []) k (by decide) (by decide) (lineT_a (x := [97]) (y := [50]) (z := [51]) (by decide) (numE_bad (by decide)))
  · exact odd_form (l := [48, 49, 32, 50, 32, 51]) (r := []) k (by decide) (by decide) (lineT_a (x := [48, 49]) (y := [50]) (z := [51]) (by decide) (numE_form (v := 1) (by decide) (by
      rw [show Lib.itoa 1 = Lib.decDigits 1 from rfl, Lib.decDigits_one (by decide)]
      decide)))
  · exact odd_form (l := [49, 32, 32, 50, 32, 51]) (r := []) k (by decide) (by decide) (lineT_of (P := [[49], [], [50], [51]]) (by decide) (by decide))
  · exact odd_form (l := [45, 49, 32, 50, 32, 51]) (r := []) k (by decide) (by decide) (lineT_a (x := [45, 49]) (y := [50]) (z := [51]) (by decide) (numE_out (v := -1) (by decide) (by decide)))
  · exact odd_form (l := [49, 32, 50, 32, 49, 48, 55, 51, 55, 52, 49, 56, 50, 53]) (r := []) k (by decide) (by decide) (lineT_c (x := [49]) (y := [50]) (z := [49, 48, 55, 51, 55, 52, 49, 56, 50, 53]) (by decide) (numE_out (v := 1073741825) (by decide) (by decide)))
  · exact odd_form (l := []) (r := []) k (by decide) (by decide) (lineT_of (P := [[]]) (by decide) (by decide))
  · exact odd_short (l := [49, 32, 50, 32, 51]) (r := []) k (by decide) (by decide)
theorem readE_odd (es : List EdgE) (h : ∀ e ∈ es, EdgOk e) (hn : es.length ≤ 60) (j : Nat) (hj : j < 10) : readE (es.flatMap fmtE ++ (oddT.getD j ⟨#[]⟩).data.toList) = .inl (oddW j) := by
  obtain ⟨h1, h2⟩ := fmt_len es h
  have h3 : ((oddT.getD j ⟨#[]⟩).data.toList).length ≤ 15 := by
    have h : j = 0 ∨ j = 1 ∨ j = 2 ∨ j = 3 ∨ j = 4 ∨ j = 5 ∨ j = 6 ∨ j = 7 ∨ j = 8 ∨ j = 9 := by omega
    rcases h with rfl | rfl | rfl | rfl | rfl | rfl | rfl | rfl | rfl | rfl <;> decide
  have hl : (es.flatMap fmtE ++ (oddT.getD j ⟨#[]⟩).data.toList).length ≤ 4000 ∧ es.length ≤ (es.flatMap fmtE ++ (oddT.getD j ⟨#[]⟩).data.toList).length := by
    rw [List.length_append]
    omega
  obtain ⟨q, hq⟩ : ∃ q, (es.flatMap fmtE ++ (oddT.getD j ⟨#[]⟩).data.toList).length = q := ⟨_, rfl⟩
  rw [hq] at hl
  have hr := readG_fmt es (q + 1) ((oddT.getD j ⟨#[]⟩).data.toList) h (by omega)
  unfold readE
  rw [hq, if_neg (by omega), hr, show q + 1 - es.length = (q - es.length) + 1 by omega, odd_read _ j hj]
  rfl
theorem RdR.take {w : World} {B : Nat} {A : Option Addr} {L : List RawI} (h : RdR w B A L) (k : Nat) : RdR w B A (L.take k) := by
  refine ⟨fun r hr => h.1 r (List.mem_of_mem_take hr), fun hn => ?_⟩
  obtain ⟨b, o, e, hb, hc⟩ := h.2 (fun e => hn (by rw [e]; simp))
  refine ⟨b, o, e, hb, fun j r hj => hc j r ?_⟩
  rw [List.getElem?_take] at hj
  split at hj
  · exact hj
  · cases hj
end Go.Proofs.YtcafhoobeggmeaaDoor
