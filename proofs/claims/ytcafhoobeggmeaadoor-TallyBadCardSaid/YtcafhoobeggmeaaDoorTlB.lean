/- slices.Equal of edges that are the same; what TallyBack makes of raw things. -/
import Derived.Test.YtcafhoobeggmeaaDoorTlR
import Derived.Test.YtcafhoobeggmeaaDoorTlW
import Derived.WalkLawsBesides
import Derived.Deep.QuietTactic
import Derived.BigQuiet
namespace Go.Proofs.YtcafhoobeggmeaaDoor
open Go.RowKit
theorem edL_at : ∀ (L : List EdgE) (k : Nat) (e : EdgE), L[k]? = some e → (edL L)[k * 3]? = some (.int .i64 e.a) ∧ (edL L)[k * 3 + 1]? = some (.int .i64 e.b) ∧ (edL L)[k * 3 + 2]? = some (.int .i64 e.c)
  | [], k, e, h => by simp at h
  | x :: r, 0, e, h => by
    simp only [List.getElem?_cons_zero, Option.some.injEq] at h
    subst h
    exact ⟨rfl, rfl, rfl⟩
  | x :: r, k + 1, e, h => by
    obtain ⟨h1, h2, h3⟩ := edL_at r k e (by simpa using h)
    have e0 : edL (x :: r) = edC x ++ edL r := rfl
    have gen : ∀ q, (edL (x :: r))[(k + 1) * 3 + q]? = (edL r)[k * 3 + q]? := fun q => by
      rw [e0, List.getElem?_append_right (by show 3 ≤ _; omega)]
      congr 1
      show (k + 1) * 3 + q - 3 = _
      omega
    exact ⟨(gen 0).trans h1, (gen 1).trans h2, (gen 2).trans h3⟩
theorem ed_at3 {w : World} {B : Nat} {A : Option Addr} {L : List EdgE} (h : RdG w B A (edL L)) {k : Nat} {e : EdgE} (hx : L[k]? = some e) : ∃ b o, A = some ⟨b, o, none⟩ ∧ b < B ∧ w.cell? ⟨b, o + k * 3, none⟩ = some (.int .i64 e.a) ∧ w.cell? ⟨b, o + k * 3 + 1, none⟩ = some (.int .i64 e.b) ∧ w.cell? ⟨b, o + k * 3 + 2, none⟩ = some (.int .i64 e.c) := by
  obtain ⟨g0, g1, g2⟩ := edL_at L k e hx
  obtain ⟨b, o, e1, hb, hc⟩ := h (by intro e1; rw [e1] at g0; simp at g0)
  exact ⟨b, o, e1, hb, hc _ _ g0, by rw [Nat.add_assoc]; exact hc _ _ g1, by rw [Nat.add_assoc]; exact hc _ _ g2⟩
set_option maxHeartbeats 1000000 in
set_option maxRecDepth 100000 in
theorem eqEdg_same (L : List EdgE) (A B : Option Addr) (n c d : Nat) (w : World) (hA : RdG w w.heap.size A (edL L)) (hB : RdG w w.heap.size B (edL L)) (hn : L.length = n) (hnl : n ≤ 140737488355328) :
    Calls Tryd.prog 12 #[.slice A n c, .slice B n d] w fun e w' => e = .returned (.bool true) ∧ ∃ q, w' = w.drewN q := by
  have HA := Lib.hid hA
  have HB := Lib.hid hB
  have HN := Lib.hid hn
  clear hA hB hn
  go_enter Tryd.func12, Tryd.ntmps12
  go_wp2
  go_loopw [13] (fun i wr => ∃ k : Nat, k ≤ n ∧ i = .int .i64 k ∧ ∃ q, wr = w.drewN q) (fun i _ => n - (intOf i).toNat)
  case atStart => exact ⟨0, Nat.zero_le _, rfl, 0, rfl⟩
  case round =>
    obtain ⟨k, hk, rfl, q, rfl⟩ := hrel
    by_cases hlt : k < n
    · have hx : L[k]? = some (L[k]'(by have := HN.out; omega)) := List.getElem?_eq_getElem _
      generalize L[k]'(by have := HN.out; omega) = x at hx
      obtain ⟨xa, xb, xc⟩ := x
      obtain ⟨b1, o1, hA1, hb1, c0, c1, c2⟩ := ed_at3 HA.out hx
      obtain ⟨b2, o2, hA2, hb2, e0, e1, e2⟩ := ed_at3 HB.out hx
      simp only at c0 c1 c2 e0 e1 e2
      subst hA1 hA2
      clear hx
      go_wp2
      go_quiet (fail)
      go_wp2
      go_roundw
      case rel => exact ⟨k + 1, by omega, by go_num, _, rfl⟩
      case measure => simp [intOf]; omega
    · obtain rfl : n = k := by omega
      go_wp2
      go_ret
      exact ⟨by rfl, _, rfl⟩
def mkE (r : RawI) : EdgE := ⟨pickL r.a 3000, pickL r.b 3000, pickL r.c 100000⟩
theorem mkE_ok (r : RawI) : EdgOk (mkE r) := by
  have h1 := pickL_bd r.a 3000 (by decide)
  have h2 := pickL_bd r.b 3000 (by decide)
  have h3 := pickL_bd r.c 100000 (by decide)
  exact ⟨⟨h1.1, by show pickL r.a 3000 ≤ _; omega⟩, ⟨h2.1, by show pickL r.b 3000 ≤ _; omega⟩, ⟨h3.1, by show pickL r.c 100000 ≤ _; omega⟩⟩
theorem raw_at {w : World} {B : Nat} {A : Option Addr} {L : List RawI} (h : RdR w B A L) {j : Nat} {r : RawI} (hr : L[j]? = some r) : ∃ b o, A = some ⟨b, o, none⟩ ∧ b < B ∧ w.cell? ⟨b, o + j * 4 + 1, none⟩ = some (.int .i64 r.a) ∧ w.cell? ⟨b, o + j * 4 + 2, none⟩ = some (.int .i64 r.b) ∧ w.cell? ⟨b, o + j * 4 + 3, none⟩ = some (.int .i64 r.c) := by
  obtain ⟨b, o, e, hb, hc⟩ := h.2 (by intro e; rw [e] at hr; simp at hr)
  exact ⟨b, o, e, hb, (hc j r hr).2⟩
theorem fmt_bytes (S I1 I2 I3 : ByteArray) (e : EdgE) (h1 : I1.data.toList = Lib.itoa e.a) (h2 : I2.data.toList = Lib.itoa e.b) (h3 : I3.data.toList = Lib.itoa e.c) : (S ++ (I1 ++ ⟨#[32]⟩ ++ I2 ++ ⟨#[32]⟩ ++ I3 ++ ⟨#[10]⟩)).data.toList = S.data.toList ++ fmtE e := by
  unfold fmtE
  rw [← h1, ← h2, ← h3]
  simp [ByteArray.data_append]
theorem itoa_le {n : Int} (h : 0 ≤ n ∧ n ≤ 1073741824) : (Lib.itoa n).length ≤ 10 := by
  have h1 := (fmt_len [⟨n, n, n⟩] (fun e he => by rw [List.mem_singleton.1 he]; exact ⟨h, h, h⟩)).1
  have e1 : ([⟨n, n, n⟩] : List EdgE).flatMap fmtE = fmtE ⟨n, n, n⟩ := by simp
  rw [e1] at h1
  unfold fmtE at h1
  simp only [List.length_append, List.length_cons, List.length_nil] at h1
  omega
theorem own_rd3 {w : World} {base : Nat} {e : TypeId} {size n c : Nat} {A : Option Addr} {xs : List Value} (h : w.ownsRow base e size (.slice A n c) n xs) : RdG w w.heap.size A xs := by
  intro hn
  rcases h.2 with ⟨e1, -⟩ | ⟨g, cap, cur, e1, -⟩
  · injection e1 with _ e2 _
    exfalso
    apply hn
    apply List.eq_nil_of_length_eq_zero
    rw [h.1, e2, Nat.zero_mul]
  · injection e1 with e2 _ _
    subst e2
    obtain ⟨o1, o2, o3, o4⟩ := own_at h
    exact ⟨g, 0, rfl, o3, fun j u hu => by rw [Nat.zero_add]; exact o4 j u hu⟩
end Go.Proofs.YtcafhoobeggmeaaDoor
