/- slices.Equal of edges that are the same; what TallyBack makes of raw things. -/
import Derived.Test.YtcdlgjhdbmmomaaGreatDoorTlR
import Derived.Test.YtcdlgjhdbmmomaaGreatDoorTlW
import Derived.WalkLawsBesides
import Derived.Deep.QuietTactic
import Derived.BigQuiet
namespace Go.Proofs.YtcdlgjhdbmmomaaGreatDoor
open Go.RowKit
theorem raw_at {w : World} {B : Nat} {A : Option Addr} {L : List RawI} (h : RdR w B A L) {j : Nat} {r : RawI} (hr : L[j]? = some r) : ∃ b o, A = some ⟨b, o, none⟩ ∧ b < B ∧ w.cell? ⟨b, o + j * 4 + 1, none⟩ = some (.int .i64 r.a) ∧ w.cell? ⟨b, o + j * 4 + 2, none⟩ = some (.int .i64 r.b) ∧ w.cell? ⟨b, o + j * 4 + 3, none⟩ = some (.int .i64 r.c) := by
 obtain ⟨b, o, e, hb, hc⟩ := h.2 (by intro e; rw [e] at hr; simp at hr); exact ⟨b, o, e, hb, (hc j r hr).2⟩
theorem fmt_bytes (S I1 I2 I3 : ByteArray) (e : EdgE) (h1 : I1.data.toList = Lib.itoa e.a) (h2 : I2.data.toList = Lib.itoa e.b) (h3 : I3.data.toList = Lib.itoa e.c) : (S ++ (I1 ++ ⟨#[32]⟩ ++ I2 ++ ⟨#[32]⟩ ++ I3 ++ ⟨#[10]⟩)).data.toList = S.data.toList ++ fmtE e := by
 unfold fmtE; rw [← h1, ← h2, ← h3]; simp [ByteArray.data_append]
theorem itoa_le {n : Int} (h : 0 ≤ n ∧ n ≤ 1073741824) : (Lib.itoa n).length ≤ 10 := by
 have h1 := (fmt_len [⟨n, n, n⟩] (fun e he => by rw [List.mem_singleton.1 he]; exact ⟨h, h, h⟩)).1; have e1 : ([⟨n, n, n⟩] : List EdgE).flatMap fmtE = fmtE ⟨n, n, n⟩ := by simp
 rw [e1] at h1; unfold fmtE at h1; simp only [List.length_append, List.length_cons, List.length_nil] at h1; omega
end Go.Proofs.YtcdlgjhdbmmomaaGreatDoor
