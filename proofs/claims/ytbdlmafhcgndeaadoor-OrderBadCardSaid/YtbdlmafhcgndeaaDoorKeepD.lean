/- The keep's out and li; slices.Clone at instructions. The keep's alone, walked. -/
import Derived.Test.YtbdlmafhcgndeaaDoorStepJ
import Derived.Test.YtbdlmafhcgndeaaDoorApp
import Derived.Lib.LazyBuf
namespace Go.Proofs.YtbdlmafhcgndeaaDoor
open Go.RowKit
/-- instructions in a row -/
def insC (i : Ins) : List Value := [.int .i64 i.k, .int .i64 i.d, .int .i64 i.a, .int .i64 i.b, .int .i64 i.n, .bool i.l]
def insR (L : List Ins) : List Value := L.flatMap insC
theorem insR_len (L : List Ins) : (insR L).length = L.length * 6 := flat_len insC 6 (fun _ => rfl) L
theorem insR_one (L : List Ins) : ∀ u ∈ insR L, u.oneCell' = true := by
  intro u hu
  simp only [insR, List.mem_flatMap] at hu
  obtain ⟨i, _, hi⟩ := hu
  simp only [insC, List.mem_cons, List.not_mem_nil, or_false] at hi
  rcases hi with h | h | h | h | h | h <;> (rw [h]; rfl)
theorem addr_addO (b o j : Nat) : ((⟨b, o, none⟩ : Addr).add j) = ⟨b, o + j, none⟩ := by unfold Addr.add; split <;> simp_all
theorem app_insL_lies {w : World} {ops : Array Oper} {rest : List Oper} {o : Oper} {a : Act} {Q : Exit → Act → World → Prop} (hgd : o.guard = none) (s x : Operand)
    (ho : o.op = .call { callee := .builtin .append, args := #[s, x], argTypes := #[38, 38] }) (base : Nat) (v : Value) (n : Nat) (L0 L : List Ins) (hs : a.eval s = v) (hown : w.ownsRow base 40 6 v n (insR L0))
    (g og m c : Nat) (hx : a.eval x = .slice (some ⟨g, og, none⟩) m c) (hm : L.length = m) (hm0 : 0 < m) (hc : ∀ j u, (insR L)[j]? = some u → w.cell? ⟨g, og + j, none⟩ = some u) (hn : n + m ≤ 1000000000000) (hbase : base ≤ w.heap.size)
    (h : ∀ g' cap' w', w'.ownsRow base 40 6 (.slice (some ⟨g', 0, none⟩) (n + m) cap') (n + m) (insR (L0 ++ L)) → w.grownBy w' v.ownBlock → (v.ownBlock = some g' ∨ g' = w.heap.size) → g' < w'.heap.size → wpList Tryd.prog ops Q rest (a.put o.dst (.slice (some ⟨g', 0, none⟩) (n + m) cap')) w') : wpList Tryd.prog ops Q (o :: rest) a w := by
  obtain ⟨i0, hi, hz0, hz1, hz2⟩ := info_parts infoI
  refine wpList_append_lies w hgd s x 38 ho base 40 i0 _ 6 48 Tryd.underlying38 hi hz0 hz1 hz2 rfl (by decide) v _ _ hs hown ⟨g, og, none⟩ m c (insR L) hx (by rw [insR_len, hm]) ?_ (insR_one L) hm0 (by unfold maxLen; omega) (by omega) hbase _ rfl (fun g' cap' w' h1 => h g' cap' w' ?_)
  · intro j u hu
    rw [addr_addO]
    exact hc j u hu
  · have e : insR (L0 ++ L) = insR L0 ++ insR L := by simp [insR]
    rw [e]
    exact h1
end Go.Proofs.YtbdlmafhcgndeaaDoor
namespace Go.Proofs.YtbdlmafhcgndeaaDoor
open Go.RowKit
def haltI : Ins := ⟨1, 0, 0, 0, 0, false⟩
/-- the bytes of instructions -/
def encAll (L : List Ins) : List Int := L.flatMap Ins.enc
def aloneM (L : List Ins) : Img := ⟨encAll (L ++ [haltI]), [⟨⟨#[102]⟩, 0, (encAll (L ++ [haltI])).length⟩], [], [5, -3, 0, 7, 1, 2], [], 0⟩
/-- the image's cells, the text so far -/
def imgC (D : Nat) (tA : Option Addr) (n c : Nat) : List Value := [.slice tA n c, .slice none 0 0, .slice none 0 0, .slice (some ⟨D, 0, none⟩) 6 6, .slice none 0 0, .int .i64 0]
def AlonePost (w : World) (L : List Ins) (e : Ending) (w' : World) : Prop :=
  Below w.heap.size w w' ∧ ∃ v : ImgV, e = .returned (.tuple #[.agg ((aloneM L).val v), .bool true]) ∧ ImgRd w' w'.heap.size (aloneM L) v ∧ ImgOk (aloneM L) v
theorem encAll_len (L : List Ins) (h : ∀ i ∈ L, i.chk = 0) : (encAll L).length ≤ 4 * L.length := by
  induction L with
  | nil => simp [encAll]
  | cons i r ih =>
    have h1 := (enc_pos (h i (by simp))).2
    have h2 := ih (fun j hj => h j (by simp [hj]))
    have e : encAll (i :: r) = i.enc ++ encAll r := rfl
    rw [e, List.length_append, List.length_cons]
    omega
theorem encAll_snoc (L : List Ins) (i : Ins) : encAll (L ++ [i]) = encAll L ++ i.enc := by simp [encAll]
theorem halt_chk : haltI.chk = 0 := by decide
theorem encAll_bytes (L : List Ins) (h : ∀ i ∈ L, i.chk = 0) : ∀ x ∈ encAll L, 0 ≤ x ∧ x < 256 := by
  intro x hx
  simp only [encAll, List.mem_flatMap] at hx
  obtain ⟨i, hi, hx⟩ := hx
  exact enc_bytes (h i hi) x hx
theorem alone_fin (L : List Ins) (w W : World) (base F D c : Nat) (A : Option Addr) (hb : Below w.heap.size w W) (ht : OwnB W base (.slice A (encAll (L ++ [haltI])).length c) (encAll (L ++ [haltI])))
    (hF : W.heap[F]? = some (.cells #[.string ⟨#[102]⟩, .int .i64 0, .int .i64 (encAll (L ++ [haltI])).length] 50 (0, 0))) (hD : W.heap[D]? = some (.cells #[.int .i64 5, .int .i64 (-3), .int .i64 0, .int .i64 7, .int .i64 1, .int .i64 2] 3 (0, 0)))
    (hk : ∀ i ∈ L ++ [haltI], i.chk = 0) (hl : (encAll (L ++ [haltI])).length ≤ 8000) :
    AlonePost w L (.returned (.tuple #[.agg #[.slice A (encAll (L ++ [haltI])).length c, .slice (some ⟨F, 0, none⟩) 1 1, .slice none 0 0, .slice (some ⟨D, 0, none⟩) 6 6, .slice none 0 0, .int .i64 0], .bool true])) W := by
  have hFl := (Array.getElem?_eq_some_iff.1 hF).1
  have hDl := (Array.getElem?_eq_some_iff.1 hD).1
  have htx : (encAll (L ++ [haltI])).length ≤ c ∧ RdG W W.heap.size A (intsV .u8 (encAll (L ++ [haltI]))) := by
    have h0 := ht
    rcases ht.2 with hn | ⟨g, cap, cur, hv, hbb, hgg, hnc, rest⟩
    · refine ⟨by rw [hn.2]; exact Nat.zero_le _, ?_⟩
      rw [List.eq_nil_of_length_eq_zero hn.2]
      exact RdG.nil _ _ _
    · injection hv with h1 h2 h3
      subst h1
      obtain ⟨a1, a2, a3, a4⟩ := own_at h0
      exact ⟨a1, fun _ => ⟨g, 0, rfl, a3, fun j u hu => by rw [Nat.zero_add]; exact a4 j u hu⟩⟩
  refine ⟨hb, ⟨A, c, some ⟨F, 0, none⟩, 1, none, 0, some ⟨D, 0, none⟩, 6, none, 0⟩, rfl, ⟨htx.2, ?_, ?_, ?_, RdG.nil _ _ _⟩, ?_⟩
  · exact fun _ => ⟨F, 0, rfl, hFl, fun j u hu => by rw [Nat.zero_add, cell_of_row W F j _ _ _ hF]; simpa [aloneM, funcsV, fnV] using hu⟩
  · exact ⟨[], rfl, RdG.nil _ _ _, fun j t ht => by simp [aloneM] at ht⟩
  · exact fun _ => ⟨D, 0, rfl, hDl, fun j u hu => by rw [Nat.zero_add, cell_of_row W D j _ _ _ hD]; simpa [aloneM, intsV] using hu⟩
  · have hlo : (encAll (L ++ [haltI])).length ≤ 140737488355328 := by omega
    refine ⟨hlo, by simp [aloneM], by simp [aloneM], by simp [aloneM], by simp [aloneM], htx.1, by simp [aloneM], by simp [aloneM], by simp [aloneM], by simp [aloneM], encAll_bytes _ hk, ?_, by simp [aloneM], ?_, by simp [aloneM], ⟨by simp [aloneM], by simp [aloneM]⟩⟩
    · intro f hf
      simp only [aloneM, List.mem_singleton] at hf
      subst hf
      exact ⟨⟨by simp only; omega, by simp only; omega⟩, ⟨by simp only; omega, by simp only; omega⟩, show (1 : Nat) ≤ 140737488355328 by decide⟩
    · intro x hx
      simp only [aloneM, List.mem_cons, List.not_mem_nil, or_false] at hx
      unfold N64
      omega
end Go.Proofs.YtbdlmafhcgndeaaDoor
