/- The keep's out and li; slices.Clone at instructions. The keep's alone, walked. -/
import Derived.Test.YtlekjnnofhjgjaaDoorStepJ
import Derived.Test.YtlekjnnofhjgjaaDoorApp
import Derived.Lib.LazyBuf
namespace Go.Proofs.YtlekjnnofhjgjaaDoor
open Go.RowKit
theorem out_any (a : Int) (w : World) : Calls Tryd.prog 24 #[.int .i64 a] w fun e w' => e = .returned (.agg #[.int .i64 17, .int .i64 0, .int .i64 a, .int .i64 0, .int .i64 0, .bool false]) ∧ Below w.heap.size w w' := by
  go_enter Tryd.func24, Tryd.ntmps24
  go_wp2
  refine bodyPost_ret (results_cell_row rfl _ _ w.heap.size 47 _ (0, 0) _ rfl (heap_alloc_new w _) Tryd.underlying47 rfl (by kernel_rfl)) rfl ⟨rfl, (Below.refl _ _).alloc (Nat.le_refl _) _⟩
theorem li_any (d n : Int) (w : World) : Calls Tryd.prog 23 #[.int .i64 d, .int .i64 n] w fun e w' => e = .returned (.agg #[.int .i64 5, .int .i64 d, .int .i64 0, .int .i64 0, .int .i64 n, .bool false]) ∧ Below w.heap.size w w' := by
  go_enter Tryd.func23, Tryd.ntmps23
  go_wp2
  refine bodyPost_ret (results_cell_row rfl _ _ w.heap.size 47 _ (0, 0) _ rfl (heap_alloc_new w _) Tryd.underlying47 rfl (by kernel_rfl)) rfl ⟨rfl, (Below.refl _ _).alloc (Nat.le_refl _) _⟩
/-- instructions in a row -/
def insC (i : Ins) : List Value := [.int .i64 i.k, .int .i64 i.d, .int .i64 i.a, .int .i64 i.b, .int .i64 i.n, .bool i.l]
def insR (L : List Ins) : List Value := L.flatMap insC
theorem insR_len (L : List Ins) : (insR L).length = L.length * 6 := flat_len insC 6 (fun _ => rfl) L
theorem insR_one (L : List Ins) : ∀ u ∈ insR L, u.oneCell' = true := by
  intro u hu
  simp only [insR, List.mem_flatMap] at hu
  obtain ⟨i, _, hi⟩ := hu
  simp only [insC, List.mem_cons, List.not_mem_nil, or_false] at hi
  rcases hi with h | h | h | h | h | h <;> (rw [h]; rfl)
theorem addr_addO (b o j : Nat) : ((⟨b, o, none⟩ : Addr).add j) = ⟨b, o + j, none⟩ := by unfold Addr.add; split <;> simp_all
theorem app_insL_lies {w : World} {ops : Array Oper} {rest : List Oper} {o : Oper} {a : Act} {Q : Exit → Act → World → Prop} (hgd : o.guard = none) (s x : Operand)
    (ho : o.op = .call { callee := .builtin .append, args := #[s, x], argTypes := #[45, 45] }) (base : Nat) (v : Value) (n : Nat) (L0 L : List Ins) (hs : a.eval s = v) (hown : w.ownsRow base 47 6 v n (insR L0))
    (g og m c : Nat) (hx : a.eval x = .slice (some ⟨g, og, none⟩) m c) (hm : L.length = m) (hm0 : 0 < m) (hc : ∀ j u, (insR L)[j]? = some u → w.cell? ⟨g, og + j, none⟩ = some u) (hn : n + m ≤ 1000000000000) (hbase : base ≤ w.heap.size)
    (h : ∀ g' cap' w', w'.ownsRow base 47 6 (.slice (some ⟨g', 0, none⟩) (n + m) cap') (n + m) (insR (L0 ++ L)) → w.grownBy w' v.ownBlock → (v.ownBlock = some g' ∨ g' = w.heap.size) → g' < w'.heap.size → wpList Tryd.prog ops Q rest (a.put o.dst (.slice (some ⟨g', 0, none⟩) (n + m) cap')) w') : wpList Tryd.prog ops Q (o :: rest) a w := by
  obtain ⟨i0, hi, hz0, hz1, hz2⟩ := info_parts infoI
  refine wpList_append_lies w hgd s x 45 ho base 47 i0 _ 6 48 Tryd.underlying45 hi hz0 hz1 hz2 rfl (by decide) v _ _ hs hown ⟨g, og, none⟩ m c (insR L) hx (by rw [insR_len, hm]) ?_ (insR_one L) hm0 (by unfold maxLen; omega) (by omega) hbase _ rfl (fun g' cap' w' h1 => h g' cap' w' ?_)
  · intro j u hu
    rw [addr_addO]
    exact hc j u hu
  · have e : insR (L0 ++ L) = insR L0 ++ insR L := by simp [insR]
    rw [e]
    exact h1
set_option maxRecDepth 100000 in
theorem clone_any (L : List Ins) (g og c : Nat) (w : World) (hL : 0 < L.length) (hm : L.length ≤ 1000000) (_hcap : L.length ≤ c) (hg : g < w.heap.size) (hc : ∀ j u, (insR L)[j]? = some u → w.cell? ⟨g, og + j, none⟩ = some u) :
    Calls Tryd.prog 49 #[.slice (some ⟨g, og, none⟩) L.length c] w fun e w' => ∃ g' c', e = .returned (.slice (some ⟨g', 0, none⟩) L.length c') ∧ Below w.heap.size w w' ∧ w'.ownsRow w.heap.size 47 6 (.slice (some ⟨g', 0, none⟩) L.length c') L.length (insR L) := by
  have HC := Lib.hid hc
  obtain ⟨n, hn⟩ : ∃ n, L.length = n := ⟨_, rfl⟩
  rw [hn] at hL hm ⊢
  have HN := Lib.hid hn
  clear hc hn
  have hu : (binOp .eql 45 (.slice (some ⟨g, og, none⟩) n c) (.slice none 0 0)).run Tryd.prog w = .ok (.bool false) w := run_eql_slice_nil w _ _ _ n c Tryd.underlying45
  go_enter Tryd.func49, Tryd.ntmps49
  go_wp2_with (first | (refine app_insL_lies rfl _ _ rfl w.heap.size _ 0 [] L rfl ?o1 g og n c rfl HN.out hL ?c1 (by omega) (by simp) ?a1))
  case o1 => exact ⟨rfl, .inr ⟨w.heap.size, 0, #[], rfl, Nat.le_refl _, heap_alloc_new w _, Nat.le_refl _, by decide, rfl, rfl⟩⟩
  case c1 => exact fun j u hj => (((Below.refl w.heap.size w).alloc (Nat.le_refl _) _).cell (p := ⟨g, og + j, none⟩) hg).trans (HC.out j u hj)
  case a1 =>
    intro g' c' w' ho hgr hat hlt
    have hb0 : Below w.heap.size w (w.alloc (.cells #[] 47)) := (Below.refl _ _).alloc (Nat.le_refl _) _
    have hB : Below w.heap.size w w' := hb0.grown hgr (by simp) (fun q hq => by have e : some w.heap.size = some q := hq; injection e with e; omega)
    have HO := Lib.hid ho
    have HB := Lib.hid hB
    have hnm : 0 + n = n := by omega
    clear ho hgr hat hB hb0
    go_wp2
    go_ret
    exact ⟨g', c', rfl, HB.out, HO.out⟩
end Go.Proofs.YtlekjnnofhjgjaaDoor
namespace Go.Proofs.YtlekjnnofhjgjaaDoor
open Go.RowKit
def haltI : Ins := ⟨1, 0, 0, 0, 0, false⟩
/-- the bytes of instructions -/
def encAll (L : List Ins) : List Int := L.flatMap Ins.enc
def aloneM (L : List Ins) : Img := ⟨encAll (L ++ [haltI]), [⟨⟨#[102]⟩, 0, (encAll (L ++ [haltI])).length⟩], [], [5, -3, 0, 7, 1, 2], [], 0⟩
/-- the image's cells, the text so far -/
def imgC (D : Nat) (tA : Option Addr) (n c : Nat) : List Value := [.slice tA n c, .slice none 0 0, .slice none 0 0, .slice (some ⟨D, 0, none⟩) 6 6, .slice none 0 0, .int .i64 0]
def AlonePost (w : World) (L : List Ins) (e : Ending) (w' : World) : Prop :=
  Below w.heap.size w w' ∧ ∃ v : ImgV, e = .returned (.tuple #[.agg ((aloneM L).val v), .bool true]) ∧ ImgRd w' w'.heap.size (aloneM L) v ∧ ImgOk (aloneM L) v
theorem encAll_len (L : List Ins) (h : ∀ i ∈ L, i.chk = 0) : (encAll L).length ≤ 4 * L.length := by
  induction L with
  | nil => simp [encAll]
  | cons i r ih =>
    have h1 := (enc_pos (h i (by simp))).2
    have h2 := ih (fun j hj => h j (by simp [hj]))
    have e : encAll (i :: r) = i.enc ++ encAll r := rfl
    rw [e, List.length_append, List.length_cons]
    omega
theorem encAll_snoc (L : List Ins) (i : Ins) : encAll (L ++ [i]) = encAll L ++ i.enc := by simp [encAll]
theorem halt_chk : haltI.chk = 0 := by decide
theorem encAll_bytes (L : List Ins) (h : ∀ i ∈ L, i.chk = 0) : ∀ x ∈ encAll L, 0 ≤ x ∧ x < 256 := by
  intro x hx
  simp only [encAll, List.mem_flatMap] at hx
  obtain ⟨i, hi, hx⟩ := hx
  exact enc_bytes (h i hi) x hx
theorem alone_fin (L : List Ins) (w W : World) (base F D c : Nat) (A : Option Addr) (hb : Below w.heap.size w W) (ht : OwnB W base (.slice A (encAll (L ++ [haltI])).length c) (encAll (L ++ [haltI])))
    (hF : W.heap[F]? = some (.cells #[.string ⟨#[102]⟩, .int .i64 0, .int .i64 (encAll (L ++ [haltI])).length] 25 (0, 0))) (hD : W.heap[D]? = some (.cells #[.int .i64 5, .int .i64 (-3), .int .i64 0, .int .i64 7, .int .i64 1, .int .i64 2] 3 (0, 0)))
    (hk : ∀ i ∈ L ++ [haltI], i.chk = 0) (hl : (encAll (L ++ [haltI])).length ≤ 8000) :
    AlonePost w L (.returned (.tuple #[.agg #[.slice A (encAll (L ++ [haltI])).length c, .slice (some ⟨F, 0, none⟩) 1 1, .slice none 0 0, .slice (some ⟨D, 0, none⟩) 6 6, .slice none 0 0, .int .i64 0], .bool true])) W := by
  have hFl := (Array.getElem?_eq_some_iff.1 hF).1
  have hDl := (Array.getElem?_eq_some_iff.1 hD).1
  have htx : (encAll (L ++ [haltI])).length ≤ c ∧ RdG W W.heap.size A (intsV .u8 (encAll (L ++ [haltI]))) := by
    have h0 := ht
    rcases ht.2 with hn | ⟨g, cap, cur, hv, hbb, hgg, hnc, rest⟩
    · refine ⟨by rw [hn.2]; exact Nat.zero_le _, ?_⟩
      rw [List.eq_nil_of_length_eq_zero hn.2]
      exact RdG.nil _ _ _
    · injection hv with h1 h2 h3
      subst h1
      obtain ⟨a1, a2, a3, a4⟩ := own_at h0
      exact ⟨a1, fun _ => ⟨g, 0, rfl, a3, fun j u hu => by rw [Nat.zero_add]; exact a4 j u hu⟩⟩
  refine ⟨hb, ⟨A, c, some ⟨F, 0, none⟩, 1, none, 0, some ⟨D, 0, none⟩, 6, none, 0⟩, rfl, ⟨htx.2, ?_, ?_, ?_, RdG.nil _ _ _⟩, ?_⟩
  · exact fun _ => ⟨F, 0, rfl, hFl, fun j u hu => by rw [Nat.zero_add, cell_of_row W F j _ _ _ hF]; simpa [aloneM, funcsV, fnV] using hu⟩
  · exact ⟨[], rfl, RdG.nil _ _ _, fun j t ht => by simp [aloneM] at ht⟩
  · exact fun _ => ⟨D, 0, rfl, hDl, fun j u hu => by rw [Nat.zero_add, cell_of_row W D j _ _ _ hD]; simpa [aloneM, intsV] using hu⟩
  · have hlo : (encAll (L ++ [haltI])).length ≤ 140737488355328 := by omega
    refine ⟨hlo, by simp [aloneM], by simp [aloneM], by simp [aloneM], by simp [aloneM], htx.1, by simp [aloneM], by simp [aloneM], by simp [aloneM], by simp [aloneM], encAll_bytes _ hk, ?_, by simp [aloneM], ?_, by simp [aloneM], ⟨by simp [aloneM], by simp [aloneM]⟩⟩
    · intro f hf
      simp only [aloneM, List.mem_singleton] at hf
      subst hf
      exact ⟨⟨by simp only; omega, by simp only; omega⟩, ⟨by simp only; omega, by simp only; omega⟩, show (1 : Nat) ≤ 140737488355328 by decide⟩
    · intro x hx
      simp only [aloneM, List.mem_cons, List.not_mem_nil, or_false] at hx
      unfold N64
      omega
set_option maxHeartbeats 4000000 in
set_option maxRecDepth 100000 in
theorem alone_any (L : List Ins) (g og c : Nat) (w : World) (hT : Tabs w) (hL : 0 < L.length) (hm : L.length ≤ 1000) (hcap : L.length ≤ c) (hg : g < w.heap.size) (hk : ∀ i ∈ L, i.chk = 0) (hc : ∀ j u, (insR L)[j]? = some u → w.cell? ⟨g, og + j, none⟩ = some u) :
    Calls Tryd.prog 22 #[.slice (some ⟨g, og, none⟩) L.length c] w (AlonePost w L) := by
  have HT := Lib.hid hT
  have HC := Lib.hid hc
  have HK := Lib.hid hk
  have HCL := Lib.hid (fun (W : World) (hb : Below w.heap.size w W) => clone_any L g og c W hL (by omega) hcap (by have := hb.size; omega) (fun j u hj => (hb.cell (p := ⟨g, og + j, none⟩) hg).trans (hc j u hj)))
  obtain ⟨n, hn⟩ : ∃ n, L.length = n := ⟨_, rfl⟩
  rw [hn] at hL hm hcap HCL ⊢
  have HN := Lib.hid hn
  clear hT hc hk hn
  go_enter Tryd.func22, Tryd.ntmps22
  go_wp2_with fail
  obtain ⟨w0, hw0⟩ : ∃ w0, (((w.alloc
              (Obj.cells
                #[Value.slice none 0 0, Value.slice none 0 0, Value.slice none 0 0, Value.slice none 0 0,
                  Value.slice none 0 0, Value.int IntKind.i64 0]
                31)).alloc
          (Obj.cells
            #[Value.int IntKind.i64 5, Value.int IntKind.i64 (-3), Value.int IntKind.i64 0, Value.int IntKind.i64 7,
              Value.int IntKind.i64 1, Value.int IntKind.i64 2]
            3)).alloc
      (Obj.cells
        #[Value.slice none 0 0, Value.slice none 0 0, Value.slice none 0 0,
          Value.slice (some { block := w.heap.size + 1, off := 0 }) 6 6, Value.slice none 0 0, Value.int IntKind.i64 0]
        31)) = w0 := ⟨_, rfl⟩
  rw [hw0]
  have hb0 : Below w.heap.size w w0 := by rw [← hw0]; exact (((Below.refl _ _).alloc (Nat.le_refl _) _).alloc (by simp) _).alloc (by simp; omega) _
  have hz0 : w0.heap.size = w.heap.size + 3 := by rw [← hw0]; simp
  have hr0 : w0.heap[w.heap.size]? = some (.cells #[.slice none 0 0, .slice none 0 0, .slice none 0 0, .slice none 0 0, .slice none 0 0, .int .i64 0] 31 (0, 0)) := by
    rw [← hw0]
    exact (heap_alloc_old _ _ (by simp; omega)).trans ((heap_alloc_old _ _ (by simp)).trans (heap_alloc_new w _))
  have hd0 : w0.heap[w.heap.size + 1]? = some (.cells #[.int .i64 5, .int .i64 (-3), .int .i64 0, .int .i64 7, .int .i64 1, .int .i64 2] 3 (0, 0)) := by
    rw [← hw0]
    exact (heap_alloc_old _ _ (by simp)).trans (heap_alloc2_new w _ _)
  have hi0 : w0.heap[w.heap.size + 2]? = some (.cells (imgC (w.heap.size + 1) none 0 0).toArray 31 (0, 0)) := by
    rw [← hw0]
    have := heap_alloc2_new (w.alloc (Obj.cells #[Value.slice none 0 0, Value.slice none 0 0, Value.slice none 0 0, Value.slice none 0 0, Value.slice none 0 0, Value.int IntKind.i64 0] 31)) (Obj.cells #[Value.int IntKind.i64 5, Value.int IntKind.i64 (-3), Value.int IntKind.i64 0, Value.int IntKind.i64 7, Value.int IntKind.i64 1, Value.int IntKind.i64 2] 3) (Obj.cells #[Value.slice none 0 0, Value.slice none 0 0, Value.slice none 0 0, Value.slice (some { block := w.heap.size + 1, off := 0 }) 6 6, Value.slice none 0 0, Value.int IntKind.i64 0] 31)
    simpa [imgC] using this
  have HB0 := Lib.hid hb0
  have HR0 := Lib.hid hr0
  have HD0 := Lib.hid hd0
  have HI0 := Lib.hid hi0
  clear hb0 hr0 hd0 hi0 hw0
  refine (HCL.out w0 HB0.out).mono ?_
  rintro e w1 ⟨g1, c1, rfl, hb1, ho1⟩
  have HB1 := Lib.hid hb1
  have HO1 := Lib.hid ho1
  have hs1 : w0.heap.size ≤ w1.heap.size := hb1.size
  have hn1 : n + 1 ≤ 1000000000000 := by omega
  clear hb1 ho1
  go_wp2_with (first | (refine app_insL_lies rfl _ _ rfl w0.heap.size _ n L [haltI] rfl (World.ownsRow.alloc HO1.out _) w1.heap.size 0 1 1 rfl rfl (by decide) ?c1 (by omega) (by simp; omega) ?a1))
  case c1 =>
    intro j u hj
    have hrow : (w1.alloc (.cells #[.int .i64 1, .int .i64 0, .int .i64 0, .int .i64 0, .int .i64 0, .bool false] 47)).heap[w1.heap.size]? = _ := heap_alloc_new w1 _
    rw [Nat.zero_add, cell_of_row _ _ j _ _ _ hrow]
    simpa [insR, insC, haltI] using hj
  case a1 =>
    intro g2 c2 w2 ho2 hgr2 hat2 hlt2
    have hb2 : Below w0.heap.size w0 w2 := HB1.out.trans ((((Below.refl w1.heap.size w1).alloc (Nat.le_refl _) _).mono hs1).grown hgr2 (by simp; omega) (fun q hq => (World.ownsRow.lt HO1.out q hq).1))
    have HO2 := Lib.hid ho2
    have HB2 := Lib.hid hb2
    clear hgr2 hat2 ho2 hb2
    obtain ⟨MM, hMM⟩ : ∃ M, L ++ [haltI] = M := ⟨_, rfl⟩
    have hML : MM.length = n + 1 := by rw [← hMM]; simp [HN.out]
    have hMK : ∀ i ∈ MM, i.chk = 0 := by
      intro i hi
      rw [← hMM, List.mem_append] at hi
      rcases hi with hi | hi
      · exact HK.out i hi
      · rw [List.mem_singleton] at hi
        rw [hi]
        exact halt_chk
    have HMM := Lib.hid hMM
    have HML := Lib.hid hML
    have HMK := Lib.hid hMK
    clear hMM hML hMK
    go_wp2_with fail
    go_loopw [17] (fun v17 wr => ∃ (k : Nat) (A : Option Addr) (c : Nat), k ≤ n + 1 ∧ v17 = .int .i64 k ∧ Hid (w2.grownBy wr (some (w.heap.size + 2)) ∧ wr.heap[w.heap.size + 2]? = some (.cells (imgC (w.heap.size + 1) A (encAll (MM.take k)).length c).toArray 31 (0, 0)) ∧ OwnB wr w2.heap.size (.slice A (encAll (MM.take k)).length c) (encAll (MM.take k)))) (fun v17 _ => n + 1 - (intOf v17).toNat)
    case atStart => exact ⟨0, none, 0, Nat.zero_le _, rfl, gb_refl _ _, (HB2.out.block _ (by omega)).trans HI0.out, ⟨rfl, .inl ⟨rfl, rfl⟩⟩⟩
    case round =>
      obtain ⟨k, A, c3, hk, rfl, HH⟩ := hrel
      obtain ⟨hgb, hib, hob⟩ := HH
      have HGB := Lib.hid hgb
      have HIB := Lib.hid hib
      have HOB := Lib.hid hob
      have hzr : w2.heap.size ≤ wr.heap.size := hgb.size
      have hz2 : w0.heap.size ≤ w2.heap.size := HB2.out.size
      have hbw : Below w.heap.size w wr := HB0.out.trans ((HB2.out.mono (by omega)).trans (gb_to_below hgb (by omega) (by omega)))
      have HBW := Lib.hid hbw
      have HTr := Lib.hid (HT.out.below hbw)
      have i0 : wr.cell? ⟨w.heap.size + 2, 0, none⟩ = some (.slice A (encAll (MM.take k)).length c3) := cell_of_row _ _ 0 _ _ _ hib
      have i1 : wr.cell? ⟨w.heap.size + 2, 1, none⟩ = some (.slice none 0 0) := cell_of_row _ _ 1 _ _ _ hib
      have fi0 : wr.frozen? ⟨w.heap.size + 2, 0, none⟩ = false := frozen_of_row _ _ _ _ _ hib
      have fi1 : wr.frozen? ⟨w.heap.size + 2, 1, none⟩ = false := frozen_of_row _ _ _ _ _ hib
      have hIr : w.heap.size + 2 < wr.heap.size := by omega
      clear hgb hib hob hbw
      by_cases hlt : k < n + 1
      · have hx : MM[k]? = some (MM[k]'(by have := HML.out; omega)) := List.getElem?_eq_getElem _
        obtain ⟨i, hii⟩ : ∃ i, MM[k]'(by have := HML.out; omega) = i := ⟨_, rfl⟩
        rw [hii] at hx
        have htk : MM.take (k + 1) = MM.take k ++ [i] := by rw [List.take_add_one, hx]; rfl
        have hce := encAll_snoc (MM.take k) i
        rw [← htk] at hce
        have hchk := HMK.out i (List.mem_of_getElem? hx)
        have hep := enc_pos hchk
        have HENC := Lib.hid (fun (W : World) (hT : Tabs W) => encode_any i W hT hchk)
        have HCE := Lib.hid hce
        have hlen : (encAll (MM.take k)).length ≤ 4 * (MM.take k).length := encAll_len _ (fun j hj => HMK.out j (List.mem_of_mem_take hj))
        have hlk : (MM.take k).length ≤ k := by rw [List.length_take]; omega
        obtain ⟨hc21, hc22, hc23, hc24⟩ := own_at HO2.out
        have hne2 : ¬ g2 = w.heap.size + 2 := by omega
        have cell : ∀ (q : Nat) (u : Value), q < 6 → (insC i)[q]? = some u → wr.cell? ⟨g2, 0 + k * 6 + q, none⟩ = some u := by
          intro q u hq hu
          have h1 := flat_at insC 6 (fun _ => rfl) MM k i hx q u hq hu
          have h2 := hc24 (k * 6 + q) u (by rw [HMM.out]; exact h1)
          rw [Nat.zero_add]
          refine Eq.trans ?_ h2
          have hblk := HGB.out.block g2 hc23 (fun e => hne2 (by injection e))
          simp [World.cell?, hblk]
        have q0 := cell 0 _ (by decide) rfl
        have q1 := cell 1 _ (by decide) rfl
        have q2 := cell 2 _ (by decide) rfl
        have q3 := cell 3 _ (by decide) rfl
        have q4 := cell 4 _ (by decide) rfl
        have q5 := cell 5 _ (by decide) rfl
        obtain ⟨ik, id, ia, ib, iN, il⟩ := i
        simp only at q0 q1 q2 q3 q4 q5
        simp only [Nat.zero_add, Nat.add_zero] at q0 q1 q2 q3 q4 q5
        have hg2r : g2 < wr.heap.size := by omega
        have hkn : (k : Int) < (n : Int) + 1 := by omega
        obtain ⟨T, hT⟩ : ∃ T, encAll (MM.take k) = T := ⟨_, rfl⟩
        rw [hT] at HIB HOB i0 hlen HCE
        clear hx hii htk hce hchk cell hc24
        go_wp2_with fail
        refine (HENC.out _ (HTr.out.alloc _)).mono ?_
        rintro e w4 ⟨g4, cap4, rfl, h41, h42, h43, h44, h45, -⟩
        have hb4 : Below wr.heap.size wr w4 := ((Below.refl _ _).alloc (Nat.le_refl _) _).trans (h44.mono (by simp))
        have hz4 : wr.heap.size < w4.heap.size := by have := h44.size; simp at this; omega
        have i0' : w4.cell? ⟨w.heap.size + 2, 0, none⟩ = some (.slice A T.length c3) := (hb4.cell (p := ⟨w.heap.size + 2, 0, none⟩) hIr).trans i0
        have fi0' : w4.frozen? ⟨w.heap.size + 2, 0, none⟩ = false := (hb4.frozen (p := ⟨w.heap.size + 2, 0, none⟩) hIr).trans fi0
        have hI4 : w.heap.size + 2 < w4.heap.size := by omega
        have HB4 := Lib.hid hb4
        have HG4 := Lib.hid (And.intro h41 (And.intro h42 (And.intro h43 h45)))
        have hep1 := hep.1
        have hep2 := hep.2
        clear h41 h42 h43 h44 h45 hb4 q0 q1 q2 q3 q4 q5 i0 i1 fi0 fi1 hep
        go_wp2_with (first | (refine app_bytes_lies rfl _ _ rfl w2.heap.size _ T _ rfl (own_keep HOB.out HB4.out) g4 _ cap4 rfl rfl hep1 HG4.out.2.2.2 (by omega) (by omega) ?a2))
        case a2 =>
          intro g5 c5 w5 ho5 hgr5 hat5 hlt5
          have hN : (encAll (MM.take (k + 1))).length = T.length + (Ins.enc ⟨ik, id, ia, ib, iN, il⟩).length := by rw [HCE.out, List.length_append]
          have hTown := own_keep HOB.out HB4.out
          have hXne : ∀ q, (Value.slice A T.length c3).ownBlock = some q → q ≠ w.heap.size + 2 := fun q hq => by have := (World.ownsRow.lt hTown q hq).1; omega
          have hI5 := (hgr5.block (w.heap.size + 2) hI4 (fun e => hXne _ e.symm rfl)).trans ((HB4.out.block _ hIr).trans HIB.out)
          have hg5 : g5 ≠ w.heap.size + 2 := by
            rcases hat5 with e | e
            · exact hXne _ e
            · omega
          have hgb4 : w2.grownBy w4 (some (w.heap.size + 2)) := gb_trans HGB.out (gb_below HB4.out)
          have hgb5 : w2.grownBy w5 (some (w.heap.size + 2)) := by
            refine ⟨hgr5.os.trans hgb4.os, hgr5.tape.trans hgb4.tape, hgr5.output.trans hgb4.output, Nat.le_trans hgb4.size hgr5.size, fun q hq hne => ?_⟩
            exact (hgr5.block q (by have := hgb4.size; omega) (fun e => by have := (World.ownsRow.lt hTown q e.symm).1; omega)).trans (hgb4.block q hq hne)
          have i05 : w5.cell? ⟨w.heap.size + 2, 0, none⟩ = some (.slice A T.length c3) := cell_of_row _ _ 0 _ _ _ hI5
          have fi05 : w5.frozen? ⟨w.heap.size + 2, 0, none⟩ = false := frozen_of_row _ _ _ _ _ hI5
          have hI55 : w.heap.size + 2 < w5.heap.size := by have := hgr5.size; omega
          have HRL := Lib.hid (show w2.grownBy (w5.setCell ⟨w.heap.size + 2, 0, none⟩ (.slice (some ⟨g5, 0, none⟩) (encAll (MM.take (k + 1))).length c5)) (some (w.heap.size + 2)) ∧ (w5.setCell ⟨w.heap.size + 2, 0, none⟩ (.slice (some ⟨g5, 0, none⟩) (encAll (MM.take (k + 1))).length c5)).heap[w.heap.size + 2]? = some (.cells (imgC (w.heap.size + 1) (some ⟨g5, 0, none⟩) (encAll (MM.take (k + 1))).length c5).toArray 31 (0, 0)) ∧ OwnB (w5.setCell ⟨w.heap.size + 2, 0, none⟩ (.slice (some ⟨g5, 0, none⟩) (encAll (MM.take (k + 1))).length c5)) w2.heap.size (.slice (some ⟨g5, 0, none⟩) (encAll (MM.take (k + 1))).length c5) (encAll (MM.take (k + 1))) from by
            refine ⟨gb_setCell hgb5 _ _, blk_set hI5 0 _, ?_⟩
            have h1 : OwnB w5 w2.heap.size (.slice (some ⟨g5, 0, none⟩) (encAll (MM.take (k + 1))).length c5) (encAll (MM.take (k + 1))) := by rw [HCE.out, List.length_append]; exact ho5
            exact own_gb h1 (gb_setCell (gb_refl _ _) _ _) (fun e => hg5 (by injection e)))
          have HN5 := Lib.hid hN
          have hk1 : k + 1 ≤ n + 1 := by omega
          clear hN hTown hXne hI5 hg5 hgb4 hgb5 ho5 hgr5 hat5
          rw [HN5.out] at HRL
          go_wp2
          go_roundw
          case rel => exact ⟨k + 1, _, _, hk1, by go_num, by rw [HN5.out]; exact HRL⟩
          case measure => simp [intOf]; omega
      · obtain rfl : k = n + 1 := by omega
        clear hlt
        have htk : MM.take (n + 1) = MM := List.take_of_length_le (by have := HML.out; omega)
        rw [htk] at i0 HIB HOB
        have hl8 : (encAll MM).length ≤ 8000 := by have := encAll_len MM HMK.out; have := HML.out; omega
        have hrb : wr.heap[w.heap.size]? = some (.cells #[.slice none 0 0, .slice none 0 0, .slice none 0 0, .slice none 0 0, .slice none 0 0, .int .i64 0] 31 (0, 0)) := (HGB.out.block _ (by omega) (fun e => by injection e with e'; omega)).trans ((HB2.out.block _ (by omega)).trans HR0.out)
        have hdb : wr.heap[w.heap.size + 1]? = _ := (HGB.out.block _ (by omega) (fun e => by injection e with e'; omega)).trans ((HB2.out.block _ (by omega)).trans HD0.out)
        have i2 : wr.cell? ⟨w.heap.size + 2, 2, none⟩ = some (.slice none 0 0) := cell_of_row _ _ 2 _ _ _ HIB.out
        have i3 : wr.cell? ⟨w.heap.size + 2, 3, none⟩ = some (.slice (some ⟨w.heap.size + 1, 0, none⟩) 6 6) := cell_of_row _ _ 3 _ _ _ HIB.out
        have i4 : wr.cell? ⟨w.heap.size + 2, 4, none⟩ = some (.slice none 0 0) := cell_of_row _ _ 4 _ _ _ HIB.out
        have i5 : wr.cell? ⟨w.heap.size + 2, 5, none⟩ = some (.int .i64 0) := cell_of_row _ _ 5 _ _ _ HIB.out
        have r0 : wr.cell? ⟨w.heap.size, 0, none⟩ = some (.slice none 0 0) := cell_of_row _ _ 0 _ _ _ hrb
        have r1 : wr.cell? ⟨w.heap.size, 1, none⟩ = some (.slice none 0 0) := cell_of_row _ _ 1 _ _ _ hrb
        have r2 : wr.cell? ⟨w.heap.size, 2, none⟩ = some (.slice none 0 0) := cell_of_row _ _ 2 _ _ _ hrb
        have r3 : wr.cell? ⟨w.heap.size, 3, none⟩ = some (.slice none 0 0) := cell_of_row _ _ 3 _ _ _ hrb
        have r4 : wr.cell? ⟨w.heap.size, 4, none⟩ = some (.slice none 0 0) := cell_of_row _ _ 4 _ _ _ hrb
        have r5 : wr.cell? ⟨w.heap.size, 5, none⟩ = some (.int .i64 0) := cell_of_row _ _ 5 _ _ _ hrb
        have fr : ∀ j, wr.frozen? ⟨w.heap.size, j, none⟩ = false := fun j => frozen_of_row _ _ _ _ _ hrb
        have hrr : w.heap.size < wr.heap.size := by omega
        have hfin : ∀ (x1 a0 a1 a2 a3 a4 a5 : Value), AlonePost w L (.returned (.tuple #[.agg #[.slice A (encAll MM).length c3, .slice (some ⟨wr.heap.size, 0, none⟩) 1 1, .slice none 0 0, .slice (some ⟨w.heap.size + 1, 0, none⟩) 6 6, .slice none 0 0, .int .i64 0], .bool true]))
            ((((((((wr.setCell ⟨w.heap.size + 2, 1, none⟩ x1).setCell ⟨w.heap.size, 0, none⟩ a0).setCell ⟨w.heap.size, 1, none⟩ a1).setCell ⟨w.heap.size, 2, none⟩ a2).setCell ⟨w.heap.size, 3, none⟩ a3).setCell ⟨w.heap.size, 4, none⟩ a4).setCell ⟨w.heap.size, 5, none⟩ a5).alloc (.cells #[.string ⟨#[102]⟩, .int .i64 0, .int .i64 (encAll MM).length] 25)) := by
          intro x1 a0 a1 a2 a3 a4 a5
          have g0 : wr.grownBy (wr.setCell ⟨w.heap.size + 2, 1, none⟩ x1) (some (w.heap.size + 2)) := gb_setCell (gb_refl _ _) _ _
          have g1 := gb_setCell (gb_setCell (gb_setCell (gb_setCell (gb_setCell (gb_setCell (gb_refl (wr.setCell ⟨w.heap.size + 2, 1, none⟩ x1) (some w.heap.size)) 0 a0) 1 a1) 2 a2) 3 a3) 4 a4) 5 a5
          have b0 : Below w.heap.size wr (wr.setCell ⟨w.heap.size + 2, 1, none⟩ x1) := gb_to_below g0 (by omega) (by omega)
          have b1 := gb_to_below g1 (B := w.heap.size) (Nat.le_refl _) (by have := b0.size; omega)
          have bb := (HBW.out.trans b0).trans b1
          have o1 := own_gb (own_gb HOB.out g0 (fun e => by have := (World.ownsRow.lt HOB.out _ e).1; omega)) g1 (fun e => by have := (World.ownsRow.lt HOB.out _ e).1; omega)
          have hs : ((((((((wr.setCell ⟨w.heap.size + 2, 1, none⟩ x1).setCell ⟨w.heap.size, 0, none⟩ a0).setCell ⟨w.heap.size, 1, none⟩ a1).setCell ⟨w.heap.size, 2, none⟩ a2).setCell ⟨w.heap.size, 3, none⟩ a3).setCell ⟨w.heap.size, 4, none⟩ a4).setCell ⟨w.heap.size, 5, none⟩ a5)).heap.size = wr.heap.size := by simp [World.setCell]
          have hd := (g1.block (w.heap.size + 1) (by have := g0.size; omega) (fun e => by injection e with e'; omega)).trans ((g0.block (w.heap.size + 1) (by omega) (fun e => by injection e with e'; omega)).trans hdb)
          generalize ((((((((wr.setCell ⟨w.heap.size + 2, 1, none⟩ x1).setCell ⟨w.heap.size, 0, none⟩ a0).setCell ⟨w.heap.size, 1, none⟩ a1).setCell ⟨w.heap.size, 2, none⟩ a2).setCell ⟨w.heap.size, 3, none⟩ a3).setCell ⟨w.heap.size, 4, none⟩ a4).setCell ⟨w.heap.size, 5, none⟩ a5)) = W' at *
          have hm := HMM.out
          have hmk := HMK.out
          rw [← hm] at o1 hl8 hmk ⊢
          rw [← hs]
          exact alone_fin L w _ w2.heap.size W'.heap.size (w.heap.size + 1) c3 A (bb.alloc bb.size _) (OwnB.alloc o1 _) (heap_alloc_new W' _) ((heap_alloc_old _ _ (Array.getElem?_eq_some_iff.1 hd).1).trans hd) hmk hl8
        have HFIN := Lib.hid hfin
        clear hfin hrb hdb
        go_wp2
        refine bodyPost_ret (v := .tuple #[.agg #[.slice A (encAll MM).length c3, .slice (some ⟨wr.heap.size, 0, none⟩) 1 1, .slice none 0 0, .slice (some ⟨w.heap.size + 1, 0, none⟩) 6 6, .slice none 0 0, .int .i64 0], .bool true]) (by simp [results, Tryd.results22, go_sem, *]) rfl (HFIN.out _ _ _ _ _ _ _)
end Go.Proofs.YtlekjnnofhjgjaaDoor
