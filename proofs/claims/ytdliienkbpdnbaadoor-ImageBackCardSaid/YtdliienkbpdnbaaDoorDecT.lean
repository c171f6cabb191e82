/- the state of image.Decode: its tables, its beginning, its end; bounds of what is read; bytes as a string. -/
import Derived.Test.YtdliienkbpdnbaaDoorDecS
import Derived.Laws.IdiomStrings
namespace Go.Proofs.YtdliienkbpdnbaaDoor
open Go.RowKit
section
variable {W0 w w' : World} {B R X M D H : Nat} {s : RS} {m : Img} {v : ImgV}
/-- a table is appended -/
theorem DecSt.setTs {w1 w2 : World} {g c' n : Nat} {t : List Int} {a : Option Addr} {ca : Nat} {vs : List Value} (h : DecSt W0 w B R X M D H s m v) (hd : v.dA = none ∧ v.dc = 0 ∧ m.data = []) (hb : Below H w w1) (hn : m.tables.length = n) (hvl : vs.length = n)
    (hvt : ∀ (j : Nat) (t : List Int), m.tables[j]? = some t → ∃ a ca, vs[j]? = some (.slice a t.length ca) ∧ w.ownsRow B 3 1 (.slice a t.length ca) t.length (intsV .i64 t) ∧ ∀ g, (Value.slice a t.length ca).ownBlock = some g → g < D)
    (hi : w1.ownsRow B 3 1 (.slice a t.length ca) t.length (intsV .i64 t)) (ho : w2.ownsRow B 26 1 (.slice (some ⟨g, 0, none⟩) (n + 1) c') (n + 1) (vs ++ [.slice a t.length ca]))
    (hg : w1.grownBy w2 (Value.slice v.bA n v.bc).ownBlock) (hob : w1.ownsRow B 26 1 (.slice v.bA n v.bc) n vs) :
    DecSt W0 (w2.setCell ⟨M, 2, none⟩ (.slice (some ⟨g, 0, none⟩) (n + 1) c')) B R X M (w2.setCell ⟨M, 2, none⟩ (.slice (some ⟨g, 0, none⟩) (n + 1) c')).heap.size (w2.setCell ⟨M, 2, none⟩ (.slice (some ⟨g, 0, none⟩) (n + 1) c')).heap.size s
      ⟨m.text, m.funcs, m.tables ++ [t], m.data, m.lines, m.entry⟩ ⟨v.tA, v.tc, v.fA, v.fc, some ⟨g, 0, none⟩, c', v.dA, v.dc, v.lA, v.lc⟩ := by
  subst hn
  have h1 := h.below hb
  have hs1 := hb.size
  have hs2 := hg.size
  have ht : ∀ q, (Value.slice v.bA m.tables.length v.bc).ownBlock = some q → TypB w1 q 26 := fun q e => own_typ hob e
  have hlB : ∀ q, (Value.slice v.bA m.tables.length v.bc).ownBlock = some q → B ≤ q := fun q e => (World.ownsRow.lt hob q e).1
  have hst : w2.grownBy (w2.setCell ⟨M, 2, none⟩ (.slice (some ⟨g, 0, none⟩) (m.tables.length + 1) c')) (some M) := gb_setCell (gb_refl _ _) _ _
  have hM2 : Blk w2 M 29 _ := h1.blk.keepT hg ht (by decide)
  have hr2 : RdrSt w2 B X s := by
    obtain ⟨A, c, r1, r2, r3, r4, r5, r6⟩ := h1.rdr
    exact ⟨A, c, r1.keepT hg ht (by decide), r2.below (gb_belowU hg hlB (by have := h.bH; have := h.lt; omega)), r3, r4, r5, r6⟩
  have htM : ∀ q, some M = some q → TypB w2 q 29 := fun q e => by injection e with e; subst e; exact hM2.typ
  have hr3 : RdrSt (w2.setCell ⟨M, 2, none⟩ (.slice (some ⟨g, 0, none⟩) (m.tables.length + 1) c')) B X s := by
    obtain ⟨A, c, r1, r2, r3, r4, r5, r6⟩ := hr2
    exact ⟨A, c, r1.keepT hst htM (by decide), r2.below (gb_to_below hst h.bs.2.1 (by have := h.bH; have := h.lt; omega)), r3, r4, r5, r6⟩
  have hle : (m.tables ++ [t]).length = m.tables.length + 1 := by simp
  have hsz : (w2.setCell ⟨M, 2, none⟩ (.slice (some ⟨g, 0, none⟩) (m.tables.length + 1) c')).heap.size = w2.heap.size := by simp [World.setCell]
  have hHw : H ≤ w2.heap.size := by have := h.lt; omega
  have hgl : g < w2.heap.size := (own_lt' ho).2
  have hres : Blk (w2.setCell ⟨M, 2, none⟩ (.slice (some ⟨g, 0, none⟩) (m.tables.length + 1) c')) R 29 _ := (Blk.keepT h1.res hg ht (by decide)).gb hst (fun e => by injection e with e; exact h.bs.2.2 e.symm)
  have hblk := hM2.set 2 (.slice (some ⟨g, 0, none⟩) (m.tables.length + 1) c')
  have hDH := h.hD
  refine ⟨(h1.bel.trans (gb_belowU hg hlB (by have := h.bH; have := h.lt; omega))).trans (gb_to_below hst h.bs.2.1 (by have := h.bH; have := h.lt; omega)), hr3, h.byt, hres, ?_, h.bs, ?_,
    own_keepT (own_keepT h1.tx hg ht (by decide)) hst htM (by decide), fun q hq => by have := h1.txH q hq; omega, own_keepT (own_keepT h1.fn hg ht (by decide)) hst htM (by decide), fun q hq => by have := h1.fnH q hq; omega,
    ⟨vs ++ [.slice a t.length ca], by simp [hvl], ?_, ?_, ?_⟩, ?_, ?_, own_keepT (own_keepT h1.ln hg ht (by decide)) hst htM (by decide), fun q hq => by have := h1.lnH q hq; omega, by omega, Nat.le_refl _⟩
  · simp only [hle]
    exact hblk
  · have := h.lt
    omega
  · simp only [hle]
    exact own_keepT ho hst htM (by decide)
  · intro q hq
    have := own_blkg hq hgl
    omega
  · intro j u hj
    by_cases hjl : j < m.tables.length
    · rw [List.getElem?_append_left hjl] at hj
      obtain ⟨a', ca', k1, k2, k3⟩ := hvt j u hj
      refine ⟨a', ca', by rw [List.getElem?_append_left (by omega)]; exact k1, own_keepT (own_keepT (own_ltH k2 hb fun q hq => by have := k3 q hq; omega) hg ht (by decide)) hst htM (by decide), fun q hq => by have := k3 q hq; omega⟩
    · have hjl2 := (List.getElem?_eq_some_iff.1 hj).1
      rw [hle] at hjl2
      obtain rfl : j = m.tables.length := by omega
      rw [List.getElem?_append_right (Nat.le_refl _), Nat.sub_self] at hj
      simp only [List.getElem?_cons_zero, Option.some.injEq] at hj
      subst hj
      refine ⟨a, ca, by rw [List.getElem?_append_right (by omega), hvl, Nat.sub_self]; rfl, own_keepT (own_keepT hi hg ht (by decide)) hst htM (by decide), fun q hq => ?_⟩
      have := (World.ownsRow.lt hi q hq).2
      omega
  · rw [hd.1, hd.2.1, hd.2.2]
    exact ⟨rfl, .inl ⟨rfl, rfl⟩⟩
  · rw [hd.1]
    intro q hq
    cases hq
theorem own_rdgD {base : Nat} {e : TypeId} {size n c : Nat} {A : Option Addr} {xs : List Value} (h : w.ownsRow base e size (.slice A n c) n xs) : RdG w w.heap.size A xs ∧ n ≤ c ∧ c ≤ maxLen := by
  rcases h.2 with ⟨e1, e2⟩ | ⟨g, cap, cur, hv, -, hg, hnc, hcm, -, htk⟩
  · injection e1 with e3 _ e4
    refine ⟨fun hn => absurd ?_ hn, by omega, by omega⟩
    exact List.eq_nil_of_length_eq_zero (by rw [h.1, e2, Nat.zero_mul])
  · injection hv with e1 _ e3
    subst e1
    subst e3
    refine ⟨fun _ => ⟨g, 0, rfl, (Array.getElem?_eq_some_iff.1 hg).1, fun j u hu => ?_⟩, hnc, hcm⟩
    rw [Nat.zero_add, cell_of_row w g j _ _ _ hg]
    rw [← htk, List.getElem?_take] at hu
    split at hu
    · simpa using hu
    · cases hu
/-- bounds of what is read -/
structure ImgB (m : Img) : Prop where
  tl : m.text.length ≤ 1000000
  tb : ByteL m.text
  fl : m.funcs.length ≤ 1000000
  fb : ∀ f ∈ m.funcs, N64 f.start ∧ N64 f.size ∧ f.name.size ≤ 1000000
  bl : m.tables.length ≤ 1000000
  bb : ∀ t ∈ m.tables, t.length ≤ 1000000 ∧ ∀ x ∈ t, N64 x
  dl : m.data.length ≤ 1000000
  db : ∀ x ∈ m.data, N64 x
  ll : m.lines.length ≤ 1000000
  lb : ∀ l ∈ m.lines, N64 l.1 ∧ N64 l.2
  eb : N64 m.entry
theorem DecSt.img (h : DecSt W0 w B R X M D H s m v) (hB : ImgB m) : ImgRd w w.heap.size m v ∧ ImgOk m v := by
  obtain ⟨t1, t2, -⟩ := own_rdgD h.tx
  obtain ⟨f1, f2, -⟩ := own_rdgD h.fn
  obtain ⟨d1, d2, -⟩ := own_rdgD h.dt
  obtain ⟨l1, l2, -⟩ := own_rdgD h.ln
  obtain ⟨vs, k1, k2, k3, k4⟩ := h.tb
  obtain ⟨b1, b2, -⟩ := own_rdgD k2
  have e1 := hB.tl
  have e2 := hB.fl
  have e3 := hB.bl
  have e4 := hB.dl
  have e5 := hB.ll
  refine ⟨⟨t1, f1, ⟨vs, k1, b1, fun j t hj => ?_⟩, d1, l1⟩, ⟨by omega, by omega, by omega, by omega, by omega, t2, f2, b2, d2, l2, hB.tb, fun f hf => ?_, fun t ht => (hB.bb t ht).2, hB.db, hB.lb, hB.eb⟩⟩
  · obtain ⟨a, ca, i1, i2, i3⟩ := k4 j t hj
    obtain ⟨r1, r2, r3⟩ := own_rdgD i2
    have := (hB.bb t (List.mem_of_getElem? hj)).1
    exact ⟨a, ca, i1, r2, r3, by omega, r1⟩
  · obtain ⟨q1, q2, q3⟩ := hB.fb f hf
    exact ⟨q1, q2, by omega⟩
end
theorem numR_bd1 {s : RS} (hb : ByteL s.inp) : 0 ≤ (numR s 1).1 ∧ (numR s 1).1 < 256 := by
  have hbb := (takeR_bytes 1 hb).2
  unfold numR
  simp only
  rcases hsh : (takeR s 1).2.sh with _ | _
  · obtain ⟨-, -, h3⟩ := takeR_ok (by omega) hsh
    exact (foldB_1 hbb (by omega)).2
  · have : (takeR s 1).1 = [] := by
      unfold takeR at hsh ⊢
      split
      · rfl
      · rename_i hc
        rw [if_neg hc] at hsh
        cases hsh
    rw [this]
    decide
theorem numR_bd2 {s : RS} (hb : ByteL s.inp) : 0 ≤ (numR s 2).1 ∧ (numR s 2).1 < 65536 := by
  have hbb := (takeR_bytes 2 hb).2
  unfold numR
  simp only
  rcases hsh : (takeR s 2).2.sh with _ | _
  · obtain ⟨-, -, h3⟩ := takeR_ok (by omega) hsh
    exact (foldB_2 hbb (by omega)).2
  · have : (takeR s 2).1 = [] := by
      unfold takeR at hsh ⊢
      split
      · rfl
      · rename_i hc
        rw [if_neg hc] at hsh
        cases hsh
    rw [this]
    decide
theorem numR_64 {s : RS} (k : Int) (hb : ByteL s.inp) : N64 (numR s k).1 := foldB_64 (takeR_bytes k hb).2
theorem takeR_len (s : RS) (n : Int) : (takeR s n).2.inp.length ≤ s.inp.length := by
  unfold takeR
  split
  · exact Nat.le_refl _
  · simp
theorem manyR_bd {α : Type} {f : RS → α × RS} {p : α → Prop} (hf : ∀ s, ByteL s.inp → s.inp.length ≤ 1000000 → p (f s).1 ∧ ByteL (f s).2.inp ∧ (f s).2.inp.length ≤ s.inp.length) : ∀ (n : Nat) (s : RS), ByteL s.inp → s.inp.length ≤ 1000000 →
    (manyR f n s).1.length ≤ n ∧ (∀ x ∈ (manyR f n s).1, p x) ∧ ByteL (manyR f n s).2.inp ∧ (manyR f n s).2.inp.length ≤ s.inp.length := by
  intro n
  induction n with
  | zero => intro s hb hl; exact ⟨Nat.le_refl _, fun x hx => (by cases hx), hb, Nat.le_refl _⟩
  | succ n ih =>
    intro s hb hl
    simp only [manyR]
    split
    · exact ⟨Nat.zero_le _, fun x hx => (by cases hx), hb, Nat.le_refl _⟩
    · obtain ⟨h1, h2, h3⟩ := hf s hb hl
      obtain ⟨i1, i2, i3, i4⟩ := ih _ h2 (by omega)
      refine ⟨by simp only [List.length_cons]; omega, fun x hx => ?_, i3, by simp only; omega⟩
      rcases List.mem_cons.1 hx with rfl | hx
      · exact h1
      · exact i2 x hx
theorem numR_bdg (k : Int) (s : RS) (hb : ByteL s.inp) (_ : s.inp.length ≤ 1000000) : N64 (numR s k).1 ∧ ByteL (numR s k).2.inp ∧ (numR s k).2.inp.length ≤ s.inp.length :=
  ⟨numR_64 k hb, (takeR_bytes k hb).1, takeR_len s k⟩
theorem tabR_bd (s : RS) (hb : ByteL s.inp) (hl : s.inp.length ≤ 1000000) : ((tabR s).1.length ≤ 1000000 ∧ ∀ x ∈ (tabR s).1, N64 x) ∧ ByteL (tabR s).2.inp ∧ (tabR s).2.inp.length ≤ s.inp.length := by
  unfold tabR
  rw [intsR_many]
  have h0 := numR_bdg 1 s hb hl
  have hk := numR_bd1 hb
  obtain ⟨h1, h2, h3, h4⟩ := manyR_bd (numR_bdg 2) (numR s 1).1.toNat _ h0.2.1 (by omega)
  exact ⟨⟨by omega, h2⟩, h3, by omega⟩
theorem lnR_bd (s : RS) (hb : ByteL s.inp) (hl : s.inp.length ≤ 1000000) : (N64 (lnR s).1.1 ∧ N64 (lnR s).1.2) ∧ ByteL (lnR s).2.inp ∧ (lnR s).2.inp.length ≤ s.inp.length := by
  have h0 := numR_bdg 2 s hb hl
  have h1 := numR_bdg 2 _ h0.2.1 (by omega)
  exact ⟨⟨h0.1, h1.1⟩, h1.2.1, by have := h1.2.2; have := h0.2.2; simp only [lnR]; omega⟩
theorem funcsR_bd : ∀ (n : Nat) (s : RS) (p : Int), ByteL s.inp → s.inp.length ≤ 1000000 → 0 ≤ p → (funcsR n s p).1.length ≤ n ∧ (∀ f ∈ (funcsR n s p).1, (0 ≤ f.start ∧ f.start ≤ p + 65536 * n) ∧ N64 f.size ∧ f.name.size ≤ 1000000) ∧ ByteL (funcsR n s p).2.inp ∧ (funcsR n s p).2.inp.length ≤ s.inp.length := by
  intro n
  induction n with
  | zero => intro s p hb hl _; exact ⟨Nat.le_refl _, fun x hx => (by cases hx), hb, Nat.le_refl _⟩
  | succ n ih =>
    intro s p hb hl hp
    simp only [funcsR]
    split
    · exact ⟨Nat.zero_le _, fun x hx => (by cases hx), hb, Nat.le_refl _⟩
    · have h0 := numR_bdg 1 s hb hl
      have h1 := takeR_bytes (numR s 1).1 h0.2.1
      have h1l := takeR_len (numR s 1).2 (numR s 1).1
      have h1m := takeR_le (numR s 1).2 (numR s 1).1
      have h2 := numR_bdg 2 _ h1.1 (by have := h0.2.2; omega)
      have h3 := numR_bd2 h1.1
      obtain ⟨i1, i2, i3, i4⟩ := ih _ (p + (numR (takeR (numR s 1).2 (numR s 1).1).2 2).1) h2.2.1 (by have := h0.2.2; have := h2.2.2; omega) (by omega)
      refine ⟨by simp only [List.length_cons]; omega, fun f hf => ?_, i3, by have := h0.2.2; have := h2.2.2; simp only; omega⟩
      rcases List.mem_cons.1 hf with rfl | hf
      · refine ⟨⟨hp, by simp only; omega⟩, h2.1, ?_⟩
        simp only [strOf_size]
        have := h0.2.2
        omega
      · obtain ⟨j1, j2, j3⟩ := i2 f hf
        refine ⟨⟨j1.1, ?_⟩, j2, j3⟩
        have := j1.2
        push_cast
        omega
theorem bodyR_bd (s : RS) (hb : ByteL s.inp) (hl : s.inp.length ≤ 1000000) : ImgB (bodyR s).1 := by
  have a0 := numR_bdg 2 s hb hl
  have t1 : ByteL (textR s).1 ∧ ByteL (textR s).2.inp ∧ (textR s).1.length ≤ 1000000 ∧ (textR s).2.inp.length ≤ s.inp.length := by
    have h1 := takeR_bytes (numR s 2).1 a0.2.1
    have h2 := takeR_len (numR s 2).2 (numR s 2).1
    have h3 := takeR_le (numR s 2).2 (numR s 2).1
    exact ⟨h1.2, h1.1, by have := a0.2.2; simp only [textR]; omega, by have := a0.2.2; simp only [textR]; omega⟩
  have b0 := numR_bdg 1 _ t1.2.1 (by omega)
  have b1 := numR_bd1 t1.2.1
  have f1 : (fnsR (textR s).2).1.length ≤ 1000000 ∧ (∀ f ∈ (fnsR (textR s).2).1, N64 f.start ∧ N64 f.size ∧ f.name.size ≤ 1000000) ∧ ByteL (fnsR (textR s).2).2.inp ∧ (fnsR (textR s).2).2.inp.length ≤ s.inp.length := by
    obtain ⟨i1, i2, i3, i4⟩ := funcsR_bd (numR (textR s).2 1).1.toNat _ 0 b0.2.1 (by omega) (by omega)
    refine ⟨by simp only [fnsR]; omega, fun f hf => ?_, i3, by simp only [fnsR]; omega⟩
    obtain ⟨j1, j2, j3⟩ := i2 f hf
    exact ⟨by unfold N64; omega, j2, j3⟩
  have e0 := numR_bdg 1 _ f1.2.2.1 (by omega)
  have c0 := numR_bdg 1 _ e0.2.1 (by omega)
  have c1 := numR_bd1 e0.2.1
  have g1 := manyR_bd (p := fun t : List Int => t.length ≤ 1000000 ∧ ∀ x ∈ t, N64 x) tabR_bd (numR (numR (fnsR (textR s).2).2 1).2 1).1.toNat _ c0.2.1 (by omega)
  rw [← tabsR_many] at g1
  have d0 := numR_bdg 1 (tbsR (numR (fnsR (textR s).2).2 1).2).2 g1.2.2.1 (by have := g1.2.2.2; simp only [tbsR]; omega)
  have d1 := numR_bd1 (s := (tbsR (numR (fnsR (textR s).2).2 1).2).2) g1.2.2.1
  have k1 := manyR_bd (numR_bdg 8) (numR (tbsR (numR (fnsR (textR s).2).2 1).2).2 1).1.toNat _ d0.2.1 (by have := g1.2.2.2; have := d0.2.2; simp only [tbsR] at this ⊢; omega)
  rw [← intsR_many] at k1
  have l0 := numR_bdg 2 (dtaR (tbsR (numR (fnsR (textR s).2).2 1).2).2).2 k1.2.2.1 (by have := g1.2.2.2; have := d0.2.2; have := k1.2.2.2; simp only [tbsR, dtaR] at *; omega)
  have l1 := numR_bd2 (s := (dtaR (tbsR (numR (fnsR (textR s).2).2 1).2).2).2) k1.2.2.1
  have n1 := manyR_bd (p := fun l : Int × Int => N64 l.1 ∧ N64 l.2) lnR_bd (numR (dtaR (tbsR (numR (fnsR (textR s).2).2 1).2).2).2 2).1.toNat _ l0.2.1 (by have := g1.2.2.2; have := d0.2.2; have := k1.2.2.2; have := l0.2.2; simp only [tbsR, dtaR] at *; omega)
  rw [← linesR_many] at n1
  exact ⟨t1.2.2.1, t1.1, f1.1, f1.2.1, by have := g1.1; simp only [bodyR, tbsR]; omega, g1.2.1, by have := k1.1; simp only [bodyR, dtaR]; omega, k1.2.1, by have := n1.1; simp only [bodyR, lnsR]; omega, n1.2.1, e0.1⟩
/-- bytes as a string -/
theorem conv_str {w : World} {A : Option Addr} {n c B : Nat} {L : List Int} (hR : RdG w B A (intsV .u8 L)) (hb : ByteL L) (hA : A = none → L = []) (hn : L.length = n) : (convert 23 9 (.slice A n c)).run Tryd.prog w = .ok (.string (strOf L)) w := by
  subst hn
  rcases A with _ | ⟨g, o, p⟩
  · rw [hA rfl, run_convert_bytes_string w 23 9 5 none _ c Tryd.underlying23 Tryd.underlying5 Tryd.underlying9]
    kernel_rfl
  · have h := run_convert_bytes_back (P := Tryd.prog) w 23 9 5 ⟨g, o, p⟩ c (L.map fun x => x.toNat.toUInt8) Tryd.underlying23 Tryd.underlying5 Tryd.underlying9 (fun j hj => ?_)
    · rw [List.length_map] at h
      exact h
    · rw [List.length_map] at hj
      have hj2 : L[j]? = some L[j] := List.getElem?_eq_getElem hj
      obtain ⟨b, o', he, -, hc⟩ := hR (fun e => by have := List.map_eq_nil_iff.1 e; subst this; simp at hj)
      injection he with he
      injection he with e1 e2 e3
      subst e1 e2 e3
      have e : ((⟨g, o, none⟩ : Addr).add j) = ⟨g, o + j, none⟩ := by unfold Addr.add; split <;> simp_all
      rw [e, hc j _ (intsV_at .u8 hj2)]
      obtain ⟨h1, h2⟩ := hb _ (List.getElem_mem hj)
      obtain ⟨q, hq⟩ : ∃ q : Nat, L[j] = q := ⟨L[j].toNat, by omega⟩
      have hq2 : q < 256 := by omega
      simp [hq, Nat.toUInt8, UInt8.toNat_ofNat', Nat.mod_eq_of_lt hq2]
end Go.Proofs.YtdliienkbpdnbaaDoor
