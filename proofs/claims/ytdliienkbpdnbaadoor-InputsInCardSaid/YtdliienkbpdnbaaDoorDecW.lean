/- slices.Clone at bytes, image.reader's take and number, walked. -/
import Derived.Test.YtdliienkbpdnbaaDoorEncW
import Derived.Lib.SliceRun
namespace Go.Proofs.YtdliienkbpdnbaaDoor
open Go.RowKit
theorem run_append_zero {P : Program} (w : World) (t ty e : TypeId) (i : TypeInfo) (ht : P.underlying t = some (.slice e)) (hi : P.info? e = some i) (A : Option Addr) (n c : Nat) (hn : n ≤ c) (a : Addr) (cx : Nat) :
    (Builtin.append_ #[t, t] ty #[.slice A n c, .slice (some a) 0 cx]).run P w = .ok (.slice A n c) w := by
  cases A <;> simp [Builtin.append_, run_underlying ht, sizeOf, typeInfo, hi, Builtin.lenOf, Builtin.firstCells, hn, storeCells, loadCells, loadCellsFrom]
theorem app_zero {w : World} {ops : Array Oper} {rest : List Oper} {o : Oper} {a : Act} {Q : Exit → Act → World → Prop} (hgd : o.guard = none) (s x : Operand)
    (ho : o.op = .call { callee := .builtin .append, args := #[s, x], argTypes := #[23, 23] }) (A : Option Addr) (n c : Nat) (hs : a.eval s = .slice A n c) (g : Addr) (cx : Nat) (hx : a.eval x = .slice (some g) 0 cx) (hn : n ≤ c)
    (h : wpList Tryd.prog ops Q rest (a.put o.dst (.slice A n c)) w) : wpList Tryd.prog ops Q (o :: rest) a w := by
  obtain ⟨i0, hi, hz0, hz1, hz2⟩ := info_parts infoU8'
  have hr := run_append_zero (P := Tryd.prog) w 23 o.type 5 i0 Tryd.underlying23 hi A n c hn g cx
  refine wpList_plain hgd fun _ hK => ?_
  unfold Oper.wp execOp
  simp only [ho, resolve, invoke, builtin, Sem.run_bind, Sem.run_pure, Result.andThen_ok, List.map_toArray, List.map_cons, List.map_nil, hs, hx, hr]
  exact hK _ _ h
/-- append of what stands at an address -/
theorem app_rd {w : World} {ops : Array Oper} {rest : List Oper} {o : Oper} {a : Act} {Q : Exit → Act → World → Prop} (hgd : o.guard = none) (s x : Operand) (ST ET sz by_ : Nat) (z : Value)
    (hu : Tryd.prog.underlying ST = some (.slice ET)) (hinfo : (Tryd.prog.info? ET).map (fun i => (i.zero, i.size, i.bytes)) = some (some z, sz, by_)) (hzs : z.cells.size = sz) (hsz : 0 < sz)
    (ho : o.op = .call { callee := .builtin .append, args := #[s, x], argTypes := #[ST, ST] }) (base : Nat) (v : Value) (n : Nat) (xs : List Value) (hs : a.eval s = v) (hown : w.ownsRow base ET sz v n xs)
    (g og m c : Nat) (hx : a.eval x = .slice (some ⟨g, og, none⟩) m c) (cs : List Value) (hb : ∀ j u, cs[j]? = some u → w.cell? ⟨g, og + j, none⟩ = some u) (hcl : cs.length = m * sz) (hm : 0 < m) (h1 : ∀ u ∈ cs, u.oneCell' = true)
    (hn : n + m ≤ 1000000000000) (hn2 : (n + m) * by_ ≤ 140737488355328) (hbase : base ≤ w.heap.size) (H : Nat) (hH : w.heap.size = H)
    (h : ∀ g' cap' w', w'.ownsRow base ET sz (.slice (some ⟨g', 0, none⟩) (n + m) cap') (n + m) (xs ++ cs) → w.grownBy w' v.ownBlock → (v.ownBlock = some g' ∨ g' = H) → g' < w'.heap.size → wpList Tryd.prog ops Q rest (a.put o.dst (.slice (some ⟨g', 0, none⟩) (n + m) cap')) w') :
    wpList Tryd.prog ops Q (o :: rest) a w := by
  obtain ⟨i0, hi, hz0, hz1, hz2⟩ := info_parts hinfo
  refine wpList_append_lies w hgd s x ST ho base ET i0 z sz by_ hu hi hz0 hz1 hz2 hzs hsz v n xs hs hown ⟨g, og, none⟩ m c cs hx hcl (fun j u hu => ?_) h1 hm (by unfold maxLen; omega) hn2 hbase H hH h
  have e : ((⟨g, og, none⟩ : Addr).add j) = ⟨g, og + j, none⟩ := by unfold Addr.add; split <;> simp_all
  rw [e]
  exact hb j u hu
/-- what a clone of cells is: a row of the call's own -/
def ClonePost (w : World) (e : TypeId) (sz : Nat) (n : Nat) (xs : List Value) (en : Ending) (w' : World) : Prop :=
  ∃ A c, en = .returned (.slice A n c) ∧ Below w.heap.size w w' ∧ w'.ownsRow w.heap.size e sz (.slice A n c) n xs
theorem own_empty (w : World) (e : TypeId) (sz : Nat) : (w.alloc (.cells #[] e)).ownsRow w.heap.size e sz (.slice (some ⟨w.heap.size, 0, none⟩) 0 0) 0 [] :=
  ⟨by simp, .inr ⟨w.heap.size, 0, #[], rfl, Nat.le_refl _, heap_alloc_new w _, Nat.le_refl _, by decide, by simp, by simp⟩⟩
set_option maxRecDepth 100000 in
theorem clone_u8 (L : List Int) (A : Option Addr) (n c : Nat) (w : World) (hn : L.length = n) (hA : A = none → n = 0) (hm : n ≤ 1000000) (hR : RdG w w.heap.size A (intsV .u8 L)) :
    Calls Tryd.prog 19 #[.slice A n c] w (ClonePost w 5 1 n (intsV .u8 L)) := by
  rcases A with _ | ⟨g0, og0, p0⟩
  · obtain rfl := hA rfl
    obtain rfl := List.length_eq_zero_iff.1 hn
    have hu : (binOp .eql 23 (.slice none 0 c) (.slice none 0 0)).run Tryd.prog w = .ok (.bool true) w := by kernel_rfl
    go_enter Tryd.func19, Tryd.ntmps19
    go_wp2
    go_ret
    exact ⟨none, 0, rfl, Below.refl _ _, rfl, .inl ⟨rfl, rfl⟩⟩
  · have hu : (binOp .eql 23 (.slice (some ⟨g0, og0, p0⟩) n c) (.slice none 0 0)).run Tryd.prog w = .ok (.bool false) w := Lib.run_eql_slice_nil w _ _ _ n c 0 0 Tryd.underlying23
    rcases Nat.eq_zero_or_pos n with rfl | hpos
    · obtain rfl := List.length_eq_zero_iff.1 hn
      go_enter Tryd.func19, Tryd.ntmps19
      go_wp2_with (first | (refine app_zero rfl _ _ rfl _ 0 0 rfl ⟨g0, og0, p0⟩ c rfl (Nat.le_refl _) ?_))
      go_ret
      exact ⟨_, 0, rfl, (Below.refl _ _).alloc (Nat.le_refl _) _, own_empty _ _ _⟩
    · obtain ⟨b, o, he, hb, hc⟩ := hR (fun e => by have := List.map_eq_nil_iff.1 e; subst this; simp at hn; omega)
      injection he with he
      injection he with e1 e2 e3
      subst e1 e2 e3
      have HC : Hid (∀ j u, (intsV .u8 L)[j]? = some u → (w.alloc (.cells #[] 5)).cell? ⟨g0, og0 + j, none⟩ = some u) := Lib.hid fun j u hj => (((Below.refl w.heap.size w).alloc (Nat.le_refl _) _).cell (p := ⟨g0, og0 + j, none⟩) hb).trans (hc j u hj)
      have HL : Hid ((intsV .u8 L).length = n * 1) := Lib.hid (by rw [intsV_len, hn, Nat.mul_one])
      clear hc hn hR
      go_enter Tryd.func19, Tryd.ntmps19
      go_wp2_with (first | (refine app_rd rfl _ _ 23 5 1 1 _ Tryd.underlying23 infoU8' rfl (by decide) rfl w.heap.size _ 0 [] rfl (own_empty _ _ _) g0 og0 n c rfl _ HC.out HL.out hpos (intsV_one _ _) (by omega) (by omega) (by simp) (w.heap.size + 1) (by simp) ?a1))
      case a1 =>
        intro g' c' w' ho hgr hat hlt
        have hb0 : Below w.heap.size w (w.alloc (.cells #[] 5)) := (Below.refl _ _).alloc (Nat.le_refl _) _
        have hB : Below w.heap.size w w' := hb0.grown hgr (by simp) (fun q hq => by have e : some w.heap.size = some q := hq; injection e with e; omega)
        have HO := Lib.hid ho
        have HB := Lib.hid hB
        have hnm : 0 + n = n := by omega
        clear ho hgr hat hB hb0
        go_wp2
        go_ret
        exact ⟨_, c', rfl, HB.out, HO.out⟩
/-- a reader in block X; what is left of its bytes lies below block B -/
def RdrSt (w : World) (B X : Nat) (s : RS) : Prop :=
  ∃ A c, Blk w X 96 [.slice A s.inp.length c, .bool s.sh] ∧ RdG w B A (intsV .u8 s.inp) ∧ (A = none → s.inp = []) ∧ s.inp.length ≤ c ∧ s.inp.length ≤ 1000000 ∧ B ≤ X
def TakePost (w : World) (B X : Nat) (r : List Int × RS) (e : Ending) (w' : World) : Prop :=
  ∃ A c, e = .returned (.slice A r.1.length c) ∧ w'.ownsRow w.heap.size 5 1 (.slice A r.1.length c) r.1.length (intsV .u8 r.1) ∧ w.grownBy w' (some X) ∧ RdrSt w' B X r.2
theorem take_short {w : World} {B X c : Nat} {s : RS} {A : Option Addr} (hB : Blk w X 96 [.slice A s.inp.length c, .bool s.sh]) (hR : RdG w B A (intsV .u8 s.inp)) (hA : A = none → s.inp = []) (h1 : s.inp.length ≤ c) (h2 : s.inp.length ≤ 1000000) (h3 : B ≤ X) :
    TakePost w B X ([], ⟨s.inp, true⟩) (.returned (.slice none 0 0)) (w.setCell ⟨X, 1, none⟩ (.bool true)) := by
  have hg : w.grownBy (w.setCell ⟨X, 1, none⟩ (.bool true)) (some X) := gb_setCell (gb_refl _ _) _ _
  have hb : Below B w (w.setCell ⟨X, 1, none⟩ (.bool true)) := gb_to_below hg h3 (by have := hB.lt; omega)
  exact ⟨none, 0, rfl, ⟨rfl, .inl ⟨rfl, rfl⟩⟩, hg, A, c, hB.set 1 _, hR.below hb, hA, h1, h2, h3⟩
theorem take_at {A : Option Addr} {b o n c : Nat} (h : A = some ⟨b, o, none⟩) : (if c = n then A else Option.map (fun a => a.add (n * 1)) A) = some ⟨b, if c = n then o else o + n, none⟩ := by
  subst h
  split
  · rfl
  · simp [Addr.add]
theorem RdG.dropU {w : World} {B : Nat} {A A2 : Option Addr} {L : List Int} {k : Nat} (h : RdG w B A (intsV .u8 L)) (hA : ∀ b o, A = some ⟨b, o, none⟩ → L.drop k ≠ [] → A2 = some ⟨b, o + k, none⟩) : RdG w B A2 (intsV .u8 (L.drop k)) := by
  intro hn
  have hd : L.drop k ≠ [] := fun e => hn (by rw [e]; rfl)
  have hL : L ≠ [] := fun e => hd (by rw [e]; simp)
  obtain ⟨b, o, he, hb, hc⟩ := h (fun e => hL (List.map_eq_nil_iff.1 e))
  refine ⟨b, o + k, hA b o he hd, hb, fun j v hv => ?_⟩
  rw [Nat.add_assoc]
  refine hc (k + j) v ?_
  simp only [intsV, List.getElem?_map, List.getElem?_drop] at hv ⊢
  exact hv
theorem take_fin {w w' : World} {B X c c2 k d : Nat} {s : RS} {A A2 : Option Addr} {e : Ending} (hB : Blk w X 96 [.slice A s.inp.length c, .bool s.sh]) (hR : RdG w B A (intsV .u8 s.inp)) (hsh : s.sh = false) (hk : k ≤ s.inp.length)
    (hA : ∀ b o, A = some ⟨b, o, none⟩ → s.inp.drop k ≠ [] → A2 = some ⟨b, o + k, none⟩) (hA2 : A2 = none → s.inp.drop k = []) (hc2 : s.inp.length - k ≤ c2) (h2 : s.inp.length ≤ 1000000) (h3 : B ≤ X) (hdl : d = s.inp.length - k)
    (h : ClonePost (w.setCell ⟨X, 0, none⟩ (.slice A2 d c2)) 5 1 k (intsV .u8 (s.inp.take k)) e w') : TakePost w B X (s.inp.take k, ⟨s.inp.drop k, false⟩) e w' := by
  subst hdl
  obtain ⟨A', c', he, hb, ho⟩ := h
  have hl : (s.inp.take k).length = k := by rw [List.length_take]; omega
  have hd : (s.inp.drop k).length = s.inp.length - k := by simp
  have hg : w.grownBy (w.setCell ⟨X, 0, none⟩ (.slice A2 (s.inp.length - k) c2)) (some X) := gb_setCell (gb_refl _ _) _ _
  have hg2 := gb_trans hg (gb_below (row := some X) hb)
  have hbw : Below B w w' := gb_to_below hg2 h3 (by have := hB.lt; omega)
  refine ⟨A', c', by simp only [hl]; exact he, by simp only [hl]; exact own_more ho (by simp [World.setCell]), hg2, A2, c2, ?_, (hR.below hbw).dropU hA, hA2, by simp only [hd]; exact hc2, by simp only [hd]; omega, h3⟩
  have hx := (hB.set 0 (.slice A2 (s.inp.length - k) c2)).keep hb
  rw [hsh] at hx
  simp only [hd]
  exact hx
set_option maxHeartbeats 4000000 in
set_option maxRecDepth 100000 in
theorem take_any (B X : Nat) (s : RS) (n : Int) (w : World) (hn : 0 ≤ n) (h : RdrSt w B X s) : Calls Tryd.prog 42 #[.pointer (some ⟨X, 0, none⟩), .int .i64 n] w (TakePost w B X (takeR s n)) := by
  obtain ⟨A, c, hB, hR, hA, hc, hl, hBX⟩ := h
  have x0 := hB.cell 0 rfl
  have x1 := hB.cell 1 rfl
  have xf0 := hB.free 0
  have xf1 := hB.free 1
  have xl := hB.lt
  rcases hsh : s.sh with _ | _
  case true =>
    have hF := Lib.hid (take_short hB hR hA hc hl hBX)
    have e : takeR s n = ([], ⟨s.inp, true⟩) := by unfold takeR; rw [if_pos (.inl hsh)]
    rw [e]
    rw [hsh] at x1
    clear hB hR
    go_enter Tryd.func42, Tryd.ntmps42
    go_wp2
    go_ret
    exact hF.out
  case false =>
    by_cases hlt : (s.inp.length : Int) < n
    · have hF := Lib.hid (take_short hB hR hA hc hl hBX)
      have e : takeR s n = ([], ⟨s.inp, true⟩) := by unfold takeR; rw [if_pos (.inr hlt)]
      rw [e]
      rw [hsh] at x1
      clear hB hR
      go_enter Tryd.func42, Tryd.ntmps42
      go_wp2
      go_ret
      exact hF.out
    · have e : takeR s n = (s.inp.take n.toNat, ⟨s.inp.drop n.toNat, false⟩) := by unfold takeR; rw [if_neg (by rw [hsh]; simp; omega)]
      rw [e]
      rw [hsh] at x1
      obtain ⟨k, rfl⟩ : ∃ k : Nat, n = k := ⟨n.toNat, by omega⟩
      simp only [Int.toNat_natCast]
      obtain ⟨N, hN⟩ : ∃ z, s.inp.length = z := ⟨_, rfl⟩
      rw [hN] at x0 hlt hc hl
      have hkN : k ≤ N := by omega
      have hkI : (k : Int) ≤ (N : Int) := by omega
      have hNcI : (N : Int) ≤ (c : Int) := by omega
      have HB := Lib.hid hB
      have HR := Lib.hid hR
      have HN := Lib.hid hN
      have HA := Lib.hid hA
      clear hB hR hN hA
      have HNX : Hid (∀ (A2 : Option Addr) (d c2 : Nat), RdG (w.setCell ⟨X, 0, none⟩ (.slice A2 d c2)) (w.setCell ⟨X, 0, none⟩ (.slice A2 d c2)).heap.size A (intsV .u8 (s.inp.take k))) := Lib.hid fun A2 d c2 => by
        have hg : w.grownBy (w.setCell ⟨X, 0, none⟩ (.slice A2 d c2)) (some X) := gb_setCell (gb_refl _ _) _ _
        have hz : (w.setCell ⟨X, 0, none⟩ (.slice A2 d c2)).heap.size = w.heap.size := by simp [World.setCell]
        rw [hz]
        have h1 := (HR.out.below (gb_to_below hg hBX (by omega))).more (B' := w.heap.size) (by omega)
        have e : intsV .u8 (s.inp.take k) = (intsV .u8 s.inp).take k := by simp [intsV]
        rw [e]
        exact h1.take k
      by_cases hck : c = k
      · subst hck
        obtain rfl : N = c := by omega
        have HFI : Hid (∀ e w', ClonePost (w.setCell ⟨X, 0, none⟩ (.slice A 0 0)) 5 1 N (intsV .u8 (s.inp.take N)) e w' → TakePost w B X (s.inp.take N, ⟨s.inp.drop N, false⟩) e w') := Lib.hid fun e w' h => by
          have hd : s.inp.drop N = [] := List.drop_of_length_le (by rw [HN.out]; exact Nat.le_refl _)
          exact take_fin HB.out HR.out hsh (by rw [HN.out]; exact Nat.le_refl _) (fun b o _ hne => absurd hd hne) (fun _ => hd) (by rw [HN.out]; omega) (by rw [HN.out]; exact hl) hBX (by rw [HN.out]; omega) h
        go_enter Tryd.func42, Tryd.ntmps42
        go_wp2_with fail
        refine (clone_u8 (s.inp.take N) A N N _ (by rw [List.length_take, HN.out]; omega) (fun e => by have := HA.out e; have h2 := HN.out; rw [this] at h2; exact h2.symm) hl (HNX.out _ _ _)).mono ?_
        intro e w' hcp
        have hfi := HFI.out e w' hcp
        obtain ⟨A', c', rfl, -⟩ := hcp
        have HFO := Lib.hid hfi
        clear hfi
        go_wp2
        go_ret
        exact HFO.out
      · have hckI : ¬ (c : Int) = (k : Int) := by omega
        have HFI : Hid (∀ (c2 : Nat) e w', c2 = c - k → ClonePost (w.setCell ⟨X, 0, none⟩ (.slice (Option.map (fun x => x.add k) A) (N - k) c2)) 5 1 k (intsV .u8 (s.inp.take k)) e w' → TakePost w B X (s.inp.take k, ⟨s.inp.drop k, false⟩) e w') := Lib.hid fun c2 e w' hc2 h => by
          refine take_fin (A2 := Option.map (fun x => x.add k) A) (c2 := c2) HB.out HR.out hsh (by rw [HN.out]; exact hkN) (fun b o he _ => by rw [he]; simp [Addr.add]) (fun he => ?_) (by rw [HN.out]; omega) (by rw [HN.out]; exact hl) hBX (by rw [HN.out]) h
          have := HA.out (Option.map_eq_none_iff.1 he)
          rw [this]
          simp
        go_enter Tryd.func42, Tryd.ntmps42
        go_wp2_with fail
        refine (clone_u8 (s.inp.take k) A k c _ (by rw [List.length_take, HN.out]; omega) (fun e => by have := HA.out e; have h2 := HN.out; rw [this] at h2; simp only [List.length_nil] at h2; omega) (by omega) (HNX.out _ _ _)).mono ?_
        intro e w' hcp
        have hfi := HFI.out _ e w' rfl hcp
        obtain ⟨A', c', rfl, -⟩ := hcp
        have HFO := Lib.hid hfi
        clear hfi
        go_wp2
        go_ret
        exact HFO.out
theorem RdrSt.keep {w w' : World} {B X : Nat} {s : RS} (h : RdrSt w B X s) (hb : Below w.heap.size w w') : RdrSt w' B X s := by
  obtain ⟨A, c, h1, h2, h3, h4, h5, h6⟩ := h
  exact ⟨A, c, h1.keep hb, h2.below (hb.mono (by have := h1.lt; omega)), h3, h4, h5, h6⟩
theorem foldB_take {l : List Int} {k : Nat} {b : Int} (h : l[k]? = some b) : foldB (l.take (k + 1)) = wrap64 (foldB (l.take k) * 256) + b := by
  rw [List.take_add_one, h]
  exact foldB_snoc _ _
theorem or_low (x b : Int) (h0 : x % 256 = 0) (h1 : -9223372036854775808 ≤ x) (h2 : x ≤ 9223372036854775807) (hb : 0 ≤ b) (hb2 : b < 256) : bits .or .i64 x b = x + b := by
  by_cases hx : 0 ≤ x
  · exact bits_join .i64 63 (by decide) (fun n h h' => IntWalk.i64_in n (by omega)) 8 x b hx h0 (by omega) hb (by omega) (by omega)
  · have hu : ∀ n : Int, 0 ≤ n → n < 2 ^ 64 → IntKind.u64.wrap n = n := fun n h h' => by simp [IntKind.wrap, IntKind.bits, IntKind.signed]; omega
    have h3 := bits_join .u64 64 (by decide) hu 8 (x + 18446744073709551616) b (by omega) (by omega) (by omega) hb (by omega) (by omega)
    have e : BitVec.ofInt 64 (x + 18446744073709551616) = BitVec.ofInt 64 x := by
      apply BitVec.eq_of_toNat_eq
      simp only [BitVec.toNat_ofInt]
      omega
    have h4 : IntKind.u64.wrap (((BitVec.ofInt 64 (x + 18446744073709551616) ||| BitVec.ofInt 64 b).toNat : Nat) : Int) = x + 18446744073709551616 + b := h3
    have h5 : bits .or .i64 x b = IntKind.i64.wrap (((BitVec.ofInt 64 x ||| BitVec.ofInt 64 b).toNat : Nat) : Int) := rfl
    have h6 := (BitVec.ofInt 64 x ||| BitVec.ofInt 64 b).isLt
    rw [e, hu _ (by omega) (by omega)] at h4
    rw [h5, h4, IntKind.wrap_i64]
    omega
theorem takeR_le (s : RS) (n : Int) : (takeR s n).1.length ≤ s.inp.length := by
  unfold takeR
  split
  · exact Nat.zero_le _
  · simp only [List.length_take]
    omega
def NumPost (w : World) (B X : Nat) (r : Int × RS) (e : Ending) (w' : World) : Prop := e = .returned (.int .i64 r.1) ∧ w.grownBy w' (some X) ∧ RdrSt w' B X r.2
set_option maxHeartbeats 4000000 in
set_option maxRecDepth 100000 in
theorem rnum_any (B X : Nat) (s : RS) (n : Int) (w : World) (hn : 0 ≤ n) (hb : ByteL s.inp) (h : RdrSt w B X s) : Calls Tryd.prog 43 #[.pointer (some ⟨X, 0, none⟩), .int .i64 n] w (NumPost w B X (numR s n)) := by
  have hbt := (takeR_bytes n hb).2
  have hle := takeR_le s n
  have h6 : s.inp.length ≤ 1000000 := by obtain ⟨_, _, _, _, _, _, h6, _⟩ := h; exact h6
  have HT := Lib.hid (take_any B X s n w hn h)
  unfold numR
  obtain ⟨⟨l, s'⟩, hl⟩ : ∃ z, takeR s n = z := ⟨_, rfl⟩
  rw [hl] at HT hbt hle ⊢
  simp only at hbt hle ⊢
  have HBT := Lib.hid hbt
  clear hbt h hl hb
  go_enter Tryd.func43, Tryd.ntmps43
  go_wp2_with fail
  refine HT.out.mono ?_
  rintro e w1 ⟨A, c, rfl, ho, hg, hr⟩
  simp only at ho hr ⊢
  obtain ⟨N, hN⟩ : ∃ z, l.length = z := ⟨_, rfl⟩
  rw [hN] at ho hle ⊢
  have hNb : N ≤ 1000000 := by omega
  clear hle h6
  have HO := Lib.hid ho
  have HG := Lib.hid hg
  have HR := Lib.hid hr
  have HN := Lib.hid hN
  clear ho hg hr hN HT
  go_wp2_with fail
  go_loopg [5, 12] N (fun gk s5 s12 wr => ∃ k : Nat, k ≤ N ∧ s12 = .int .i64 (k : Int) ∧ s5 = .int .i64 (foldB (l.take k)) ∧ Hid (Below w1.heap.size w1 wr) ∧ N - k ≤ gk)
  case atStart => exact ⟨0, Nat.zero_le _, rfl, rfl, Lib.hid (Below.refl _ _), Nat.le_refl _⟩
  case round =>
    obtain ⟨k, hk, rfl, rfl, HB, hgk⟩ := hrel
    by_cases hlt : k < N
    · have hx : l[k]? = some (l[k]'(by have := HN.out; omega)) := List.getElem?_eq_getElem _
      obtain ⟨b, hbb⟩ : ∃ f, l[k]'(by have := HN.out; omega) = f := ⟨_, rfl⟩
      rw [hbb] at hx
      obtain ⟨hb1, hb2⟩ := HBT.out b (List.mem_of_getElem? hx)
      obtain ⟨g, rfl⟩ : ∃ g, A = some ⟨g, 0, none⟩ := by
        rcases HO.out.2 with ⟨e, e2⟩ | ⟨g, cap, cur, hv, -⟩
        · omega
        · injection hv with h1
          exact ⟨g, h1⟩
      obtain ⟨hnc, -, hgl, hat⟩ := own_at HO.out
      have d0 : wr.cell? ⟨g, k, none⟩ = some (.int .u8 b) := (HB.out.cell (p := ⟨g, k, none⟩) hgl).trans (hat k _ (intsV_at .u8 hx))
      have hgw : g < wr.heap.size := by have := HB.out.size; omega
      have hfo := foldB_take hx
      obtain ⟨F, hF⟩ : ∃ z, foldB (l.take k) = z := ⟨_, rfl⟩
      rw [hF] at hfo ⊢
      have HFO := Lib.hid hfo
      clear hfo hF hbb hx hat
      go_wp2_with fail
      go_roundg (N - (k + 1))
      case measure => omega
      case rel => exact ⟨k + 1, by omega, by go_num, by rw [HFO.out, or_low _ _ (by unfold wrap64; omega) (by unfold wrap64; omega) (by unfold wrap64; omega) hb1 hb2], HB, Nat.le_refl _⟩
    · obtain rfl : k = N := by omega
      have HLN : Hid (foldB (l.take k) = foldB l) := Lib.hid (by rw [List.take_of_length_le (by rw [HN.out]; exact Nat.le_refl _)])
      go_wp2_with fail
      go_ret
      exact ⟨by rw [← HLN.out]; rfl, gb_trans HG.out (gb_below HB.out), HR.out.keep HB.out⟩
end Go.Proofs.YtdliienkbpdnbaaDoor
