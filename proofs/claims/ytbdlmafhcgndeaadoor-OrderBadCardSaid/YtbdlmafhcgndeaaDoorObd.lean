/- OrderBad's edges, and its flow with one function more. -/
import Derived.Test.YtbdlmafhcgndeaaDoorPlc
import Derived.Lib.SliceRun
import Derived.Deep.DeepCutAuto
import Derived.IntWalk
import Derived.WalkLawsBesides
namespace Go.Proofs.YtbdlmafhcgndeaaDoor
open Go.RowKit Go.Deep
theorem infoIntNO : (Tryd.prog.info? 3).map (fun i => (i.zero, i.size, i.bytes)) = some (some (.int .i64 0), 1, 8) := by kernel_rfl
theorem app_liesO {w : World} {ops : Array Oper} {rest : List Oper} {o : Oper} {a : Act} {Q : Exit → Act → World → Prop} (hgd : o.guard = none) (s x : Operand) (ST ET sz by_ : Nat) (z : Value)
    (hu : Tryd.prog.underlying ST = some (.slice ET)) (hinfo : (Tryd.prog.info? ET).map (fun i => (i.zero, i.size, i.bytes)) = some (some z, sz, by_)) (hzs : z.cells.size = sz) (hsz : 0 < sz)
    (ho : o.op = .call { callee := .builtin .append, args := #[s, x], argTypes := #[ST, ST] }) (base : Nat) (v : Value) (n : Nat) (xs : List Value) (hs : a.eval s = v) (hown : w.ownsRow base ET sz v n xs)
    (ad : Addr) (m c : Nat) (cs : List Value) (hx : a.eval x = .slice (some ad) m c) (hcl : cs.length = m * sz) (hb : ∀ j u, cs[j]? = some u → w.cell? (ad.add j) = some u) (h1 : ∀ u ∈ cs, u.oneCell' = true) (hm : 0 < m)
    (hn : n + m ≤ maxLen) (hn2 : (n + m) * by_ ≤ 140737488355328) (hbase : base ≤ w.heap.size) (H : Nat) (hH : w.heap.size = H)
    (h : ∀ g' cap' w', w'.ownsRow base ET sz (.slice (some ⟨g', 0, none⟩) (n + m) cap') (n + m) (xs ++ cs) → w.grownBy w' v.ownBlock → (v.ownBlock = some g' ∨ g' = H) → g' < w'.heap.size → wpList Tryd.prog ops Q rest (a.put o.dst (.slice (some ⟨g', 0, none⟩) (n + m) cap')) w') : wpList Tryd.prog ops Q (o :: rest) a w := by
  obtain ⟨i0, hi, hz0, hz1, hz2⟩ := info_parts hinfo
  exact wpList_append_lies w hgd s x ST ho base ET i0 z sz by_ hu hi hz0 hz1 hz2 hzs hsz v n xs hs hown ad m c cs hx hcl hb h1 hm hn hn2 hbase H hH h
theorem ints_oneO (l : List Int) : ∀ u ∈ intsV .i64 l, u.oneCell' = true := by
  intro u hu
  unfold intsV at hu
  obtain ⟨x, -, rfl⟩ := List.mem_map.1 hu
  rfl
theorem own_leO {w : World} {base : Nat} {e : TypeId} {size n c : Nat} {A : Option Addr} {xs : List Value} (h : w.ownsRow base e size (.slice A n c) n xs) : n ≤ c := by
  rcases h.2 with ⟨e, -⟩ | ⟨g, cap, cur, e, -, -, hn, -⟩
  · injection e with _ e1 e2
    omega
  · injection e with _ _ e2
    omega
/-- OrderBad's edges -/
def oddE (N : Int) : Nat → List EdgD
  | 0 => [⟨N, 0, 1⟩]
  | 1 => [⟨0, -1, 1⟩]
  | 2 => [⟨0, 0, 0⟩]
  | 3 => [⟨0, 0, 1073741825⟩]
  | _ => [⟨0, 0, 1⟩, ⟨0, 0, 1⟩]
def oddR : Nat → Int
  | 4 => 8
  | _ => 2
theorem odd_go {N : Int} (hN : 1 ≤ N) {kk : Nat} (hk : kk < 5) : edgGo N none (oddE N kk) = oddR kk := by
  have h : kk = 0 ∨ kk = 1 ∨ kk = 2 ∨ kk = 3 ∨ kk = 4 := by omega
  rcases h with rfl | rfl | rfl | rfl | rfl
  all_goals simp only [oddE, oddR, edgGo]
  · rw [if_pos (.inr (.inl (Int.le_refl N)))]
  · rw [if_pos (.inr (.inr (.inl (by decide))))]
  · rw [if_pos (.inr (.inr (.inr (.inr (.inl (by decide))))))]
  · rw [if_pos (.inr (.inr (.inr (.inr (.inr (by decide))))))]
  · have hg : ¬ EdgBad N ⟨0, 0, 1⟩ := by
      unfold EdgBad
      simp only
      omega
    have hn : ¬ EdgOld none ⟨0, 0, 1⟩ := fun h => h
    have ho : EdgOld (some ⟨0, 0, 1⟩) ⟨0, 0, 1⟩ := .inr ⟨rfl, Int.le_refl _⟩
    rw [if_neg hg, if_neg hn, if_neg hg, if_pos ho]
/-- OrderBad's rows of edges -/
theorem odd_rows (N : Int) (X : World) : ∃ W7 : World, ((((((X.alloc (.cells #[.int .i64 N, .int .i64 0, .int .i64 1] 59)).alloc (.cells #[.int .i64 0, .int .i64 (-1), .int .i64 1] 59)).alloc (.cells #[.int .i64 0, .int .i64 0, .int .i64 0] 59)).alloc (.cells #[.int .i64 0, .int .i64 0, .int .i64 1073741825] 59)).alloc (.cells #[.int .i64 0, .int .i64 0, .int .i64 1, .int .i64 0, .int .i64 0, .int .i64 1] 59)).alloc (.cells #[.slice (some ⟨X.heap.size, 0, none⟩) 1 1, .slice (some ⟨X.heap.size + 1, 0, none⟩) 1 1, .slice (some ⟨X.heap.size + 1 + 1, 0, none⟩) 1 1, .slice (some ⟨X.heap.size + 1 + 1 + 1, 0, none⟩) 1 1, .slice (some ⟨X.heap.size + 1 + 1 + 1 + 1, 0, none⟩) 2 2] 54)) = W7 ∧ Below X.heap.size X W7 ∧ (∀ kk : Nat, kk < 5 → Blk W7 (X.heap.size + kk) 59 (edgV (oddE N kk)) ∧ W7.cell? ⟨X.heap.size + 1 + 1 + 1 + 1 + 1, kk, none⟩ = some (.slice (some ⟨X.heap.size + kk, 0, none⟩) (oddE N kk).length (oddE N kk).length)) ∧ X.heap.size + 6 ≤ W7.heap.size := by
  obtain ⟨a0, ha0⟩ : ∃ z, X.alloc (.cells #[.int .i64 N, .int .i64 0, .int .i64 1] 59) = z := ⟨_, rfl⟩
  have z0 : a0.heap.size = X.heap.size + 1 := by rw [← ha0]; simp
  have b0 : Below X.heap.size X a0 := by rw [← ha0]; exact (Below.refl _ _).alloc (Nat.le_refl _) _
  have k0 : Blk a0 (X.heap.size + 0) 59 (edgV (oddE N 0)) := by rw [← ha0]; exact Blk.new X _ _
  rw [ha0]
  obtain ⟨a1, ha1⟩ : ∃ z, a0.alloc (.cells #[.int .i64 0, .int .i64 (-1), .int .i64 1] 59) = z := ⟨_, rfl⟩
  have z1 : a1.heap.size = X.heap.size + 2 := by rw [← ha1]; simp [z0]
  have b1 : Below a0.heap.size a0 a1 := by rw [← ha1]; exact (Below.refl _ _).alloc (Nat.le_refl _) _
  have k1 : Blk a1 (X.heap.size + 1) 59 (edgV (oddE N 1)) := by rw [← ha1, ← z0]; exact Blk.new a0 _ _
  rw [ha1]
  obtain ⟨a2, ha2⟩ : ∃ z, a1.alloc (.cells #[.int .i64 0, .int .i64 0, .int .i64 0] 59) = z := ⟨_, rfl⟩
  have z2 : a2.heap.size = X.heap.size + 3 := by rw [← ha2]; simp [z1]
  have b2 : Below a1.heap.size a1 a2 := by rw [← ha2]; exact (Below.refl _ _).alloc (Nat.le_refl _) _
  have k2 : Blk a2 (X.heap.size + 2) 59 (edgV (oddE N 2)) := by rw [← ha2, ← z1]; exact Blk.new a1 _ _
  rw [ha2]
  obtain ⟨a3, ha3⟩ : ∃ z, a2.alloc (.cells #[.int .i64 0, .int .i64 0, .int .i64 1073741825] 59) = z := ⟨_, rfl⟩
  have z3 : a3.heap.size = X.heap.size + 4 := by rw [← ha3]; simp [z2]
  have b3 : Below a2.heap.size a2 a3 := by rw [← ha3]; exact (Below.refl _ _).alloc (Nat.le_refl _) _
  have k3 : Blk a3 (X.heap.size + 3) 59 (edgV (oddE N 3)) := by rw [← ha3, ← z2]; exact Blk.new a2 _ _
  rw [ha3]
  obtain ⟨a4, ha4⟩ : ∃ z, a3.alloc (.cells #[.int .i64 0, .int .i64 0, .int .i64 1, .int .i64 0, .int .i64 0, .int .i64 1] 59) = z := ⟨_, rfl⟩
  have z4 : a4.heap.size = X.heap.size + 5 := by rw [← ha4]; simp [z3]
  have b4 : Below a3.heap.size a3 a4 := by rw [← ha4]; exact (Below.refl _ _).alloc (Nat.le_refl _) _
  have k4 : Blk a4 (X.heap.size + 4) 59 (edgV (oddE N 4)) := by rw [← ha4, ← z3]; exact Blk.new a3 _ _
  rw [ha4]
  obtain ⟨a5, ha5⟩ : ∃ z, a4.alloc (.cells #[.slice (some ⟨X.heap.size, 0, none⟩) 1 1, .slice (some ⟨X.heap.size + 1, 0, none⟩) 1 1, .slice (some ⟨X.heap.size + 1 + 1, 0, none⟩) 1 1, .slice (some ⟨X.heap.size + 1 + 1 + 1, 0, none⟩) 1 1, .slice (some ⟨X.heap.size + 1 + 1 + 1 + 1, 0, none⟩) 2 2] 54) = z := ⟨_, rfl⟩
  have z5 : a5.heap.size = X.heap.size + 6 := by rw [← ha5]; simp [z4]
  have b5 : Below a4.heap.size a4 a5 := by rw [← ha5]; exact (Below.refl _ _).alloc (Nat.le_refl _) _
  have k5 : Blk a5 (X.heap.size + 1 + 1 + 1 + 1 + 1) 54 [.slice (some ⟨X.heap.size, 0, none⟩) 1 1, .slice (some ⟨X.heap.size + 1, 0, none⟩) 1 1, .slice (some ⟨X.heap.size + 1 + 1, 0, none⟩) 1 1, .slice (some ⟨X.heap.size + 1 + 1 + 1, 0, none⟩) 1 1, .slice (some ⟨X.heap.size + 1 + 1 + 1 + 1, 0, none⟩) 2 2] := by
    rw [← ha5, show X.heap.size + 1 + 1 + 1 + 1 + 1 = a4.heap.size from z4.symm]
    exact Blk.new a4 _ _
  refine ⟨a5, ha5, ?_, fun kk hk => ?_, by omega⟩
  · exact b0.trans ((b1.mono (by omega)).trans ((b2.mono (by omega)).trans ((b3.mono (by omega)).trans ((b4.mono (by omega)).trans (b5.mono (by omega))))))
  · have h : kk = 0 ∨ kk = 1 ∨ kk = 2 ∨ kk = 3 ∨ kk = 4 := by omega
    rcases h with rfl | rfl | rfl | rfl | rfl
    · exact ⟨((((k0.keep b1).keep b2).keep b3).keep b4).keep b5, k5.cell 0 rfl⟩
    · exact ⟨(((k1.keep b2).keep b3).keep b4).keep b5, k5.cell 1 rfl⟩
    · exact ⟨((k2.keep b3).keep b4).keep b5, k5.cell 2 rfl⟩
    · exact ⟨(k3.keep b4).keep b5, k5.cell 3 rfl⟩
    · exact ⟨k4.keep b5, k5.cell 4 rfl⟩
/-- a flow whose row of first blocks is another one -/
theorem FlowRd.firsts {w : World} {xA yA zA gA : Option Addr} {xc yc zc c B : Nat} {d : FlowD} {L : List Int} (h : FlowRd w xA xc yA yc zA zc d) (ho : w.ownsRow B 3 1 (.slice gA L.length c) L.length (intsV .i64 L)) :
    FlowRd w xA xc yA yc gA c ⟨d.blocks, d.tables, L⟩ := by
  obtain ⟨l, h1, h2, h3, h4, -⟩ := h
  refine ⟨l, h1, h2, h3, h4, own_rdg ho, own_leO ho, fun _ g o e => ⟨by simp, own_typ ho (by rw [e]; rfl)⟩⟩
/-- with one function more a flow does not fit -/
theorem PgmF.unfit {m : Img} {ld : Int → Bool} {bm : Int → Option Int} {S : List FSp} {gs : List (List FSp)} {d : FlowD} (h : PgmF m ld bm S gs d) (hf : FnF m S) : ¬ FlowFit ⟨d.blocks, d.tables, d.firsts ++ [0]⟩ := by
  intro hfit
  refine hfit.2 d.firsts.length 0 (by simp) ?_
  rcases Nat.eq_zero_or_pos d.blocks.length with h0 | h0
  · exact .inr (.inl (by simp only; omega))
  · refine .inr (.inr (.inl ?_))
    simp only
    have hb : d.blocks[0]? = some (d.blocks[0]'h0) := List.getElem?_eq_getElem _
    have h2 := h.blkFn hf _ (List.mem_of_getElem? hb)
    rw [show (0 : Int).toNat = 0 from rfl, List.getD_eq_getElem?_getD, hb, Option.getD_some]
    omega
theorem run_append_zero {P : Program} (w : World) (t ty e : TypeId) (i : TypeInfo) (ht : P.underlying t = some (.slice e)) (hi : P.info? e = some i) (A : Option Addr) (n c : Nat) (hn : n ≤ c) (a : Addr) (cx : Nat) :
    (Builtin.append_ #[t, t] ty #[.slice A n c, .slice (some a) 0 cx]).run P w = .ok (.slice A n c) w := by
  cases A <;> simp [Builtin.append_, run_underlying ht, sizeOf, typeInfo, hi, Builtin.lenOf, Builtin.firstCells, hn, storeCells, loadCells, loadCellsFrom]
def ClonePost (w : World) (e : TypeId) (sz : Nat) (n : Nat) (xs : List Value) (en : Ending) (w' : World) : Prop :=
  ∃ A c, en = .returned (.slice A n c) ∧ Below w.heap.size w w' ∧ w'.ownsRow w.heap.size e sz (.slice A n c) n xs
theorem own_empty (w : World) (e : TypeId) (sz : Nat) : (w.alloc (.cells #[] e)).ownsRow w.heap.size e sz (.slice (some ⟨w.heap.size, 0, none⟩) 0 0) 0 [] :=
  ⟨by simp, .inr ⟨w.heap.size, 0, #[], rfl, Nat.le_refl _, heap_alloc_new w _, Nat.le_refl _, by decide, by simp, by simp⟩⟩
theorem infoC_i : (Tryd.prog.info? 3).map (fun i => (i.zero, i.size, i.bytes)) = some (some (.int .i64 0), 1, 8) := by kernel_rfl
theorem app_zeroG {w : World} {ops : Array Oper} {rest : List Oper} {o : Oper} {a : Act} {Q : Exit → Act → World → Prop} (hgd : o.guard = none) (s x : Operand) (ST ET sz by_ : Nat) (z : Value) (hu : Tryd.prog.underlying ST = some (.slice ET)) (hinfo : (Tryd.prog.info? ET).map (fun i => (i.zero, i.size, i.bytes)) = some (some z, sz, by_))
    (ho : o.op = .call { callee := .builtin .append, args := #[s, x], argTypes := #[ST, ST] }) (A : Option Addr) (n c : Nat) (hs : a.eval s = .slice A n c) (g : Addr) (cx : Nat) (hx : a.eval x = .slice (some g) 0 cx) (hn : n ≤ c)
    (h : wpList Tryd.prog ops Q rest (a.put o.dst (.slice A n c)) w) : wpList Tryd.prog ops Q (o :: rest) a w := by
  obtain ⟨i0, hi, hz0, hz1, hz2⟩ := info_parts hinfo
  have hr := run_append_zero (P := Tryd.prog) w ST o.type ET i0 hu hi A n c hn g cx
  refine wpList_plain hgd fun _ hK => ?_
  unfold Oper.wp execOp
  simp only [ho, resolve, invoke, builtin, Sem.run_bind, Sem.run_pure, Result.andThen_ok, List.map_toArray, List.map_cons, List.map_nil, hs, hx, hr]
  exact hK _ _ h
set_option maxRecDepth 100000 in
theorem clone_int (L : List (Int)) (A : Option Addr) (n c : Nat) (w : World) (hn : L.length = n) (hA : A = none → n = 0) (hm : n ≤ 1000000) (hR : RdG w w.heap.size A ((intsV .i64) L)) :
    Calls Tryd.prog 28 #[.slice A n c] w (ClonePost w 3 1 n ((intsV .i64) L)) := by
  rcases A with _ | ⟨g0, og0, p0⟩
  · obtain rfl := hA rfl
    obtain rfl := List.length_eq_zero_iff.1 hn
    have hu : (binOp .eql 27 (.slice none 0 c) (.slice none 0 0)).run Tryd.prog w = .ok (.bool true) w := by kernel_rfl
    go_enter Tryd.func28, Tryd.ntmps28
    go_wp2
    go_ret
    exact ⟨none, 0, rfl, Below.refl _ _, rfl, .inl ⟨rfl, rfl⟩⟩
  · have hu : (binOp .eql 27 (.slice (some ⟨g0, og0, p0⟩) n c) (.slice none 0 0)).run Tryd.prog w = .ok (.bool false) w := Lib.run_eql_slice_nil w _ _ _ n c 0 0 Tryd.underlying27
    rcases Nat.eq_zero_or_pos n with rfl | hpos
    · obtain rfl := List.length_eq_zero_iff.1 hn
      go_enter Tryd.func28, Tryd.ntmps28
      go_wp2_with (first | (refine app_zeroG rfl _ _ 27 3 1 8 _ Tryd.underlying27 infoC_i rfl _ 0 0 rfl ⟨g0, og0, p0⟩ c rfl (Nat.le_refl _) ?_))
      go_ret
      exact ⟨_, 0, rfl, (Below.refl _ _).alloc (Nat.le_refl _) _, own_empty _ _ _⟩
    · obtain ⟨b, o, he, hb, hc⟩ := hR (fun e => by have e2 := congrArg List.length e; simp [intsV] at e2; rw [e2] at hn; simp at hn; omega)
      injection he with he
      injection he with e1 e2 e3
      subst e1 e2 e3
      have HC : Hid (∀ j u, ((intsV .i64) L)[j]? = some u → (w.alloc (.cells #[] 3)).cell? ⟨g0, og0 + j, none⟩ = some u) := Lib.hid fun j u hj => (((Below.refl w.heap.size w).alloc (Nat.le_refl _) _).cell (p := ⟨g0, og0 + j, none⟩) hb).trans (hc j u hj)
      have HC2 : Hid (∀ j u, ((intsV .i64) L)[j]? = some u → (w.alloc (.cells #[] 3)).cell? ((⟨g0, og0, none⟩ : Addr).add j) = some u) := Lib.hid fun j u hu => by have h := HC.out j u hu; unfold Addr.add; split; (rename_i e; rw [e] at h; exact h); exact h
      have HM : Hid (0 + n ≤ maxLen ∧ (0 + n) * 8 ≤ 140737488355328) := Lib.hid ⟨by unfold maxLen; omega, by omega⟩
      have HL : Hid (((intsV .i64) L).length = n * 1) := Lib.hid (by simp [intsV, hn])
      clear hc hn hR
      go_enter Tryd.func28, Tryd.ntmps28
      go_wp2_with (first | (refine app_liesO rfl _ _ 27 3 1 8 _ Tryd.underlying27 infoC_i rfl (by decide) rfl w.heap.size _ 0 [] rfl (own_empty _ _ _) ⟨g0, og0, none⟩ n c _ rfl HL.out HC2.out (ints_oneO _) hpos HM.out.1 HM.out.2 (by simp) (w.heap.size + 1) (by simp) ?a1))
      case a1 =>
        intro g' c' w' ho hgr hat hlt
        have hb0 : Below w.heap.size w (w.alloc (.cells #[] 3)) := (Below.refl _ _).alloc (Nat.le_refl _) _
        have hB : Below w.heap.size w w' := hb0.grown hgr (by simp) (fun q hq => by have e : some w.heap.size = some q := hq; injection e with e; omega)
        have HO := Lib.hid ho
        have HB := Lib.hid hB
        have hnm : 0 + n = n := by omega
        clear ho hgr hat hB hb0
        go_wp2
        go_ret
        exact ⟨_, c', rfl, HB.out, HO.out⟩
end Go.Proofs.YtbdlmafhcgndeaaDoor
