/- slices.Clone of numbers. -/
import Derived.Test.YtokbgdlenbhklaaDoorEmtD
import Derived.Lib.SliceRun
import Derived.Deep.DeepCutAuto
import Derived.IntWalk
import Derived.WalkLawsBesides
namespace Go.Proofs.YtokbgdlenbhklaaDoor
open Go.RowKit Go.Deep
theorem infoIntNOE : (Tryd.prog.info? 3).map (fun i => (i.zero, i.size, i.bytes)) = some (some (.int .i64 0), 1, 8) := by kernel_rfl
theorem app_liesOE {w : World} {ops : Array Oper} {rest : List Oper} {o : Oper} {a : Act} {Q : Exit → Act → World → Prop} (hgd : o.guard = none) (s x : Operand) (ST ET sz by_ : Nat) (z : Value)
 (hu : Tryd.prog.underlying ST = some (.slice ET)) (hinfo : (Tryd.prog.info? ET).map (fun i => (i.zero, i.size, i.bytes)) = some (some z, sz, by_)) (hzs : z.cells.size = sz) (hsz : 0 < sz)
 (ho : o.op = .call { callee := .builtin .append, args := #[s, x], argTypes := #[ST, ST] }) (base : Nat) (v : Value) (n : Nat) (xs : List Value) (hs : a.eval s = v) (hown : w.ownsRow base ET sz v n xs)
 (ad : Addr) (m c : Nat) (cs : List Value) (hx : a.eval x = .slice (some ad) m c) (hcl : cs.length = m * sz) (hb : ∀ j u, cs[j]? = some u → w.cell? (ad.add j) = some u) (h1 : ∀ u ∈ cs, u.oneCell' = true) (hm : 0 < m)
 (hn : n + m ≤ maxLen) (hn2 : (n + m) * by_ ≤ 140737488355328) (hbase : base ≤ w.heap.size) (H : Nat) (hH : w.heap.size = H)
 (h : ∀ g' cap' w', w'.ownsRow base ET sz (.slice (some ⟨g', 0, none⟩) (n + m) cap') (n + m) (xs ++ cs) → w.grownBy w' v.ownBlock → (v.ownBlock = some g' ∨ g' = H) → g' < w'.heap.size → wpList Tryd.prog ops Q rest (a.put o.dst (.slice (some ⟨g', 0, none⟩) (n + m) cap')) w') : wpList Tryd.prog ops Q (o :: rest) a w := by
 obtain ⟨i0, hi, hz0, hz1, hz2⟩ := info_parts hinfo; exact wpList_append_lies w hgd s x ST ho base ET i0 z sz by_ hu hi hz0 hz1 hz2 hzs hsz v n xs hs hown ad m c cs hx hcl hb h1 hm hn hn2 hbase H hH h
theorem ints_oneOE (l : List Int) : ∀ u ∈ intsV .i64 l, u.oneCell' = true := by
 intro u hu; unfold intsV at hu; obtain ⟨x, -, rfl⟩ := List.mem_map.1 hu
 rfl
theorem run_append_zeroE {P : Program} (w : World) (t ty e : TypeId) (i : TypeInfo) (ht : P.underlying t = some (.slice e)) (hi : P.info? e = some i) (A : Option Addr) (n c : Nat) (hn : n ≤ c) (a : Addr) (cx : Nat) :
 (Builtin.append_ #[t, t] ty #[.slice A n c, .slice (some a) 0 cx]).run P w = .ok (.slice A n c) w := by
 cases A <;> simp [Builtin.append_, run_underlying ht, sizeOf, typeInfo, hi, Builtin.lenOf, Builtin.firstCells, hn, storeCells, loadCells, loadCellsFrom]
def ClonePostE (w : World) (e : TypeId) (sz : Nat) (n : Nat) (xs : List Value) (en : Ending) (w' : World) : Prop :=
 ∃ A c, en = .returned (.slice A n c) ∧ Below w.heap.size w w' ∧ w'.ownsRow w.heap.size e sz (.slice A n c) n xs
theorem own_emptyE (w : World) (e : TypeId) (sz : Nat) : (w.alloc (.cells #[] e)).ownsRow w.heap.size e sz (.slice (some ⟨w.heap.size, 0, none⟩) 0 0) 0 [] :=
 ⟨by simp, .inr ⟨w.heap.size, 0, #[], rfl, Nat.le_refl _, heap_alloc_new w _, Nat.le_refl _, by decide, by simp, by simp⟩⟩
theorem infoC_iE : (Tryd.prog.info? 3).map (fun i => (i.zero, i.size, i.bytes)) = some (some (.int .i64 0), 1, 8) := by kernel_rfl
theorem app_zeroGE {w : World} {ops : Array Oper} {rest : List Oper} {o : Oper} {a : Act} {Q : Exit → Act → World → Prop} (hgd : o.guard = none) (s x : Operand) (ST ET sz by_ : Nat) (z : Value) (hu : Tryd.prog.underlying ST = some (.slice ET)) (hinfo : (Tryd.prog.info? ET).map (fun i => (i.zero, i.size, i.bytes)) = some (some z, sz, by_))
 (ho : o.op = .call { callee := .builtin .append, args := #[s, x], argTypes := #[ST, ST] }) (A : Option Addr) (n c : Nat) (hs : a.eval s = .slice A n c) (g : Addr) (cx : Nat) (hx : a.eval x = .slice (some g) 0 cx) (hn : n ≤ c)
 (h : wpList Tryd.prog ops Q rest (a.put o.dst (.slice A n c)) w) : wpList Tryd.prog ops Q (o :: rest) a w := by
 obtain ⟨i0, hi, hz0, hz1, hz2⟩ := info_parts hinfo; have hr := run_append_zeroE (P := Tryd.prog) w ST o.type ET i0 hu hi A n c hn g cx; refine wpList_plain hgd fun _ hK => ?_
 unfold Oper.wp execOp; simp only [ho, resolve, invoke, builtin, Sem.run_bind, Sem.run_pure, Result.andThen_ok, List.map_toArray, List.map_cons, List.map_nil, hs, hx, hr]; exact hK _ _ h
set_option maxRecDepth 100000 in
theorem clone_intE (L : List (Int)) (A : Option Addr) (n c : Nat) (w : World) (hn : L.length = n) (hA : A = none → n = 0) (hm : n ≤ 1000000) (hR : RdG w w.heap.size A ((intsV .i64) L)) :
 Calls Tryd.prog 21 #[.slice A n c] w (ClonePostE w 3 1 n ((intsV .i64) L)) := by
 rcases A with _ | ⟨g0, og0, p0⟩
 · obtain rfl := hA rfl; obtain rfl := List.length_eq_zero_iff.1 hn; have hu : (binOp .eql 38 (.slice none 0 c) (.slice none 0 0)).run Tryd.prog w = .ok (.bool true) w := by kernel_rfl
   go_enter Tryd.func21, Tryd.ntmps21
   go_wp2
   go_ret
   exact ⟨none, 0, rfl, Below.refl _ _, rfl, .inl ⟨rfl, rfl⟩⟩
 · have hu : (binOp .eql 38 (.slice (some ⟨g0, og0, p0⟩) n c) (.slice none 0 0)).run Tryd.prog w = .ok (.bool false) w := Lib.run_eql_slice_nil w _ _ _ n c 0 0 Tryd.underlying38; rcases Nat.eq_zero_or_pos n with rfl | hpos
   · obtain rfl := List.length_eq_zero_iff.1 hn
     go_enter Tryd.func21, Tryd.ntmps21
     go_wp2_with (first | (refine app_zeroGE rfl _ _ 38 3 1 8 _ Tryd.underlying38 infoC_iE rfl _ 0 0 rfl ⟨g0, og0, p0⟩ c rfl (Nat.le_refl _) ?_))
     go_ret
     exact ⟨_, 0, rfl, (Below.refl _ _).alloc (Nat.le_refl _) _, own_emptyE _ _ _⟩
   · obtain ⟨b, o, he, hb, hc⟩ := hR (fun e => by have e2 := congrArg List.length e; simp [intsV] at e2; rw [e2] at hn; simp at hn; omega); injection he with he; injection he with e1 e2 e3; subst e1 e2 e3; have HC : Hid (∀ j u, ((intsV .i64) L)[j]? = some u → (w.alloc (.cells #[] 3)).cell? ⟨g0, og0 + j, none⟩ = some u) := Lib.hid fun j u hj => (((Below.refl w.heap.size w).alloc (Nat.le_refl _) _).cell (p := ⟨g0, og0 + j, none⟩) hb).trans (hc j u hj)
     have HC2 : Hid (∀ j u, ((intsV .i64) L)[j]? = some u → (w.alloc (.cells #[] 3)).cell? ((⟨g0, og0, none⟩ : Addr).add j) = some u) := Lib.hid fun j u hu => by have h := HC.out j u hu; unfold Addr.add; split; (rename_i e; rw [e] at h; exact h); exact h
     have HM : Hid (0 + n ≤ maxLen ∧ (0 + n) * 8 ≤ 140737488355328) := Lib.hid ⟨by unfold maxLen; omega, by omega⟩; have HL : Hid (((intsV .i64) L).length = n * 1) := Lib.hid (by simp [intsV, hn]); clear hc hn hR
     go_enter Tryd.func21, Tryd.ntmps21
     go_wp2_with (first | (refine app_liesOE rfl _ _ 38 3 1 8 _ Tryd.underlying38 infoC_iE rfl (by decide) rfl w.heap.size _ 0 [] rfl (own_emptyE _ _ _) ⟨g0, og0, none⟩ n c _ rfl HL.out HC2.out (ints_oneOE _) hpos HM.out.1 HM.out.2 (by simp) (w.heap.size + 1) (by simp) ?a1))
     case a1 =>
      intro g' c' w' ho hgr hat hlt; have hb0 : Below w.heap.size w (w.alloc (.cells #[] 3)) := (Below.refl _ _).alloc (Nat.le_refl _) _; have hB : Below w.heap.size w w' := hb0.grown hgr (by simp) (fun q hq => by have e : some w.heap.size = some q := hq; injection e with e; omega); have HO := Lib.hid ho; have HB := Lib.hid hB; have hnm : 0 + n = n := by omega
      clear ho hgr hat hB hb0
      go_wp2
      go_ret
      exact ⟨_, c', rfl, HB.out, HO.out⟩
end Go.Proofs.YtokbgdlenbhklaaDoor
