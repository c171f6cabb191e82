/- slices.Clone at functions, numbers and lines, walked. -/
import Derived.Test.YtdliienkbpdnbaaDoorDecW
namespace Go.Proofs.YtdliienkbpdnbaaDoor
open Go.RowKit
theorem infoC_fn : (Tryd.prog.info? 36).map (fun i => (i.zero, i.size, i.bytes)) = some (some (.agg #[.string ⟨#[]⟩, .int .i64 0, .int .i64 0]), 3, 32) := by kernel_rfl
theorem infoC_ln : (Tryd.prog.info? 76).map (fun i => (i.zero, i.size, i.bytes)) = some (some (.agg #[.int .i64 0, .int .i64 0]), 2, 16) := by kernel_rfl
theorem infoC_i : (Tryd.prog.info? 3).map (fun i => (i.zero, i.size, i.bytes)) = some (some (.int .i64 0), 1, 8) := by kernel_rfl
theorem app_zeroG {w : World} {ops : Array Oper} {rest : List Oper} {o : Oper} {a : Act} {Q : Exit → Act → World → Prop} (hgd : o.guard = none) (s x : Operand) (ST ET sz by_ : Nat) (z : Value) (hu : Tryd.prog.underlying ST = some (.slice ET)) (hinfo : (Tryd.prog.info? ET).map (fun i => (i.zero, i.size, i.bytes)) = some (some z, sz, by_))
    (ho : o.op = .call { callee := .builtin .append, args := #[s, x], argTypes := #[ST, ST] }) (A : Option Addr) (n c : Nat) (hs : a.eval s = .slice A n c) (g : Addr) (cx : Nat) (hx : a.eval x = .slice (some g) 0 cx) (hn : n ≤ c)
    (h : wpList Tryd.prog ops Q rest (a.put o.dst (.slice A n c)) w) : wpList Tryd.prog ops Q (o :: rest) a w := by
  obtain ⟨i0, hi, hz0, hz1, hz2⟩ := info_parts hinfo
  have hr := run_append_zero (P := Tryd.prog) w ST o.type ET i0 hu hi A n c hn g cx
  refine wpList_plain hgd fun _ hK => ?_
  unfold Oper.wp execOp
  simp only [ho, resolve, invoke, builtin, Sem.run_bind, Sem.run_pure, Result.andThen_ok, List.map_toArray, List.map_cons, List.map_nil, hs, hx, hr]
  exact hK _ _ h
theorem funcsV_one (L : List FnD) : ∀ u ∈ funcsV L, u.oneCell' = true := by
  intro u hu
  obtain ⟨f, _, hf⟩ := List.mem_flatMap.1 hu
  simp only [fnV, List.mem_cons, List.not_mem_nil, or_false] at hf
  rcases hf with h | h | h <;> (rw [h]; rfl)
theorem linesV_one (L : List (Int × Int)) : ∀ u ∈ linesV L, u.oneCell' = true := by
  intro u hu
  obtain ⟨f, _, hf⟩ := List.mem_flatMap.1 hu
  simp only [lineV, List.mem_cons, List.not_mem_nil, or_false] at hf
  rcases hf with h | h <;> (rw [h]; rfl)
set_option maxRecDepth 100000 in
theorem clone_fn (L : List (FnD)) (A : Option Addr) (n c : Nat) (w : World) (hn : L.length = n) (hA : A = none → n = 0) (hm : n ≤ 1000000) (hR : RdG w w.heap.size A (funcsV L)) :
    Calls Tryd.prog 38 #[.slice A n c] w (ClonePost w 36 3 n (funcsV L)) := by
  rcases A with _ | ⟨g0, og0, p0⟩
  · obtain rfl := hA rfl
    obtain rfl := List.length_eq_zero_iff.1 hn
    have hu : (binOp .eql 24 (.slice none 0 c) (.slice none 0 0)).run Tryd.prog w = .ok (.bool true) w := by kernel_rfl
    go_enter Tryd.func38, Tryd.ntmps38
    go_wp2
    go_ret
    exact ⟨none, 0, rfl, Below.refl _ _, rfl, .inl ⟨rfl, rfl⟩⟩
  · have hu : (binOp .eql 24 (.slice (some ⟨g0, og0, p0⟩) n c) (.slice none 0 0)).run Tryd.prog w = .ok (.bool false) w := Lib.run_eql_slice_nil w _ _ _ n c 0 0 Tryd.underlying24
    rcases Nat.eq_zero_or_pos n with rfl | hpos
    · obtain rfl := List.length_eq_zero_iff.1 hn
      go_enter Tryd.func38, Tryd.ntmps38
      go_wp2_with (first | (refine app_zeroG rfl _ _ 24 36 3 32 _ Tryd.underlying24 infoC_fn rfl _ 0 0 rfl ⟨g0, og0, p0⟩ c rfl (Nat.le_refl _) ?_))
      go_ret
      exact ⟨_, 0, rfl, (Below.refl _ _).alloc (Nat.le_refl _) _, own_empty _ _ _⟩
    · obtain ⟨b, o, he, hb, hc⟩ := hR (fun e => by have h := flat_len fnV 3 (fun _ => rfl) L; have e2 := congrArg List.length e; simp only [List.length_nil] at e2; first | (change (funcsV L).length = _ at h; omega) | omega)
      injection he with he
      injection he with e1 e2 e3
      subst e1 e2 e3
      have HC : Hid (∀ j u, (funcsV L)[j]? = some u → (w.alloc (.cells #[] 36)).cell? ⟨g0, og0 + j, none⟩ = some u) := Lib.hid fun j u hj => (((Below.refl w.heap.size w).alloc (Nat.le_refl _) _).cell (p := ⟨g0, og0 + j, none⟩) hb).trans (hc j u hj)
      have HL : Hid ((funcsV L).length = n * 3) := Lib.hid (by have h := flat_len fnV 3 (fun _ => rfl) L; change (funcsV L).length = _ at h; rw [h, hn])
      clear hc hn hR
      go_enter Tryd.func38, Tryd.ntmps38
      go_wp2_with (first | (refine app_rd rfl _ _ 24 36 3 32 _ Tryd.underlying24 infoC_fn rfl (by decide) rfl w.heap.size _ 0 [] rfl (own_empty _ _ _) g0 og0 n c rfl _ HC.out HL.out hpos (funcsV_one _) (by omega) (by omega) (by simp) (w.heap.size + 1) (by simp) ?a1))
      case a1 =>
        intro g' c' w' ho hgr hat hlt
        have hb0 : Below w.heap.size w (w.alloc (.cells #[] 36)) := (Below.refl _ _).alloc (Nat.le_refl _) _
        have hB : Below w.heap.size w w' := hb0.grown hgr (by simp) (fun q hq => by have e : some w.heap.size = some q := hq; injection e with e; omega)
        have HO := Lib.hid ho
        have HB := Lib.hid hB
        have hnm : 0 + n = n := by omega
        clear ho hgr hat hB hb0
        go_wp2
        go_ret
        exact ⟨_, c', rfl, HB.out, HO.out⟩
set_option maxRecDepth 100000 in
theorem clone_int (L : List (Int)) (A : Option Addr) (n c : Nat) (w : World) (hn : L.length = n) (hA : A = none → n = 0) (hm : n ≤ 1000000) (hR : RdG w w.heap.size A ((intsV .i64) L)) :
    Calls Tryd.prog 39 #[.slice A n c] w (ClonePost w 3 1 n ((intsV .i64) L)) := by
  rcases A with _ | ⟨g0, og0, p0⟩
  · obtain rfl := hA rfl
    obtain rfl := List.length_eq_zero_iff.1 hn
    have hu : (binOp .eql 26 (.slice none 0 c) (.slice none 0 0)).run Tryd.prog w = .ok (.bool true) w := by kernel_rfl
    go_enter Tryd.func39, Tryd.ntmps39
    go_wp2
    go_ret
    exact ⟨none, 0, rfl, Below.refl _ _, rfl, .inl ⟨rfl, rfl⟩⟩
  · have hu : (binOp .eql 26 (.slice (some ⟨g0, og0, p0⟩) n c) (.slice none 0 0)).run Tryd.prog w = .ok (.bool false) w := Lib.run_eql_slice_nil w _ _ _ n c 0 0 Tryd.underlying26
    rcases Nat.eq_zero_or_pos n with rfl | hpos
    · obtain rfl := List.length_eq_zero_iff.1 hn
      go_enter Tryd.func39, Tryd.ntmps39
      go_wp2_with (first | (refine app_zeroG rfl _ _ 26 3 1 8 _ Tryd.underlying26 infoC_i rfl _ 0 0 rfl ⟨g0, og0, p0⟩ c rfl (Nat.le_refl _) ?_))
      go_ret
      exact ⟨_, 0, rfl, (Below.refl _ _).alloc (Nat.le_refl _) _, own_empty _ _ _⟩
    · obtain ⟨b, o, he, hb, hc⟩ := hR (fun e => by have h := intsV_len .i64 L; have e2 := congrArg List.length e; simp only [List.length_nil] at e2; first | (change (intsV .i64 L).length = _ at h; omega) | omega)
      injection he with he
      injection he with e1 e2 e3
      subst e1 e2 e3
      have HC : Hid (∀ j u, ((intsV .i64) L)[j]? = some u → (w.alloc (.cells #[] 3)).cell? ⟨g0, og0 + j, none⟩ = some u) := Lib.hid fun j u hj => (((Below.refl w.heap.size w).alloc (Nat.le_refl _) _).cell (p := ⟨g0, og0 + j, none⟩) hb).trans (hc j u hj)
      have HL : Hid (((intsV .i64) L).length = n * 1) := Lib.hid (by rw [intsV_len, hn, Nat.mul_one])
      clear hc hn hR
      go_enter Tryd.func39, Tryd.ntmps39
      go_wp2_with (first | (refine app_rd rfl _ _ 26 3 1 8 _ Tryd.underlying26 infoC_i rfl (by decide) rfl w.heap.size _ 0 [] rfl (own_empty _ _ _) g0 og0 n c rfl _ HC.out HL.out hpos (intsV_one .i64 _) (by omega) (by omega) (by simp) (w.heap.size + 1) (by simp) ?a1))
      case a1 =>
        intro g' c' w' ho hgr hat hlt
        have hb0 : Below w.heap.size w (w.alloc (.cells #[] 3)) := (Below.refl _ _).alloc (Nat.le_refl _) _
        have hB : Below w.heap.size w w' := hb0.grown hgr (by simp) (fun q hq => by have e : some w.heap.size = some q := hq; injection e with e; omega)
        have HO := Lib.hid ho
        have HB := Lib.hid hB
        have hnm : 0 + n = n := by omega
        clear ho hgr hat hB hb0
        go_wp2
        go_ret
        exact ⟨_, c', rfl, HB.out, HO.out⟩
set_option maxRecDepth 100000 in
theorem clone_ln (L : List (Int × Int)) (A : Option Addr) (n c : Nat) (w : World) (hn : L.length = n) (hA : A = none → n = 0) (hm : n ≤ 1000000) (hR : RdG w w.heap.size A (linesV L)) :
    Calls Tryd.prog 40 #[.slice A n c] w (ClonePost w 76 2 n (linesV L)) := by
  rcases A with _ | ⟨g0, og0, p0⟩
  · obtain rfl := hA rfl
    obtain rfl := List.length_eq_zero_iff.1 hn
    have hu : (binOp .eql 27 (.slice none 0 c) (.slice none 0 0)).run Tryd.prog w = .ok (.bool true) w := by kernel_rfl
    go_enter Tryd.func40, Tryd.ntmps40
    go_wp2
    go_ret
    exact ⟨none, 0, rfl, Below.refl _ _, rfl, .inl ⟨rfl, rfl⟩⟩
  · have hu : (binOp .eql 27 (.slice (some ⟨g0, og0, p0⟩) n c) (.slice none 0 0)).run Tryd.prog w = .ok (.bool false) w := Lib.run_eql_slice_nil w _ _ _ n c 0 0 Tryd.underlying27
    rcases Nat.eq_zero_or_pos n with rfl | hpos
    · obtain rfl := List.length_eq_zero_iff.1 hn
      go_enter Tryd.func40, Tryd.ntmps40
      go_wp2_with (first | (refine app_zeroG rfl _ _ 27 76 2 16 _ Tryd.underlying27 infoC_ln rfl _ 0 0 rfl ⟨g0, og0, p0⟩ c rfl (Nat.le_refl _) ?_))
      go_ret
      exact ⟨_, 0, rfl, (Below.refl _ _).alloc (Nat.le_refl _) _, own_empty _ _ _⟩
    · obtain ⟨b, o, he, hb, hc⟩ := hR (fun e => by have h := flat_len lineV 2 (fun _ => rfl) L; have e2 := congrArg List.length e; simp only [List.length_nil] at e2; first | (change (linesV L).length = _ at h; omega) | omega)
      injection he with he
      injection he with e1 e2 e3
      subst e1 e2 e3
      have HC : Hid (∀ j u, (linesV L)[j]? = some u → (w.alloc (.cells #[] 76)).cell? ⟨g0, og0 + j, none⟩ = some u) := Lib.hid fun j u hj => (((Below.refl w.heap.size w).alloc (Nat.le_refl _) _).cell (p := ⟨g0, og0 + j, none⟩) hb).trans (hc j u hj)
      have HL : Hid ((linesV L).length = n * 2) := Lib.hid (by have h := flat_len lineV 2 (fun _ => rfl) L; change (linesV L).length = _ at h; rw [h, hn])
      clear hc hn hR
      go_enter Tryd.func40, Tryd.ntmps40
      go_wp2_with (first | (refine app_rd rfl _ _ 27 76 2 16 _ Tryd.underlying27 infoC_ln rfl (by decide) rfl w.heap.size _ 0 [] rfl (own_empty _ _ _) g0 og0 n c rfl _ HC.out HL.out hpos (linesV_one _) (by omega) (by omega) (by simp) (w.heap.size + 1) (by simp) ?a1))
      case a1 =>
        intro g' c' w' ho hgr hat hlt
        have hb0 : Below w.heap.size w (w.alloc (.cells #[] 76)) := (Below.refl _ _).alloc (Nat.le_refl _) _
        have hB : Below w.heap.size w w' := hb0.grown hgr (by simp) (fun q hq => by have e : some w.heap.size = some q := hq; injection e with e; omega)
        have HO := Lib.hid ho
        have HB := Lib.hid hB
        have hnm : 0 + n = n := by omega
        clear ho hgr hat hB hb0
        go_wp2
        go_ret
        exact ⟨_, c', rfl, HB.out, HO.out⟩
end Go.Proofs.YtdliienkbpdnbaaDoor
