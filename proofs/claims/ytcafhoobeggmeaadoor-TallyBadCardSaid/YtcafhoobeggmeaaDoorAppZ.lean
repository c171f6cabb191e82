/- append of zeros ('append(s, make([]T, k)...)') onto a row of the call's own: a law of no program. -/
import Derived.Test.YtcafhoobeggmeaaDoorKeepD
import Derived.Test.YtcafhoobeggmeaaDoorAppG
import Derived.Lib.AppendZerosOnto
namespace Go.Proofs.YtcafhoobeggmeaaDoor
open Go.RowKit Go.Lib
theorem run_append_room_zeros {P : Program} (w : World) (t tn ty e : TypeId) (i : TypeInfo) (z : Value) (kq kn : IntKind) (ht : P.underlying t = some (.slice e)) (htn : P.underlying tn = some (.int kn)) (hi : P.info? e = some i) (hz : i.zero = some z)
 (g sLen sCap : Nat) (cur : Array Value) (hg : w.heap[g]? = some (.cells cur e (0, 0))) (k : Nat) (h0 : 0 < k) (hs : 0 < i.size) (h48 : k * i.bytes ≤ 281474976710656) (h63 : k ≤ 9223372036854775807) (hzs : z.cells.size = i.size)
 (h1 : ∀ u ∈ (Builtin.zeroCells z.cells k).toList, u.oneCell' = true) (hroom : sLen + k ≤ sCap) (hfit : sLen * i.size + k * i.size ≤ cur.size) :
 (Builtin.append_ #[t, tn] ty #[.slice (some ⟨g, 0, none⟩) sLen sCap, .int kq k]).run P w =
  .ok (.slice (some ⟨g, 0, none⟩) (sLen + k) sCap) (w.setRow g (cur.toList.take (sLen * i.size) ++ (Builtin.zeroCells z.cells k).toList ++ cur.toList.drop (sLen * i.size + (Builtin.zeroCells z.cells k).toList.length)).toArray) := by
 have hk : k ≠ 0 := by omega
 have hw : IntKind.i64.wrap (k : Int) = k := by rw [IntKind.wrap_i64]; omega
 have hll : (Builtin.zeroCells z.cells k).toList.length = k * i.size := by rw [Array.length_toList, size_zeroCells, hzs]
 have hst := run_storeCells_at P g (sLen * i.size) e (Builtin.zeroCells z.cells k).toList 0 cur w hg (by rw [hll]; simpa using hfit) h1
 have h48i : ¬ (281474976710656 < (k : Int) * (i.bytes : Int)) := by
  rw [← Int.natCast_mul]; omega
 have hneg : ¬ ((k : Int) < 0) := by omega
 have hns : ¬ (k * i.size = 0) := Nat.mul_ne_zero hk (by omega); simp only [Nat.add_zero] at hst; simp [Builtin.append_, run_underlying ht, run_underlying htn, sizeOf, typeInfo, zeroValue, hi, hz, asInt, asIntOf, hw, hneg, hns, h48i, hroom, Addr.add_lit, hst]
theorem run_append_own_zeros {P : Program} (w : World) (base : Nat) (t tn ty e : TypeId) (i : TypeInfo) (z : Value) (kq kn : IntKind) (size bytes : Nat) (ht : P.underlying t = some (.slice e)) (htn : P.underlying tn = some (.int kn)) (hi : P.info? e = some i) (hz : i.zero = some z)
 (hsize : i.size = size) (hby : i.bytes = bytes) (hzs : z.cells.size = size) (hsz : 0 < size) (v : Value) (n : Nat) (xs : List Value) (hown : w.ownsRow base e size v n xs) (k : Nat) (h0 : 0 < k) (h1 : ∀ u ∈ (Builtin.zeroCells z.cells k).toList, u.oneCell' = true)
 (h63 : n + k ≤ maxLen) (hbytes : (n + k) * bytes ≤ 140737488355328) (hbase : base ≤ w.heap.size) :
 ∃ g' c' w', (Builtin.append_ #[t, tn] ty #[v, .int kq k]).run P w = .ok (.slice (some ⟨g', 0, none⟩) (n + k) c') w' ∧ w'.ownsRow base e size (.slice (some ⟨g', 0, none⟩) (n + k) c') (n + k) (xs ++ (Builtin.zeroCells z.cells k).toList) ∧ w.grownBy w' v.ownBlock ∧ (v.ownBlock = some g' ∨ g' = w.heap.size) ∧ g' < w'.heap.size := by
 subst hsize; subst hby; have hsmall : n + k ≤ 9223372036854775807 := by simp only [maxLen] at h63; omega
 have hll : (Builtin.zeroCells z.cells k).toList.length = k * i.size := by rw [Array.length_toList, size_zeroCells, hzs]
 have hlen : (xs ++ (Builtin.zeroCells z.cells k).toList).length = (n + k) * i.size := by rw [List.length_append, hown.1, hll, Nat.add_mul]
 have hkb : k * i.bytes ≤ 140737488355328 := Nat.le_trans (Nat.mul_le_mul_right _ (by omega)) hbytes
 have grown : ∀ (old : Nat) (row : Option Nat),
  (w.drew.alloc (.cells (xs.toArray ++ Builtin.zeroCells z.cells k ++ Builtin.zeroCells z.cells (grownCap w (n + k) old e - (n + k))) e)).ownsRow base e i.size
   (.slice (some ⟨w.heap.size, 0, none⟩) (n + k) (grownCap w (n + k) old e)) (n + k) (xs ++ (Builtin.zeroCells z.cells k).toList) ∧
  w.grownBy (w.drew.alloc (.cells (xs.toArray ++ Builtin.zeroCells z.cells k ++ Builtin.zeroCells z.cells (grownCap w (n + k) old e - (n + k))) e)) row := by
  intro old row; have hge := grownCap_ge w (n + k) old e; have hcm : grownCap w (n + k) old e ≤ maxLen := grownCap_le_maxLen w (n + k) old e h63; refine ⟨⟨hlen, .inr ⟨w.heap.size, _, _, rfl, hbase, heap_alloc_new w.drew _, hge, hcm, ?_, ?_⟩⟩, ⟨rfl, rfl, rfl, by simp, fun k hk _ => heap_alloc_old w.drew _ hk⟩⟩
  · simp only [Array.size_append, List.size_toArray, size_zeroCells, hzs, hown.1, ← Nat.add_mul]
    congr 1
    omega
  · simp only [Array.toList_append, List.append_assoc]; rw [← List.append_assoc, ← hlen]; exact List.take_left
 rcases hown.2 with ⟨rfl, rfl⟩ | ⟨g, cap, cur, rfl, hbg, hg, hnc, hcm, hcs, htake⟩
 · have hx : xs = [] := List.eq_nil_of_length_eq_zero (by simpa using hown.1); subst hx; have hr := run_append_grow_zeros (P := P) w t tn ty e i z kq kn ht htn hi hz none 0 0 [] (by simp [Builtin.firstCells]) k h0 hsz (by omega) (by omega) (by omega) (growslice_fits (by omega) hbytes); have hgr := grown 0 (Value.ownBlock (.slice none 0 0)); exact ⟨_, _, _, hr, hgr.1, hgr.2, .inr rfl, by simp⟩
 · by_cases hroom : n + k ≤ cap
   · have hfit : n * i.size + k * i.size ≤ cur.size := by rw [hcs, ← Nat.add_mul]; exact Nat.mul_le_mul_right _ hroom
     have hr := run_append_room_zeros (P := P) w t tn ty e i z kq kn ht htn hi hz g n cap cur hg k h0 hsz (by omega) (by omega) hzs h1 hroom hfit; have hgl := (Array.getElem?_eq_some_iff.1 hg).1; refine ⟨_, _, _, hr, ⟨hlen, .inr ⟨g, cap, _, rfl, hbg, setRow_heap w g cur _ e _ hg, hroom, hcm, ?_, ?_⟩⟩, ⟨rfl, rfl, rfl, by simp, fun k _ hk => setRow_other w g k _ (fun e => hk (by simp [Value.ownBlock, e]))⟩, .inl rfl, by simpa using hgl⟩
     · simp only [List.size_toArray, List.length_append, List.length_take, List.length_drop, Array.length_toList]; rw [size_zeroCells, hzs]; omega
     · rw [htake, ← hlen]; exact List.take_left
   · have holds : ∀ j u, xs[j]? = some u → w.cell? ((⟨g, 0, none⟩ : Addr).add j) = some u := hown.cells (g := g) rfl; have hf := run_firstCells_some (P := P) w.drew i.size n ⟨g, 0, none⟩ n cap xs hown.1 holds; have hr := run_append_grow_zeros (P := P) w t tn ty e i z kq kn ht htn hi hz (some ⟨g, 0, none⟩) n cap xs hf k h0 hsz (by omega) (by omega) (by omega) (growslice_fits (by omega) hbytes); have hgr := grown cap (Value.ownBlock (.slice (some ⟨g, 0, none⟩) n cap)); exact ⟨_, _, _, hr, hgr.1, hgr.2, .inr rfl, by simp⟩
theorem zeros_bytes (k : Nat) : (Builtin.zeroCells (Value.int .u8 0).cells k).toList = bytesV (List.replicate k 0) := by
 apply List.ext_getElem
 · simp [Builtin.zeroCells, bytesV, Value.cells]
 · intro j h1 h2; simp [Builtin.zeroCells, bytesV, Value.cells, Nat.mod_one]
theorem app_zeros {w : World} {ops : Array Oper} {rest : List Oper} {o : Oper} {a : Act} {Q : Exit → Act → World → Prop} (hgd : o.guard = none) (s x : Operand)
 (ho : o.op = .call { callee := .builtin .append, args := #[s, x], argTypes := #[37, 3] }) (base : Nat) (v : Value) (L0 : List Int) (hs : a.eval s = v) (hown : OwnB w base v L0)
 (k : Nat) (hx : a.eval x = .int .i64 (k : Int)) (hk : 0 < k) (hn : L0.length + k ≤ 140737488355328) (hbase : base ≤ w.heap.size)
 (h : ∀ g' cap' w', OwnB w' base (.slice (some ⟨g', 0, none⟩) (L0 ++ List.replicate k 0).length cap') (L0 ++ List.replicate k 0) → w.grownBy w' v.ownBlock → (v.ownBlock = some g' ∨ g' = w.heap.size) → g' < w'.heap.size → wpList Tryd.prog ops Q rest (a.put o.dst (.slice (some ⟨g', 0, none⟩) (L0 ++ List.replicate k 0).length cap')) w') : wpList Tryd.prog ops Q (o :: rest) a w := by
 obtain ⟨i0, hi, hz0, hz1, hz2⟩ := info_parts infoU8; have hint : Tryd.prog.underlying 3 = some (.int .i64) := by kernel_rfl
 obtain ⟨g', c', w', hr, h2, h3, h4, h5⟩ := run_append_own_zeros (P := Tryd.prog) w base 37 3 o.type 5 i0 (.int .u8 0) .i64 .i64 1 1 Tryd.underlying37 hint hi hz0 hz1 hz2 rfl (by decide) v _ _ hown k hk
  (by rw [zeros_bytes]; intro u hu; simp only [bytesV, List.mem_map] at hu; obtain ⟨x, _, rfl⟩ := hu; rfl) (by unfold maxLen; omega) (by omega) hbase
 refine wpList_plain hgd fun _ hK => ?_
 unfold Oper.wp execOp; simp only [ho, resolve, invoke, builtin, Sem.run_bind, Sem.run_pure, Result.andThen_ok, List.map_toArray, List.map_cons, List.map_nil, hs, hx, hr]; have hll : (L0 ++ List.replicate k (0 : Int)).length = L0.length + k := by simp
 have := h g' c' w'; rw [hll] at this; refine hK _ _ (this ?_ h3 h4 h5); unfold OwnB; rw [hll]; rw [zeros_bytes] at h2; simpa [bytesV] using h2
theorem run_append_none {P : Program} (w : World) (t ty e : TypeId) (i : TypeInfo) (ht : P.underlying t = some (.slice e)) (hi : P.info? e = some i) (A : Option Addr) (n c : Nat) (hn : n ≤ c) :
 (Builtin.append_ #[t, t] ty #[.slice A n c, .slice none 0 0]).run P w = .ok (.slice A n c) w := by
 cases A <;> simp [Builtin.append_, run_underlying ht, sizeOf, typeInfo, hi, Builtin.lenOf, Builtin.firstCells, hn, storeCells]
theorem app_nil {w : World} {ops : Array Oper} {rest : List Oper} {o : Oper} {a : Act} {Q : Exit → Act → World → Prop} (hgd : o.guard = none) (s x : Operand)
 (ho : o.op = .call { callee := .builtin .append, args := #[s, x], argTypes := #[37, 37] }) (A : Option Addr) (n c : Nat) (hs : a.eval s = .slice A n c) (hx : a.eval x = .slice none 0 0) (hn : n ≤ c)
 (h : wpList Tryd.prog ops Q rest (a.put o.dst (.slice A n c)) w) : wpList Tryd.prog ops Q (o :: rest) a w := by
 obtain ⟨i0, hi, hz0, hz1, hz2⟩ := info_parts infoU8; have hr := run_append_none (P := Tryd.prog) w 37 o.type 5 i0 Tryd.underlying37 hi A n c hn; refine wpList_plain hgd fun _ hK => ?_
 unfold Oper.wp execOp; simp only [ho, resolve, invoke, builtin, Sem.run_bind, Sem.run_pure, Result.andThen_ok, List.map_toArray, List.map_cons, List.map_nil, hs, hx, hr]; exact hK _ _ h
theorem own_free {w : World} {base : Nat} {e : TypeId} {size n g c : Nat} {xs : List Value} (h : w.ownsRow base e size (.slice (some ⟨g, 0, none⟩) n c) n xs) (o : Nat) : w.frozen? ⟨g, o, none⟩ = false := by
 rcases h.2 with ⟨h1, _⟩ | ⟨g', cap, cur, hv, _, hg, _⟩
 · cases h1
 · injection hv with h1 _ _; injection h1 with h1; injection h1 with h1; subst h1; exact frozen_of_row _ _ _ _ _ hg
end Go.Proofs.YtcafhoobeggmeaaDoor
