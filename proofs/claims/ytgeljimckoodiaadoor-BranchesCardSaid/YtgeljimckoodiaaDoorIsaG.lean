/- isa.kind: the kind of a first byte. -/
import Derived.Test.YtgeljimckoodiaaDoorRd
namespace Go.Proofs.YtgeljimckoodiaaDoor
open Go.RowKit
/-- a struct or an array that lies in memory, loaded whole -/
theorem run_loadVar_cells {P : Program} (w : World) (a : Addr) (ty : TypeId) (cs : List Value) (d : TypeDesc) (hg : ∀ j v, cs[j]? = some v → w.cell? (a.add j) = some v)
    (hu : P.underlying ty = some d) (hd : (match d with | .struct _ | .array _ _ => true | _ => false) = true) (hi : (P.info? ty).map (·.size) = some cs.length) :
    (loadVar ty a).run P w = .ok (.agg cs.toArray) w := by
  have hl : (loadCells a cs.length).run P w = .ok cs.toArray w := run_loadCells_list (P := P) w a cs hg
  cases hq : P.info? ty with
  | none => simp [hq] at hi
  | some i =>
    have hs : i.size = cs.length := by simpa [hq] using hi
    have hagg : (isAgg ty).run P w = .ok true w := by
      unfold isAgg
      rw [Sem.run_bind, run_underlying hu w]
      cases d <;> simp_all
    simp [loadVar, Sem.run_bind, hagg, sizeOf, typeInfo, hq, hs, hl]
theorem wp_load_cells {P : Program} {o : Oper} {a : Act} {w : World} {K : Act → World → Prop} {Q : Exit → Act → World → Prop} (ty : TypeId) (x : Operand) (ho : o.op = .load ty x)
    (ad : Addr) (hx : a.eval x = .pointer (some ad)) (cs : List Value) (d : TypeDesc) (hg : ∀ j v, cs[j]? = some v → w.cell? (ad.add j) = some v)
    (hu : P.underlying ty = some d) (hd : (match d with | .struct _ | .array _ _ => true | _ => false) = true) (hi : (P.info? ty).map (·.size) = some cs.length)
    (h : K (a.put o.dst (.agg cs.toArray)) w) : o.wp P a w K Q := by
  unfold Oper.wp execOp
  simp only [ho, hx, Instr.loadAt, Instr.sureAddr, Sem.run_bind, Sem.run_pure, Result.andThen_ok, run_loadVar_cells w ad ty cs d hg hu hd hi]
  exact h
theorem wpList_load_cells {P : Program} {ops : Array Oper} {rest : List Oper} {o : Oper} {a : Act} {w : World} {Q : Exit → Act → World → Prop} (hgd : o.guard = none) (ty : TypeId) (x : Operand) (ho : o.op = .load ty x)
    (ad : Addr) (hx : a.eval x = .pointer (some ad)) (cs : List Value) (d : TypeDesc) (hg : ∀ j v, cs[j]? = some v → w.cell? (ad.add j) = some v)
    (hu : P.underlying ty = some d) (hd : (match d with | .struct _ | .array _ _ => true | _ => false) = true) (hi : (P.info? ty).map (·.size) = some cs.length)
    (h : wpList P ops Q rest (a.put o.dst (.agg cs.toArray)) w) : wpList P ops Q (o :: rest) a w :=
  wpList_plain hgd fun _ hK => wp_load_cells ty x ho ad hx cs d hg hu hd hi (hK _ _ h)
theorem addr0 (b j : Nat) : ((⟨b, 0, none⟩ : Addr).add j) = ⟨b, j, none⟩ := by unfold Addr.add; split <;> simp_all
theorem index_row (k : Nat) (h : k < 25) (w : World) : (Instr.index 120 (.agg rowsCells.toArray) (.int .i64 (k : Int))).run Tryd.prog w = .ok (.agg #[.int .u8 (opT k), .int .u8 (longT k), .int .i64 (shapeT k)]) w := match k, h with
  | 0, _ => by kernel_rfl
  | 1, _ => by kernel_rfl
  | 2, _ => by kernel_rfl
  | 3, _ => by kernel_rfl
  | 4, _ => by kernel_rfl
  | 5, _ => by kernel_rfl
  | 6, _ => by kernel_rfl
  | 7, _ => by kernel_rfl
  | 8, _ => by kernel_rfl
  | 9, _ => by kernel_rfl
  | 10, _ => by kernel_rfl
  | 11, _ => by kernel_rfl
  | 12, _ => by kernel_rfl
  | 13, _ => by kernel_rfl
  | 14, _ => by kernel_rfl
  | 15, _ => by kernel_rfl
  | 16, _ => by kernel_rfl
  | 17, _ => by kernel_rfl
  | 18, _ => by kernel_rfl
  | 19, _ => by kernel_rfl
  | 20, _ => by kernel_rfl
  | 21, _ => by kernel_rfl
  | 22, _ => by kernel_rfl
  | 23, _ => by kernel_rfl
  | 24, _ => by kernel_rfl
  | n + 25, h => absurd h (by omega)
theorem kindFrom_step (op : Int) (k : Nat) (h : k < 25) : kindFrom op (List.range' k (25 - k)) =
    if 0 < k ∧ opT k = op then ((k : Int), false) else if 0 < k ∧ longT k ≠ 0 ∧ longT k = op then ((k : Int), true) else kindFrom op (List.range' (k + 1) (25 - (k + 1))) := by
  rw [show 25 - k = (25 - (k + 1)) + 1 from by omega, List.range'_succ]
  rfl
set_option maxHeartbeats 2000000 in
set_option maxRecDepth 100000 in
theorem kind_any (op : Int) (w : World) (hT : Tabs w) : Calls Tryd.prog 55 #[.int .u8 op] w fun e w' =>
    e = .returned (.tuple #[.int .i64 (kindOf op).1, .bool (kindOf op).2]) ∧ Below w.heap.size w w' := by
  have hrows := hT.rows
  clear hT
  generalize hR : kindOf op = R
  have HR : Hid (_ = R) := hR
  clear hR
  go_enter Tryd.func55, Tryd.ntmps55
  go_wp2_with (refine wpList_load_cells rfl 120 _ rfl ⟨0, 0, none⟩ rfl rowsCells _ (fun j v hv => by rw [addr0]; exact hrows j v hv) Tryd.underlying120 rfl (by kernel_rfl) ?_)
  clear hrows
  go_loopw [7] (fun i wr => ∃ k : Nat, k ≤ 25 ∧ i = .int .i64 k ∧ Hid (kindFrom op (List.range' k (25 - k)) = R) ∧ Below w.heap.size w wr) (fun i _ => 25 - (intOf i).toNat)
  case atStart => exact ⟨0, by omega, rfl, by rw [← HR.out]; rfl, Below.refl _ _⟩
  case round =>
    obtain ⟨k, hk, rfl, hR, hb⟩ := hrel
    have hz := hb.size
    by_cases hlt : k < 25
    · have hix := index_row k hlt
      have hst := kindFrom_step op k hlt
      have HS : Hid ((if 0 < k ∧ opT k = op then ((k : Int), false) else if 0 < k ∧ longT k ≠ 0 ∧ longT k = op then ((k : Int), true) else kindFrom op (List.range' (k + 1) (25 - (k + 1)))) = R) := hst ▸ hR
      clear hst hR HR
      generalize opT (k : Int) = o at *
      generalize longT (k : Int) = lo at *
      generalize shapeT (k : Int) = sh at *
      go_wp2
      · have hk0 : 0 < k := by assumption
        have ho : (o == op) = true := by assumption
        obtain rfl : ((k : Int), false) = R := by rw [← HS.out, if_pos ⟨hk0, by simpa using ho⟩]
        go_ret2
        exact ⟨rfl, hb.alloc hz _⟩
      · have hk0 : 0 < k := by assumption
        have ho : (o == op) = false := by assumption
        have hl : (lo == op) = true := by assumption
        have hl0 : ¬ lo = 0 := by assumption
        obtain rfl : ((k : Int), true) = R := by rw [← HS.out, if_neg (fun h => by simp [h.2] at ho), if_pos ⟨hk0, hl0, by simpa using hl⟩]
        go_ret2
        exact ⟨rfl, hb.alloc hz _⟩
      · have ho : (o == op) = false := by assumption
        have hl : (lo == op) = false := by assumption
        go_roundw
        case rel => exact ⟨k + 1, by omega, by go_num, by rw [if_neg (fun h => by simp [h.2] at ho), if_neg (fun h => by simp [h.2.2] at hl)] at HS; exact HS, hb.alloc hz _⟩
        case measure => simp [intOf]; omega
      · have ho : (o == op) = false := by assumption
        have hl : lo = 0 := by assumption
        go_roundw
        case rel => exact ⟨k + 1, by omega, by go_num, by rw [if_neg (fun h => by simp [h.2] at ho), if_neg (fun h => h.2.1 hl)] at HS; exact HS, hb.alloc hz _⟩
        case measure => simp [intOf]; omega
      · have hk0 : ¬ 0 < k := by assumption
        go_roundw
        case rel => exact ⟨k + 1, by omega, by go_num, by rw [if_neg (fun h => hk0 h.1), if_neg (fun h => hk0 h.1)] at HS; exact HS, hb.alloc hz _⟩
        case measure => simp [intOf]; omega
    · obtain rfl : k = 25 := by omega
      obtain rfl : ((0 : Int), false) = R := by rw [← hR.out]; rfl
      go_wp2
      go_ret2
      exact ⟨rfl, hb⟩
end Go.Proofs.YtgeljimckoodiaaDoor
