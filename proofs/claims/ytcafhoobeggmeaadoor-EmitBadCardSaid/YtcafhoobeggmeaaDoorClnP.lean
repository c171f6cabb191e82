/- slices.Clone of parts. -/
import Derived.Test.YtcafhoobeggmeaaDoorEmW
import Derived.Test.YtcafhoobeggmeaaDoorClnI
import Derived.Lib.SliceRun
import Derived.Deep.DeepCutAuto
import Derived.IntWalk
import Derived.WalkLawsBesides
namespace Go.Proofs.YtcafhoobeggmeaaDoor
open Go.RowKit Go.Deep
theorem infoPartC : (Tryd.prog.info? 66).map (fun i => (i.zero, i.size, i.bytes)) = some (some (.agg #[.int .i64 0, .slice none 0 0]), 2, 32) := by kernel_rfl
theorem parts_one (l : List (PartD × Option Addr × Nat)) : ∀ u ∈ partsV l, u.oneCell' = true := by
 intro u hu; unfold partsV at hu; obtain ⟨x, -, hx⟩ := List.mem_flatMap.1 hu; unfold partC at hx; simp only [List.mem_cons, List.not_mem_nil, or_false] at hx; rcases hx with rfl | rfl <;> rfl
set_option maxRecDepth 100000 in
theorem clone_part (L : List (PartD × Option Addr × Nat)) (A : Option Addr) (n c : Nat) (w : World) (hn : L.length = n) (hpos : 0 < n) (hm : n ≤ 1000000) (hR : RdG w w.heap.size A (partsV L)) :
 Calls Tryd.prog 19 #[.slice A n c] w (ClonePostE w 66 2 n (partsV L)) := by
 have hne : partsV L ≠ [] := fun e => by have e2 := congrArg List.length e; rw [partsV_len, hn] at e2; simp at e2; omega
 obtain ⟨g0, og0, rfl, hb, hc⟩ := hR hne; have hu : (binOp .eql 51 (.slice (some ⟨g0, og0, none⟩) n c) (.slice none 0 0)).run Tryd.prog w = .ok (.bool false) w := Lib.run_eql_slice_nil w _ _ _ n c 0 0 Tryd.underlying51; have HC : Hid (∀ j u, (partsV L)[j]? = some u → (w.alloc (.cells #[] 66)).cell? ⟨g0, og0 + j, none⟩ = some u) := hd' fun j u hj => (((Below.refl w.heap.size w).alloc lr' _).cell (p := ⟨g0, og0 + j, none⟩) hb).trans (hc j u hj)
 have HC2 : Hid (∀ j u, (partsV L)[j]? = some u → (w.alloc (.cells #[] 66)).cell? ((⟨g0, og0, none⟩ : Addr).add j) = some u) := hd' fun j u hu => by have h := HC.out j u hu; unfold Addr.add; split; (rename_i e; rw [e] at h; exact h); exact h
 have HM : Hid (0 + n ≤ maxLen ∧ (0 + n) * 32 ≤ 140737488355328) := hd' ⟨by unfold maxLen; omega, by omega⟩; have HL : Hid ((partsV L).length = n * 2) := hd' (by rw [partsV_len, hn]); clear hc hn hR hne
 go_enter Tryd.func19, Tryd.ntmps19
 go_wp2_with (first | (refine app_liesOE rfl _ _ 51 66 2 32 _ Tryd.underlying51 infoPartC rfl (by decide) rfl w.heap.size _ 0 [] rfl (own_emptyE _ _ _) ⟨g0, og0, none⟩ n c _ rfl HL.out HC2.out (parts_one _) hpos HM.out.1 HM.out.2 (by simp) (w.heap.size + 1) (by simp) ?a1))
 case a1 =>
  intro g' c' w' ho hgr hat hlt; have hb0 : Below w.heap.size w (w.alloc (.cells #[] 66)) := (Below.refl _ _).alloc lr' _; have hB : Below w.heap.size w w' := hb0.grown hgr (by simp) (fun q hq => by have e : some w.heap.size = some q := hq; injection e with e; omega); have HO := hd' ho; have HB := hd' hB; have hnm : 0 + n = n := by omega
  clear ho hgr hat hB hb0
  go_wp2
  go_ret
  exact ⟨_, c', rfl, HB.out, HO.out⟩
end Go.Proofs.YtcafhoobeggmeaaDoor
