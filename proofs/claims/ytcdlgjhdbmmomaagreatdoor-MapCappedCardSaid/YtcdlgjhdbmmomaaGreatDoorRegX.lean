/- A region that draws its order: loads may be taken first although the region's last operations write the cells that they read, if those wait for them. Drawn regions: several operations that may come up. -/
import Derived.OrdersHeld
import Derived.Deep.RegionHeld
import Derived.StillTail
namespace Go.Proofs.YtcdlgjhdbmmomaaGreatDoor
open Go
section
variable {P : Program} {ops : Array Oper} {Q : Exit → Act → World → Prop} {md : Region.Mode} {S : World → Prop} {n : Nat}
def wpW (P : Program) (md : Region.Mode) (ops : Array Oper) (Q : Exit → Act → World → Prop) (S : World → Prop) (n : Nat) : Nat → Array Bool → Act → World → Prop
 | 0, listed, a, w => Region.ready md ops listed = [] ∧ Q .normal a w
 | fuel + 1, listed, a, w =>
  (Region.ready md ops listed = [] → Q .normal a w) ∧
  ∀ i ∈ Region.ready md ops listed, wpOp P ops Q i (fun a' w' => (i < n → S w') ∧ wpW P md ops Q S n fuel (listed.setIfInBounds i true) a' w') a w
theorem wpAny_of_W : ∀ (fuel : Nat) (listed : Array Bool) (a : Act) (w : World), wpW P md ops Q S n fuel listed a w → wpAny P md ops Q fuel listed a w
 | 0, _, _, _, h => h
 | fuel + 1, _, _, _, h => ⟨h.1, fun i hi => wpOp_mono (fun a' w' h' => wpAny_of_W fuel _ a' w' h'.2) (h.2 i hi)⟩
def waitB (md : Region.Mode) (ops : Array Oper) (n i : Nat) : Bool := (List.range ops.size).all fun j => decide (j < n) || decide (j = i) || Region.waitsFor md ops j i
theorem wpW_first {i : Nat} {oi : Oper} {v : Value} (hi : ops[i]? = some oi) (hsel : ∀ (j : Nat) (o : Oper) cs b, ops[j]? = some o → o.op ≠ .select cs b)
 (hQ : ∀ c a w, Q (.panic c) (a.put oi.dst v) w → Q (.panic c) a w) (hwait : waitB md ops n i = true) :
 ∀ (fuel : Nat) (listed : Array Bool) (a : Act) (w : World),
  (∀ j oj, ops[j]? = some oj → j ≠ i → listed.getD j true = false → (∀ e ∈ oj.after, Region.binds md e = true → e.on ≠ i) → oi.apart ops oj = true) →
  i ∈ Region.ready md ops listed → YieldsIf P ops S oi v a → S w →
  wpW P md ops Q S n fuel (listed.setIfInBounds i true) (a.put oi.dst v) w → wpW P md ops Q S n (fuel + 1) listed a w := by
 intro fuel
 induction fuel with
 | zero =>
  intro listed a w _ hr hy hS H; refine ⟨fun h => (by rw [h] at hr; cases hr), fun j hj => ?_⟩
  by_cases hji : j = i
  · subst hji; exact hy.wpOp hi hS ⟨fun _ => hS, H⟩
  · have := ready_mono hj hji; rw [H.1] at this
    cases this
 | succ fuel ih =>
  intro listed a w hfree hr hy hS H; refine ⟨fun h => (by rw [h] at hr; cases hr), fun j hj => ?_⟩
  by_cases hji : j = i
  · subst hji; exact hy.wpOp hi hS ⟨fun _ => hS, H⟩
  · have h1 := H.2 j (ready_mono hj hji); obtain ⟨hjun, oj, hoj, hall⟩ := mem_ready.1 hj
    have hnot : ∀ e ∈ oj.after, Region.binds md e = true → e.on ≠ i := fun e he hb heq => by
     have h1 := hall e he hb; have h0 := (mem_ready.1 hr).1; rw [heq] at h1; rcases Nat.lt_or_ge i listed.size with h' | h'
     · simp [h'] at h0 h1; rw [h0] at h1
       cases h1
     · simp [Array.getElem?_eq_none h'] at h1
    have hjn : j < n := by
     rcases Nat.lt_or_ge j n with h | h
     · exact h
     · have hw := List.all_eq_true.1 hwait j (List.mem_range.2 (Array.getElem?_eq_some_iff.1 hoj).1); simp only [Bool.or_eq_true, decide_eq_true_eq] at hw; rcases hw with (hw | hw) | hw
       · exact hw
       · exact absurd hw hji
       · obtain ⟨o', ho', e, he, hb, hon⟩ := Region.waitsFor_spec hw; have : o' = oj := Option.some.inj (ho'.symm.trans hoj); subst this; exact absurd hon (hnot e he hb)
    have h2 := wpOp_putIf hoj (hfree j oj hoj hji hjun hnot) (fun cs b => hsel i oi cs b hi) (fun cs b => hsel j oj cs b hoj) hQ hy h1
    have hfree' : ∀ k ok, ops[k]? = some ok → k ≠ i → (listed.setIfInBounds j true).getD k true = false →
     (∀ e ∈ ok.after, Region.binds md e = true → e.on ≠ i) → oi.apart ops ok = true := fun k ok hk hki hun hno => by
     refine hfree k ok hk hki ?_ hno
     by_cases hjk : j = k
     · subst hjk; exact hjun
     · rw [getD_set_ne true hjk] at hun; exact hun
    refine wpOp_mono (fun a' w' h3 => ⟨fun _ => h3.2.1 hjn, ih (listed.setIfInBounds j true) a' w' hfree' (ready_mono hr (Ne.symm hji)) h3.1 (h3.2.1 hjn) ?_⟩) h2; rw [Array.setIfInBounds_comm _ _ hji]; exact h3.2.2
end
section
variable {P : Program} {l : List Oper} {Q : Exit → Act → World → Prop} {md : Region.Mode} {S : World → Prop} {n : Nat}
theorem wpW_take (i : Nat) {oi : Oper} {v : Value} {fuel : Nat} {listed : Array Bool} {a : Act} {w : World} (hi : l[i]? = some oi)
 (hs : Region.noSelect l.toArray = true) (hf : Region.free md l.toArray listed i = true) (hr : (Region.ready md l.toArray listed).contains i = true) (hwait : waitB md l.toArray n i = true)
 (hQ : ∀ c a w, Q (.panic c) (a.put oi.dst v) w → Q (.panic c) a w) (hy : YieldsIf P l.toArray S oi v a) (hS : S w)
 (h : wpW P md l.toArray Q S n fuel (listed.setIfInBounds i true) (a.put oi.dst v) w) : wpW P md l.toArray Q S n (fuel + 1) listed a w :=
 have hi' : l.toArray[i]? = some oi := by simpa using hi
 wpW_first hi' (Region.noSelect_spec hs) hQ hwait fuel listed a w (Region.free_spec hi' hf) (by simpa using hr) hy hS h
theorem putE : (∀ (a : Act) (i : Nat) (v : Value), a.put (some i) v = { a with tmps := a.tmps.setIfInBounds i v }) ∧ (∀ (a : Act) (v : Value), a.put none v = a) ∧ (∀ (l : List Value) (i : Nat) (v : Value), l.toArray.setIfInBounds i v = (l.set i v).toArray) ∧ (∀ (x y : Value) (r : List Value), (x :: r).set 0 y = y :: r) ∧ (∀ (x y : Value) (r : List Value) (i : Nat), (x :: r).set (i + 1) y = x :: r.set i y) :=
 ⟨fun _ _ _ => rfl, fun _ _ => rfl, fun _ _ _ => by simp, fun _ _ _ => rfl, fun _ _ _ _ => rfl⟩
theorem wpW_t (i : Nat) {oi : Oper} {v : Value} {fuel : Nat} {listed : Array Bool} {a : Act} {w : World} (hi : l[i]? = some oi) (hy : YieldsIf P l.toArray S oi v a) (hS : S w)
 (h : wpW P md l.toArray Q S n fuel (listed.setIfInBounds i true) (a.put oi.dst v) w) (hs : Region.noSelect l.toArray = true := by kernel_rfl) (hf : Region.free md l.toArray listed i = true := by kernel_rfl) (hr : (Region.ready md l.toArray listed).contains i = true := by kernel_rfl) (hwait : waitB md l.toArray n i = true := by kernel_rfl)
 (hQ : ∀ c a w, Q (.panic c) (a.put oi.dst v) w → Q (.panic c) a w := by exact fun _ _ _ h => h) : wpW P md l.toArray Q S n (fuel + 1) listed a w := wpW_take i hi hs hf hr hwait hQ hy hS h
theorem wq (i : Nat) {oi : Oper} {v : Value} {fuel : Nat} {listed : Array Bool} {a a' : Act} {w : World} (hS : S w)
 (h : wpW P md l.toArray Q S n fuel (listed.setIfInBounds i true) a' w) (hi : l[i]? = some oi := by rfl) (hy : YieldsIf P l.toArray S oi v a := by refine Or.inl ⟨by rfl, ?_⟩; intro w hSw; (try dsimp only at hSw); go_simp; try with_reducible rfl) (hp : a.put oi.dst v = a' := by (try simp only [putE]); rfl) (hs : Region.noSelect l.toArray = true := by kernel_rfl) (hf : Region.free md l.toArray listed i = true := by kernel_rfl) (hr : (Region.ready md l.toArray listed).contains i = true := by kernel_rfl) (hwait : waitB md l.toArray n i = true := by kernel_rfl)
 (hQ : ∀ c a w, Q (.panic c) (a.put oi.dst v) w → Q (.panic c) a w := by exact fun _ _ _ h => h) : wpW P md l.toArray Q S n (fuel + 1) listed a w := by subst hp; exact wpW_take i hi hs hf hr hwait hQ hy hS h
theorem wpW_one (i : Nat) {o : Oper} {fuel : Nat} {listed : Array Bool} {a : Act} {w : World} (ho : l[i]? = some o) (hr : Region.ready md l.toArray listed = [i])
 (h : ∀ K' : Act → World → Prop, Shut (∀ a w, S w → (S w → wpW P md l.toArray Q S n fuel (listed.setIfInBounds i true) a w) → K' a w) → if Region.wanted o (yielded l.toArray a.tmps) = true then Oper.wp P o a w K' Q else K' (a.put o.dst undef) w) :
 wpW P md l.toArray Q S n (fuel + 1) listed a w := by
 have ho' : l.toArray[i]? = some o := by simpa using ho
 refine ⟨fun h0 => (by rw [h0] at hr; cases hr), fun j hj => ?_⟩; rw [hr] at hj; have hji : j = i := by simpa using hj
 subst hji; exact wpOp_step ho' (fun K' hK => h K' (fun a w hS hW => hK a w ⟨fun _ => hS, hW hS⟩))
theorem wpW_two (i k : Nat) {o u : Oper} {fuel : Nat} {listed : Array Bool} {a : Act} {w : World} (ho : l[i]? = some o) (hu : l[k]? = some u) (hr : Region.ready md l.toArray listed = [i, k])
 (h : ∀ K' : Act → World → Prop, Shut (∀ a w, S w → (S w → wpW P md l.toArray Q S n fuel (listed.setIfInBounds i true) a w) → K' a w) → if Region.wanted o (yielded l.toArray a.tmps) = true then Oper.wp P o a w K' Q else K' (a.put o.dst undef) w)
 (h2 : ∀ K' : Act → World → Prop, Shut (∀ a w, S w → (S w → wpW P md l.toArray Q S n fuel (listed.setIfInBounds k true) a w) → K' a w) → if Region.wanted u (yielded l.toArray a.tmps) = true then Oper.wp P u a w K' Q else K' (a.put u.dst undef) w) :
 wpW P md l.toArray Q S n (fuel + 1) listed a w := by
 have ho' : l.toArray[i]? = some o := by simpa using ho
 have hu' : l.toArray[k]? = some u := by simpa using hu
 refine ⟨fun h0 => (by rw [h0] at hr; cases hr), fun j hj => ?_⟩; rw [hr] at hj; have hji : j = i ∨ j = k := by simpa using hj
 rcases hji with rfl | rfl
 · exact wpOp_step ho' (fun K' hK => h K' (fun a w hS hW => hK a w ⟨fun _ => hS, hW hS⟩))
 · exact wpOp_step hu' (fun K' hK => h2 K' (fun a w hS hW => hK a w ⟨fun _ => hS, hW hS⟩))
theorem wpW_last (i : Nat) {o : Oper} {fuel : Nat} {listed : Array Bool} {a : Act} {w : World} (ho : l[i]? = some o) (hr : Region.ready md l.toArray listed = [i]) (hn : n ≤ i)
 (h : ∀ K' : Act → World → Prop, Shut (∀ a w, wpW P md l.toArray Q S n fuel (listed.setIfInBounds i true) a w → K' a w) → if Region.wanted o (yielded l.toArray a.tmps) = true then Oper.wp P o a w K' Q else K' (a.put o.dst undef) w) :
 wpW P md l.toArray Q S n (fuel + 1) listed a w := by
 have ho' : l.toArray[i]? = some o := by simpa using ho
 refine ⟨fun h0 => (by rw [h0] at hr; cases hr), fun j hj => ?_⟩; rw [hr] at hj; have hji : j = i := by simpa using hj
 subst hji; exact wpOp_step ho' (fun K' hK => h K' (fun a w hW => hK a w ⟨fun hlt => absurd hlt (Nat.not_lt.2 hn), hW⟩))
theorem wpW_done {listed : Array Bool} {a : Act} {w : World} (hr : Region.ready md l.toArray listed = []) (h : Q .normal a w) : ∀ fuel, wpW P md l.toArray Q S n fuel listed a w
 | 0 => ⟨hr, h⟩
 | _ + 1 => ⟨fun _ => h, by rw [hr]; simp⟩
theorem wp_region_W (S : World → Prop) (n : Nat) {id : Nat} {a : Act} {w : World} (hm : P.follows .mixedOrders = true) (hS : S w.drew)
 (h : S w.drew → wpW P .any l.toArray Q S n l.toArray.size (Array.replicate l.toArray.size false) a w.drew) : (Code.region id l.toArray true).wp P Q a w :=
 wp_region_any hm (wpAny_of_W _ _ _ _ (h hS))
end
section
variable {P : Program} {l : List Oper} {Q : Exit → Act → World → Prop} {md : Region.Mode} {S : World → Prop} {n : Nat}
def AllW (P : Program) (md : Region.Mode) (l : List Oper) (Q : Exit → Act → World → Prop) (S : World → Prop) (n fuel : Nat) (listed : Array Bool) (a : Act) (w : World) (rs : List Nat) : Prop :=
 ∀ i ∈ rs, wpOp P l.toArray Q i (fun a' w' => (i < n → S w') ∧ wpW P md l.toArray Q S n fuel (listed.setIfInBounds i true) a' w') a w
theorem AllW.nil {fuel : Nat} {listed : Array Bool} {a : Act} {w : World} : AllW P md l Q S n fuel listed a w [] := fun _ h => by cases h
theorem AllW.cons {i : Nat} {o : Oper} {rs : List Nat} {fuel : Nat} {listed : Array Bool} {a : Act} {w : World} (ho : l[i]? = some o)
 (h : ∀ K' : Act → World → Prop, Shut (∀ a w, S w → (S w → wpW P md l.toArray Q S n fuel (listed.setIfInBounds i true) a w) → K' a w) → if Region.wanted o (yielded l.toArray a.tmps) = true then Oper.wp P o a w K' Q else K' (a.put o.dst undef) w)
 (hs : AllW P md l Q S n fuel listed a w rs) : AllW P md l Q S n fuel listed a w (i :: rs) := fun j hj => by
 have ho' : l.toArray[i]? = some o := by simpa using ho
 rcases List.mem_cons.1 hj with rfl | hj
 · exact wpOp_step ho' (fun K' hK => h K' (fun a w hS hW => hK a w ⟨fun _ => hS, hW hS⟩))
 · exact hs j hj
theorem wpW_all (rs : List Nat) {fuel : Nat} {listed : Array Bool} {a : Act} {w : World} (hr : Region.ready md l.toArray listed = rs) (hne : rs ≠ []) (h : AllW P md l Q S n fuel listed a w rs) : wpW P md l.toArray Q S n (fuel + 1) listed a w :=
 ⟨fun h0 => absurd (hr ▸ h0) hne, fun i hi => h i (hr ▸ hi)⟩
end
end Go.Proofs.YtcdlgjhdbmmomaaGreatDoor
