/- What tally.Map makes of a tally's edges, as plain words. -/
import Derived.Test.YtcdlgjhdbmmomaaGreatDoorTlP
import Derived.Test.YtcdlgjhdbmmomaaGreatDoorNxt
import Derived.Test.YtcdlgjhdbmmomaaGreatDoorPlc
namespace Go.Proofs.YtcdlgjhdbmmomaaGreatDoor
open Go.RowKit
/-- where the addresses at which blocks end lead, by the first blocks -/
def fromS (bs : List BlkD) : Nat → Int → Option Int
  | 0 => fun _ => none
  | k + 1 => if (bs.getD k blkZ).ats.length = 0 then fromS bs k else upF (fromS bs k) ((bs.getD k blkZ).ats.getD ((bs.getD k blkZ).ats.length - 1) 0) (some (k : Int))
/-- where the addresses at which blocks begin lead, by the first blocks -/
def toS (bs : List BlkD) : Nat → Int → Option Int
  | 0 => fun _ => none
  | k + 1 => upF (toS bs k) (bs.getD k blkZ).start (some (k : Int))
theorem fromS_bd {bs : List BlkD} : ∀ {k : Nat} {a x : Int}, fromS bs k a = some x → 0 ≤ x ∧ x < k
  | 0, a, x, h => by cases h
  | k + 1, a, x, h => by
    unfold fromS at h
    split at h
    · have := fromS_bd h
      omega
    · unfold upF at h
      split at h
      · injection h with h
        omega
      · have := fromS_bd h
        omega
theorem toS_bd {bs : List BlkD} : ∀ {k : Nat} {a x : Int}, toS bs k a = some x → 0 ≤ x ∧ x < k
  | 0, a, x, h => by cases h
  | k + 1, a, x, h => by
    unfold toS upF at h
    split at h
    · injection h with h
      omega
    · have := toS_bd h
      omega
/-- the blocks between which an edge leads -/
def keyO (d : FlowD) : Option Int → Option Int → Option (Int × Int)
  | some x, some y => if y ∈ nextsL d (d.blocks.getD x.toNat blkZ) then some (x, y) else none
  | _, _ => none
def keyE (d : FlowD) (e : EdgE) : Option (Int × Int) := keyO d (fromS d.blocks d.blocks.length e.a) (toS d.blocks d.blocks.length e.b)
theorem keyE_bd {d : FlowD} {e : EdgE} {x y : Int} (h : keyE d e = some (x, y)) : 0 ≤ x ∧ x < d.blocks.length ∧ 0 ≤ y ∧ y < d.blocks.length ∧ y ∈ nextsL d (d.blocks.getD x.toNat blkZ) := by
  unfold keyE keyO at h
  split at h
  · rename_i x0 y0 h1 h2
    split at h
    · rename_i h3
      injection h with h
      injection h with e1 e2
      subst e1; subst e2
      have := fromS_bd h1
      have := toS_bd h2
      exact ⟨by omega, by omega, by omega, by omega, h3⟩
    · cases h
  · cases h
def capI (a b : Int) : Int := min (a + b) 1073741824
def edZ : EdgE := ⟨0, 0, 0⟩
/-- how often each way is gone, by the first edges -/
def cntS (d : FlowD) (l : List EdgE) : Nat → Int → Int → Int
  | 0 => fun _ _ => 0
  | k + 1 => fun x y => if keyE d (l.getD k edZ) = some (x, y) then capI (cntS d l k x y) (l.getD k edZ).c else cntS d l k x y
theorem cntS_bd {d : FlowD} {l : List EdgE} (h : ∀ e ∈ l, 0 ≤ e.c ∧ e.c ≤ 1073741824) (x y : Int) : ∀ k : Nat, 0 ≤ cntS d l k x y ∧ cntS d l k x y ≤ 1073741824
  | 0 => ⟨Int.le_refl _, by show (0 : Int) ≤ _; omega⟩
  | k + 1 => by
    have ih := cntS_bd (d := d) h x y k
    have hc : 0 ≤ (l.getD k edZ).c ∧ (l.getD k edZ).c ≤ 1073741824 := by
      rw [List.getD_eq_getElem?_getD]
      rcases hg : l[k]? with _ | e
      · exact ⟨Int.le_refl _, by show (0 : Int) ≤ _; omega⟩
      · exact h e (List.mem_of_getElem? hg)
    unfold cntS
    split
    · unfold capI
      omega
    · exact ih
theorem cntS_key {d : FlowD} {l : List EdgE} {x y : Int} : ∀ {k : Nat}, cntS d l k x y ≠ 0 → ∃ e : EdgE, keyE d e = some (x, y)
  | 0, h => absurd rfl h
  | k + 1, h => by
    unfold cntS at h
    split at h
    · rename_i h1
      exact ⟨_, h1⟩
    · exact cntS_key h
theorem cntS_next {d : FlowD} {l : List EdgE} {x y : Int} {k : Nat} (h : cntS d l k x y ≠ 0) : 0 ≤ x ∧ x < d.blocks.length ∧ 0 ≤ y ∧ y < d.blocks.length ∧ y ∈ nextsL d (d.blocks.getD x.toNat blkZ) := by
  obtain ⟨e, he⟩ := cntS_key h
  exact keyE_bd he
/-- the ways that are gone, by their places -/
def outL (N : Nat) (g : Int → Int → Int) : List EdgD :=
  (List.range N).flatMap fun x : Nat => (List.range N).filterMap fun y : Nat => if 0 < g x y then some ⟨(x : Int), (y : Int), g x y⟩ else none
def mapL (d : FlowD) (l : List EdgE) : List EdgD := outL d.blocks.length (cntS d l l.length)
def ltE (a b : EdgD) : Prop := a.f < b.f ∨ a.f = b.f ∧ a.t < b.t
theorem outL_mem {N : Nat} {g : Int → Int → Int} {e : EdgD} : e ∈ outL N g ↔ 0 ≤ e.f ∧ e.f < N ∧ 0 ≤ e.t ∧ e.t < N ∧ 0 < g e.f e.t ∧ e.c = g e.f e.t := by
  unfold outL
  rw [List.mem_flatMap]
  constructor
  · rintro ⟨x, hx, h⟩
    rw [List.mem_filterMap] at h
    obtain ⟨y, hy, h⟩ := h
    rw [List.mem_range] at hx hy
    split at h
    · rename_i h1
      injection h with h
      subst h
      exact ⟨by show (0 : Int) ≤ x; omega, by show (x : Int) < N; omega, by show (0 : Int) ≤ y; omega, by show (y : Int) < N; omega, h1, rfl⟩
    · cases h
  · obtain ⟨f, t, c⟩ := e
    rintro ⟨h1, h2, h3, h4, h5, h6⟩
    dsimp only at *
    obtain ⟨x, rfl⟩ := Int.eq_ofNat_of_zero_le h1
    obtain ⟨y, rfl⟩ := Int.eq_ofNat_of_zero_le h3
    refine ⟨x, List.mem_range.2 (by omega), List.mem_filterMap.2 ⟨y, List.mem_range.2 (by omega), ?_⟩⟩
    rw [if_pos h5, h6]
theorem outL_sorted (N : Nat) (g : Int → Int → Int) : (outL N g).Pairwise ltE := by
  unfold outL
  rw [List.pairwise_flatMap]
  refine ⟨fun x _ => ?_, ?_⟩
  · rw [List.pairwise_filterMap]
    refine List.Pairwise.imp ?_ List.pairwise_lt_range
    intro a b hab u hu v hv
    split at hu
    · split at hv
      · injection hu with hu
        injection hv with hv
        subst hu; subst hv
        exact .inr ⟨rfl, by show (a : Int) < b; omega⟩
      · cases hv
    · cases hu
  · refine List.Pairwise.imp ?_ List.pairwise_lt_range
    intro a b hab u hu v hv
    rw [List.mem_filterMap] at hu hv
    obtain ⟨y, -, hu⟩ := hu
    obtain ⟨z, -, hv⟩ := hv
    split at hu
    · split at hv
      · injection hu with hu
        injection hv with hv
        subst hu; subst hv
        exact .inl (by show (a : Int) < b; omega)
      · cases hv
    · cases hu
theorem ltE_irrefl (a : EdgD) : ¬ ltE a a := by unfold ltE; omega
theorem pairwise_nodup {L : List EdgD} (h : L.Pairwise ltE) : L.Nodup := h.imp fun {a b} hab e => by
  subst e
  exact ltE_irrefl _ hab
/-- a row of all the ways that are gone, each once, by their places, is that one -/
theorem out_eq {N : Nat} {g : Int → Int → Int} {L : List EdgD} (hn : L.Nodup) (hm : ∀ e : EdgD, e ∈ L ↔ 0 < g e.f e.t ∧ e.c = g e.f e.t)
    (hr : ∀ x y, g x y ≠ 0 → 0 ≤ x ∧ x < N ∧ 0 ≤ y ∧ y < N) (hs : L.Pairwise fun a b => ¬ ltE b a) : L = outL N g := by
  have hp : L.Perm (outL N g) := (List.perm_ext_iff_of_nodup hn (pairwise_nodup (outL_sorted N g))).2 fun e => by
    rw [hm, outL_mem]
    constructor
    · rintro ⟨h1, h2⟩
      obtain ⟨k1, k2, k3, k4⟩ := hr e.f e.t (by omega)
      exact ⟨k1, k2, k3, k4, h1, h2⟩
    · rintro ⟨-, -, -, -, h1, h2⟩
      exact ⟨h1, h2⟩
  refine hp.eq_of_pairwise ?_ hs ((outL_sorted N g).imp fun h1 h2 => by unfold ltE at *; omega)
  rintro ⟨f, t, c⟩ ⟨f', t', c'⟩ ha hb h1 h2
  obtain ⟨-, k2⟩ := (hm _).1 ha
  obtain ⟨-, -, -, -, -, k4⟩ := outL_mem.1 hb
  unfold ltE at h1 h2
  dsimp only at *
  have e1 : f = f' := by omega
  subst e1
  have e2 : t = t' := by omega
  subst e2
  rw [k2, k4]
theorem mapL_mem {d : FlowD} {l : List EdgE} {e : EdgD} (h : e ∈ mapL d l) : 0 ≤ e.f ∧ e.f < d.blocks.length ∧ 0 ≤ e.t ∧ e.t < d.blocks.length ∧ 0 < e.c ∧ e.t ∈ nextsL d (d.blocks.getD e.f.toNat blkZ) := by
  obtain ⟨h1, h2, h3, h4, h5, h6⟩ := outL_mem.1 h
  obtain ⟨-, -, -, -, k5⟩ := cntS_next (show cntS d l l.length e.f e.t ≠ 0 by omega)
  exact ⟨h1, h2, h3, h4, by omega, k5⟩
theorem mapL_le {d : FlowD} {l : List EdgE} (hl : ∀ e ∈ l, 0 ≤ e.c ∧ e.c ≤ 1073741824) {e : EdgD} (h : e ∈ mapL d l) : e.c ≤ 1073741824 := by
  obtain ⟨-, -, -, -, -, h6⟩ := outL_mem.1 h
  have := (cntS_bd (d := d) hl e.f e.t l.length).2
  omega
/-- CheckEdges finds nothing wrong with a row that is by its places -/
theorem edgGo_ok {n : Int} : ∀ (l : List EdgD) (p : Option EdgD), (∀ e ∈ l, ¬ EdgBad n e) → l.Pairwise ltE → (∀ q, p = some q → ∀ e ∈ l, ltE q e) → edgGo n p l = 0
  | [], _, _, _, _ => by unfold edgGo; rfl
  | e :: r, p, hb, hs, hp => by
    unfold edgGo
    rw [if_neg (hb e (by simp)), if_neg ?_]
    · exact edgGo_ok r (some e) (fun x hx => hb x (by simp [hx])) (List.pairwise_cons.1 hs).2 (fun q hq x hx => by injection hq with hq; subst hq; exact (List.pairwise_cons.1 hs).1 x hx)
    · cases p with
      | none => exact id
      | some q =>
        have := hp q rfl e (by simp)
        unfold ltE at this
        show ¬ (e.f < q.f ∨ q.f = e.f ∧ e.t ≤ q.t)
        omega
theorem mapL_check {d : FlowD} {l : List EdgE} (hl : ∀ e ∈ l, 0 ≤ e.c ∧ e.c ≤ 1073741824) : edgGo d.blocks.length none (mapL d l) = 0 := by
  refine edgGo_ok _ _ (fun e he => ?_) (outL_sorted _ _) (fun q hq => by cases hq)
  have h1 := mapL_mem he
  have h2 := mapL_le hl he
  unfold EdgBad
  omega
theorem mapL_one {N : Nat} (g : Int → Int → Int) : (outL N g).length ≤ N * N := by
  unfold outL
  have h : ∀ (L : List Nat) (F : Nat → List EdgD), (∀ x, (F x).length ≤ N) → (L.flatMap F).length ≤ L.length * N := by
    intro L F hF
    induction L with
    | nil => simp
    | cons a r ih =>
      rw [List.flatMap_cons, List.length_append, List.length_cons, Nat.succ_mul]
      have := hF a
      omega
  have h2 := h (List.range N) (fun x : Nat => (List.range N).filterMap fun y : Nat => if 0 < g x y then some ⟨(x : Int), (y : Int), g x y⟩ else none) (fun x => Nat.le_trans (List.length_filterMap_le _ _) (by simp))
  simpa using h2
end Go.Proofs.YtcdlgjhdbmmomaaGreatDoor
