/- A flow's blocks begin and end at addresses of their own; what three edges of one way come to. -/
import Derived.Test.YtcdlgjhdbmmomaaGreatDoorMpR
import Derived.Test.YtcdlgjhdbmmomaaGreatDoorEmtG
namespace Go.Proofs.YtcdlgjhdbmmomaaGreatDoor
open Go.RowKit
theorem PgmF.atsGe {m : Img} {ld : Int → Bool} {bm : Int → Option Int} {S : List FSp} {gs : List (List FSp)} {d : FlowD} (h : PgmF m ld bm S gs d) {i : Nat} {b : BlkD} (hb : d.blocks[i]? = some b) : ∀ {j : Nat} {p : Int}, b.ats[j]? = some p → b.start ≤ p := by
  intro j p hp
  obtain ⟨x, r, hg, -, -, hs, ha⟩ := h.blk hb
  have key : ∀ j y, (x :: r)[j]? = some y → x.2.p ≤ posP gs (x :: r) i j := by
    intro j
    induction j with
    | zero => intro y hy; rw [← (h.spot hg (show (x :: r)[0]? = some x from rfl)).1]; exact Int.le_refl _
    | succ j ih =>
      intro y hy
      have hj : j < (x :: r).length := by have := (List.getElem?_eq_some_iff.1 hy).1; omega
      obtain ⟨z, hz⟩ : ∃ z, (x :: r)[j]? = some z := ⟨_, List.getElem?_eq_getElem hj⟩
      have h1 := ih z hz
      have h2 := h.spot hg hz
      have h3 := h.posb h2.2.2.1
      rw [h2.2.1]
      omega
  rw [ha, List.getElem?_map, Option.map_eq_some_iff] at hp
  obtain ⟨y, hy, rfl⟩ := hp
  rw [hs, (h.spot hg hy).1]
  exact key j y hy
theorem PgmF.far {m : Img} {ld : Int → Bool} {bm : Int → Option Int} {S : List FSp} {gs : List (List FSp)} {d : FlowD} (h : PgmF m ld bm S gs d) {i k : Nat} {b c : BlkD} (hb : d.blocks[i]? = some b) (hc : d.blocks[k]? = some c) (hik : i < k) {j : Nat} {p : Int} (hp : b.ats[j]? = some p) : p < c.start := by
  obtain ⟨x, r, hg, -, -, hs, ha⟩ := h.blk hb
  obtain ⟨x2, r2, hg2, -, -, hs2, -⟩ := h.blk hc
  rw [ha, List.getElem?_map, Option.map_eq_some_iff] at hp
  obtain ⟨y, hy, rfl⟩ := hp
  have := h.before hg2 hik hg (List.mem_of_getElem? hy)
  rw [hs2]
  omega
theorem fromS_hit {bs : List BlkD} {a : Int} {k : Nat} : ∀ {n : Nat}, k < n → (bs.getD k blkZ).ats.length ≠ 0 → (bs.getD k blkZ).ats.getD ((bs.getD k blkZ).ats.length - 1) 0 = a →
    (∀ j, k < j → j < n → (bs.getD j blkZ).ats.getD ((bs.getD j blkZ).ats.length - 1) 0 ≠ a) → fromS bs n a = some (k : Int)
  | 0, h, _, _, _ => by omega
  | n + 1, h, h1, h2, h3 => by
    show (if (bs.getD n blkZ).ats.length = 0 then fromS bs n else upF (fromS bs n) _ (some (n : Int))) a = _
    by_cases e : n = k
    · subst e
      rw [if_neg h1, h2]
      unfold upF
      rw [if_pos rfl]
    · have ih := fromS_hit (n := n) (by omega) h1 h2 fun j hj hj2 => h3 j hj (by omega)
      split
      · exact ih
      · unfold upF
        rw [if_neg (fun e2 => h3 n (by omega) (by omega) e2.symm)]
        exact ih
theorem toS_hit {bs : List BlkD} {a : Int} {k : Nat} : ∀ {n : Nat}, k < n → (bs.getD k blkZ).start = a → (∀ j, k < j → j < n → (bs.getD j blkZ).start ≠ a) → toS bs n a = some (k : Int)
  | 0, h, _, _ => by omega
  | n + 1, h, h2, h3 => by
    show upF (toS bs n) (bs.getD n blkZ).start (some (n : Int)) a = _
    unfold upF
    by_cases e : n = k
    · subst e
      rw [if_pos h2.symm]
    · rw [if_neg (fun e2 => h3 n (by omega) (by omega) e2.symm)]
      exact toS_hit (n := n) (by omega) h2 fun j hj hj2 => h3 j hj (by omega)
theorem fromS_miss {bs : List BlkD} {a : Int} : ∀ {n : Nat}, (∀ j, j < n → (bs.getD j blkZ).ats.length ≠ 0 → (bs.getD j blkZ).ats.getD ((bs.getD j blkZ).ats.length - 1) 0 ≠ a) → fromS bs n a = none
  | 0, _ => rfl
  | n + 1, h => by
    show (if (bs.getD n blkZ).ats.length = 0 then fromS bs n else upF (fromS bs n) _ (some (n : Int))) a = _
    have ih := fromS_miss (n := n) fun j hj => h j (by omega)
    split
    · exact ih
    · rename_i h1
      unfold upF
      rw [if_neg (fun e2 => h n (by omega) h1 e2.symm)]
      exact ih
/-- the one way on from a block that falls or jumps -/
structure WayK (d : FlowD) (k : Nat) (b : BlkD) (a s : Int) : Prop where
  key : ∀ c, keyE d ⟨a, s, c⟩ = some ((k : Int), b.dst)
  odd : ∀ c, keyE d ⟨-5, s, c⟩ = none
  bd : (0 ≤ a ∧ a ≤ 1600) ∧ (0 ≤ s ∧ s ≤ 1600) ∧ 0 ≤ b.dst ∧ b.dst < d.blocks.length ∧ k < d.blocks.length
theorem FlwSt.way {w : World} {l : List RawI} {m : Img} {v : ImgV} {d : FlowD} {xA yA zA : Option Addr} {xc yc zc : Nat} (h : FlwSt w l m v d xA yA zA xc yc zc) {k : Nat} {b : BlkD} (hb : d.blocks[k]? = some b) (he : b.ends = 2 ∨ b.ends = 3) {t : BlkD} (ht : d.blocks[b.dst.toNat]? = some t) :
    WayK d k b (b.ats.getD (b.ats.length - 1) 0) t.start := by
  obtain ⟨ld, bm, S, gs, hF, -, -⟩ := gen_flow3 h.pgm.check h.rc
  have hT := h.tal
  obtain ⟨hl, ha, -, hd, -⟩ := hT.blk k b hb
  have hds := hd (by omega)
  have hkl := (List.getElem?_eq_some_iff.1 hb).1
  have hst := (hT.blk _ t ht).2.2.1
  have last : ∀ {j : Nat} {c : BlkD}, d.blocks[j]? = some c → c.ats[c.ats.length - 1]? = some (c.ats.getD (c.ats.length - 1) 0) := fun {j c} hc => by
    have h1 := (hT.blk j c hc).1.1
    rw [List.getD_eq_getElem?_getD, List.getElem?_eq_getElem (by omega)]
    rfl
  have hat : ∀ j, j < d.blocks.length → d.blocks[j]? = some (d.blocks.getD j blkZ) := fun j hj => by
    rw [List.getD_eq_getElem?_getD, List.getElem?_eq_getElem hj]
    rfl
  have hto : toS d.blocks d.blocks.length t.start = some b.dst := by
    have h1 := toS_hit (bs := d.blocks) (a := t.start) (k := b.dst.toNat) (n := d.blocks.length) (List.getElem?_eq_some_iff.1 ht).1 (by rw [getDz ht]) fun j hj hj2 e => by
      have h2 := hF.far ht (hat j hj2) hj (last ht)
      have h3 := hF.atsGe ht (last ht)
      omega
    rw [h1]
    congr 1
    omega
  refine ⟨fun c => ?_, fun c => ?_, ha _, hst, hds.1, hds.2, hkl⟩
  · unfold keyE
    rw [hto, fromS_hit (bs := d.blocks) (k := k) hkl (by rw [getDz hb]; omega) (by rw [getDz hb]) (fun j hj hj2 e => by
      dsimp only at e
      have h2 := hF.far hb (hat j hj2) hj (last hb)
      have h3 := hF.atsGe (hat j hj2) (last (hat j hj2))
      omega)]
    show (if b.dst ∈ nextsL d (d.blocks.getD ((k : Int)).toNat blkZ) then _ else _) = _
    simp only [Int.toNat_natCast, getDz hb]
    rw [if_pos (nextsL_mem.2 (by unfold nextsRaw; rw [if_pos he]; simp))]
  · unfold keyE
    rw [fromS_miss (fun j hj hn e => by
      dsimp only at e
      have h2 := (hT.blk j _ (hat j hj)).2.1 ((d.blocks.getD j blkZ).ats.length - 1)
      omega)]
    rfl
theorem WayK.three {d : FlowD} {k : Nat} {b : BlkD} {a s c : Int} (h : WayK d k b a s) (hc : 1073741724 ≤ c ∧ c ≤ 1073741824) : mapL d [⟨a, s, c⟩, ⟨a, s, c⟩, ⟨a, s, c⟩] = [⟨(k : Int), b.dst, 1073741824⟩] := by
  have hg : ∀ x y, cntS d [⟨a, s, c⟩, ⟨a, s, c⟩, ⟨a, s, c⟩] 3 x y = if (x = (k : Int) ∧ y = b.dst) then 1073741824 else 0 := fun x y => by
    show (if keyE d ⟨a, s, c⟩ = some (x, y) then capI (if keyE d ⟨a, s, c⟩ = some (x, y) then capI (if keyE d ⟨a, s, c⟩ = some (x, y) then capI 0 c else 0) c else _) c else (if keyE d ⟨a, s, c⟩ = some (x, y) then capI (if keyE d ⟨a, s, c⟩ = some (x, y) then capI 0 c else 0) c else (if keyE d ⟨a, s, c⟩ = some (x, y) then capI 0 c else 0))) = _
    rw [h.key]
    by_cases e : x = (k : Int) ∧ y = b.dst
    · obtain ⟨rfl, rfl⟩ := e
      rw [if_pos rfl, if_pos rfl, if_pos rfl, if_pos ⟨rfl, rfl⟩]
      unfold capI
      omega
    · rw [if_neg (fun e2 => e (by injection e2 with e2; injection e2 with e3 e4; exact ⟨e3.symm, e4.symm⟩)), if_neg (fun e2 => e (by injection e2 with e2; injection e2 with e3 e4; exact ⟨e3.symm, e4.symm⟩)), if_neg (fun e2 => e (by injection e2 with e2; injection e2 with e3 e4; exact ⟨e3.symm, e4.symm⟩)), if_neg e]
  obtain ⟨-, -, h1, h2, h3⟩ := h.bd
  refine (out_eq (by simp) (fun e => ?_) (fun x y hxy => ?_) (by simp)).symm
  · obtain ⟨f, t, q⟩ := e
    show (⟨f, t, q⟩ : EdgD) ∈ [⟨(k : Int), b.dst, 1073741824⟩] ↔ 0 < cntS d _ 3 f t ∧ q = cntS d _ 3 f t
    rw [hg, List.mem_singleton]
    constructor
    · intro e
      injection e with e1 e2 e3
      rw [if_pos ⟨e1, e2⟩]
      exact ⟨by decide, e3⟩
    · rintro ⟨k1, k2⟩
      split at k1
      · rename_i e
        rw [if_pos e] at k2
        rw [e.1, e.2, k2]
      · omega
  · have hxy2 : cntS d [⟨a, s, c⟩, ⟨a, s, c⟩, ⟨a, s, c⟩] 3 x y ≠ 0 := hxy
    rw [hg] at hxy2
    split at hxy2
    · omega
    · omega
theorem WayK.none {d : FlowD} {k : Nat} {b : BlkD} {a s : Int} (h : WayK d k b a s) : mapL d [⟨a, s, 0⟩, ⟨-5, s, 1⟩] = [] := by
  have hg : ∀ x y, cntS d [⟨a, s, 0⟩, ⟨-5, s, 1⟩] 2 x y = 0 := fun x y => by
    show (if keyE d ⟨-5, s, 1⟩ = some (x, y) then _ else (if keyE d ⟨a, s, 0⟩ = some (x, y) then capI 0 0 else 0)) = (0 : Int)
    rw [h.odd, if_neg (by simp)]
    split
    · rfl
    · rfl
  refine (out_eq (by simp) (fun e => ?_) (fun x y hxy => absurd (hg x y) hxy) (by simp)).symm
  show e ∈ [] ↔ 0 < cntS d _ 2 e.f e.t ∧ _
  rw [hg]
  simp
end Go.Proofs.YtcdlgjhdbmmomaaGreatDoor
