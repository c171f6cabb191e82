/- Emit's items: where each block's and each function's begin. -/
import Derived.Test.YtcdlgjhdbmmomaaGreatDoorEmtH
namespace Go.Proofs.YtcdlgjhdbmmomaaGreatDoor
open Go.RowKit
structure ItLe (t u : ItD) : Prop where
 i : u.i = { t.i with l := u.i.l }
 blk : u.blk = t.blk
 fn : u.fn = t.fn
 old : u.old = t.old
 line : u.line = t.line
 lg : t.i.l = true → u.i.l = true
 ch : u.i.l ≠ t.i.l → 0 ≤ t.blk
theorem ItLe.refl (t : ItD) : ItLe t t := ⟨rfl, rfl, rfl, rfl, rfl, id, fun h => absurd rfl h⟩
theorem ItLe.trans {a b c : ItD} (h1 : ItLe a b) (h2 : ItLe b c) : ItLe a c := by
 refine ⟨?_, h2.blk.trans h1.blk, h2.fn.trans h1.fn, h2.old.trans h1.old, h2.line.trans h1.line, fun h => h2.lg (h1.lg h), fun h => ?_⟩
 · have e1 := h1.i; have e2 := h2.i; rw [e1] at e2; exact e2
 · rcases Classical.em (b.i.l = a.i.l) with e | e
   · rw [← h1.blk]; exact h2.ch (by rw [e]; exact h)
   · exact h1.ch e
theorem withNext_fst : ∀ l : List Int, (withNext l).map Prod.fst = l
 | [] => rfl
 | [_] => rfl
 | b :: c :: r => by
  show b :: (withNext (c :: r)).map Prod.fst = _; rw [withNext_fst (c :: r)]
def seqL (l : List PartD) : List (Int × Int) := l.flatMap fun p => withNext p.bs
theorem seqL_fst (l : List PartD) : (seqL l).map Prod.fst = l.flatMap PartD.bs := by
 induction l with
 | nil => rfl
 | cons p r ih =>
  show (withNext p.bs ++ seqL r).map Prod.fst = p.bs ++ r.flatMap PartD.bs; rw [List.map_append, withNext_fst, ih]
theorem OrdG.all {d : FlowD} {l : List PartD} (h : OrdG d l) (hd : ∀ b ∈ d.blocks, 0 ≤ b.fn ∧ b.fn < d.firsts.length) {n : Nat} (hn : n < d.blocks.length) : ∃ (k : Nat) (nx : Int), (seqL l)[k]? = some ((n : Int), nx) := by
 have hb : d.blocks.getD n blkZ ∈ d.blocks := by
  rw [List.getD_eq_getElem?_getD, gE' hn]; exact List.getElem_mem hn
 obtain ⟨i1, i2⟩ := hd _ hb
 have hf : (d.blocks.getD n blkZ).fn ∈ l.map PartD.fn := by
  rw [h.fns.mem_iff]; exact List.mem_map.2 ⟨(d.blocks.getD n blkZ).fn.toNat, List.mem_range.2 (by omega), by show ((d.blocks.getD n blkZ).fn.toNat : Int) = _; omega⟩
 obtain ⟨p, hp, hpf⟩ := List.mem_map.1 hf
 have hm : (n : Int) ∈ p.bs := by
  rw [(h.bs p hp).1.mem_iff, mem_fnBs]; exact ⟨by omega, by omega, by rw [hpf, Int.toNat_natCast]⟩
 have hm2 : (n : Int) ∈ (seqL l).map Prod.fst := by
  rw [seqL_fst]; exact List.mem_flatMap.2 ⟨p, hp, hm⟩
 obtain ⟨x, hx, hxe⟩ := List.mem_map.1 hm2; obtain ⟨k, hk⟩ := List.getElem?_of_mem hx; exact ⟨k, x.2, by rw [hk, ← hxe]⟩
end Go.Proofs.YtcdlgjhdbmmomaaGreatDoor
