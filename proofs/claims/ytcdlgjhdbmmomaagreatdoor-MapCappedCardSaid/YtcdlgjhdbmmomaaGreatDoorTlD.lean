/- The tally that boltholekeep.Tally makes of a flow and raw things, as plain words. -/
import Derived.Test.YtcdlgjhdbmmomaaGreatDoorTlB
import Derived.Test.YtcdlgjhdbmmomaaGreatDoorFlwR
import Derived.Test.YtcdlgjhdbmmomaaGreatDoorEmtG
namespace Go.Proofs.YtcdlgjhdbmmomaaGreatDoor
open Go.RowKit
structure TalB (d : FlowD) : Prop where
 few : d.blocks.length ≤ 1600
 ne : 1 ≤ d.blocks.length
 blk : ∀ (i : Nat) (b : BlkD), d.blocks[i]? = some b → (1 ≤ b.ats.length ∧ b.ats.length ≤ 1600) ∧ (∀ k, 0 ≤ b.ats.getD k 0 ∧ b.ats.getD k 0 ≤ 1600) ∧ (0 ≤ b.start ∧ b.start ≤ 1600) ∧ (b.ends ≠ 1 → 0 ≤ b.dst ∧ b.dst < d.blocks.length) ∧ (b.ends = 4 → 0 ≤ b.els ∧ b.els < d.blocks.length)
theorem FlwSt.tal {w : World} {l : List RawI} {m : Img} {v : ImgV} {d : FlowD} {xA yA zA : Option Addr} {xc yc zc : Nat} (h : FlwSt w l m v d xA yA zA xc yc zc) : TalB d := by
 obtain ⟨ld, bm, S, gs, hF, -, -⟩ := gen_flow3 h.pgm.check h.rc; have hT := h.pgm.text; have hfew := hF.few; refine ⟨by omega, ?_, fun i b hb => ?_⟩
 · have h3 := hF.firsts; have h2 := h.pgm.fnz; have hz : d.firsts[0]? = some (d.firsts[0]'(by omega)) := gE' _; obtain ⟨f, x, r, -, -, k3, -⟩ := h3.2 0 _ hz; have := (List.getElem?_eq_some_iff.1 k3).1; omega
 · have h1 := hF.blen hb; have h2 := hF.fit hb; obtain ⟨x, r, hg, -, -, hst, -⟩ := hF.blk hb; have hxS : x ∈ S := by rw [← hF.flat]; exact List.mem_flatten.2 ⟨_, mG' hg, List.mem_cons_self⟩
   have hp := hF.posb hxS; refine ⟨⟨h1.1, by omega⟩, fun k => ⟨hF.atsNN hb k, ?_⟩, by rw [hst]; omega, fun h => ⟨(h2.dst h).1, (h2.dst h).2.1⟩, fun h => ⟨(h2.els h).1, (h2.els h).2.1⟩⟩; have := hF.atsLe hb k; omega
def tlTo (d : FlowD) (b : BlkD) (r : RawI) : Int := if b.ends = 1 then pickL r.b d.blocks.length else if b.ends = 4 ∧ pickL r.b 2 = 0 then b.els else b.dst
def tlBlk (d : FlowD) (r : RawI) : BlkD := d.blocks.getD (pickL r.a d.blocks.length).toNat blkZ
def tlE (d : FlowD) (r : RawI) : EdgE := ⟨(tlBlk d r).ats.getD ((tlBlk d r).ats.length - 1) 0, (d.blocks.getD (tlTo d (tlBlk d r) r).toNat blkZ).start, pickL r.c 1000⟩
theorem TalB.at {d : FlowD} (h : TalB d) (r : RawI) : ∃ k : Nat, pickL r.a d.blocks.length = (k : Int) ∧ k < d.blocks.length ∧ d.blocks[k]? = some (tlBlk d r) := by
 have hp := pickL_bd r.a d.blocks.length (by have := h.ne; omega); obtain ⟨k, hk⟩ := Int.eq_ofNat_of_zero_le hp.1; have hkl : k < d.blocks.length := by omega
 refine ⟨k, hk, hkl, ?_⟩; unfold tlBlk; rw [hk, Int.toNat_natCast, List.getD_eq_getElem?_getD, gE' hkl]
 rfl
theorem TalB.to {d : FlowD} (h : TalB d) (r : RawI) : ∃ (k : Nat) (b : BlkD), tlTo d (tlBlk d r) r = (k : Int) ∧ k < d.blocks.length ∧ d.blocks[k]? = some b ∧ d.blocks.getD (tlTo d (tlBlk d r) r).toNat blkZ = b := by
 obtain ⟨j, -, -, hj⟩ := h.at r; obtain ⟨-, -, -, h4, h5⟩ := h.blk j _ hj
 have hb : 0 ≤ tlTo d (tlBlk d r) r ∧ tlTo d (tlBlk d r) r < d.blocks.length := by
  unfold tlTo
  split
  · exact pickL_bd r.b d.blocks.length (by have := h.ne; omega)
  · rename_i h1
    split
    · rename_i h2
      exact h5 h2.1
    · exact h4 h1
 obtain ⟨k, hk⟩ := Int.eq_ofNat_of_zero_le hb.1; have hkl : k < d.blocks.length := by omega
 refine ⟨k, _, hk, hkl, gE' hkl, ?_⟩; rw [hk, Int.toNat_natCast, List.getD_eq_getElem?_getD, gE' hkl]
 rfl
theorem tlE_ok {d : FlowD} (h : TalB d) (r : RawI) : EdgOk (tlE d r) := by
 obtain ⟨j, -, -, hj⟩ := h.at r; obtain ⟨k, b, hk, -, hb, hbe⟩ := h.to r; have h1 := (h.blk j _ hj).2.1 ((tlBlk d r).ats.length - 1); have h2 := (h.blk k b hb).2.2.1; have h3 := pickL_bd r.c 1000 (by decide); refine ⟨⟨h1.1, by show (tlBlk d r).ats.getD _ 0 ≤ _; omega⟩, ?_, ⟨h3.1, by show pickL r.c 1000 ≤ _; omega⟩⟩; show 0 ≤ (d.blocks.getD (tlTo d (tlBlk d r) r).toNat blkZ).start ∧ (d.blocks.getD (tlTo d (tlBlk d r) r).toNat blkZ).start ≤ _; rw [hbe]; omega
theorem FlowRd.cells {w : World} {xA yA zA : Option Addr} {xc yc zc : Nat} {d : FlowD} (h : FlowRd w xA xc yA yc zA zc d) (hne : 1 ≤ d.blocks.length) : ∃ (g o : Nat), xA = some ⟨g, o, none⟩ ∧ g < w.heap.size ∧ d.blocks.length ≤ xc ∧ ∀ (i : Nat) (b : BlkD), d.blocks[i]? = some b → ∃ v : BlkV, BRd w (b, v) ∧ ∀ (q : Nat) (u : Value), (blkC b v)[q]? = some u → w.cell? ⟨g, o + i * 14 + q, none⟩ = some u := by
 have h0 : d.blocks[0]? = some (d.blocks[0]'(by omega)) := gE' _; obtain ⟨v, g, o, hA, hg, -, -⟩ := h.at h0; refine ⟨g, o, hA, hg, h.fst.2.2, fun i b hb => ?_⟩; obtain ⟨v', g', o', hA', -, hbr, hc⟩ := h.at hb; rw [hA] at hA'; injection hA' with e; injection e with e1 e2 _; subst e1 e2; exact ⟨v', hbr, hc⟩
def oddT : List ByteArray := [⟨#[49, 32, 50]⟩, ⟨#[49, 32, 50, 10]⟩, ⟨#[49, 32, 50, 32, 51, 32, 52, 10]⟩, ⟨#[97, 32, 50, 32, 51, 10]⟩, ⟨#[48, 49, 32, 50, 32, 51, 10]⟩, ⟨#[49, 32, 32, 50, 32, 51, 10]⟩, ⟨#[45, 49, 32, 50, 32, 51, 10]⟩, ⟨#[49, 32, 50, 32, 49, 48, 55, 51, 55, 52, 49, 56, 50, 53, 10]⟩, ⟨#[10]⟩, ⟨#[49, 32, 50, 32, 51]⟩]
end Go.Proofs.YtcdlgjhdbmmomaaGreatDoor
