/- Ways. -/
import Derived.Test.YtokbgdlenbhklaaDoorEmV
import Derived.Deep.DeepCutAuto
import Derived.Deep.CutBlock
import Derived.Deep.LoopGhost
import Derived.Deep.QuietTactic
import Derived.BigQuiet
import Derived.IntWalk
import Derived.WalkLawsBesides
namespace Go.Proofs.YtokbgdlenbhklaaDoor
open Go.RowKit
section
variable {m : Img} {ld : Int → Bool} {bm : Int → Option Int} {S : List FSp} {gs : List (List FSp)} {d : FlowD} {l : List PartD}
theorem resIt_kl (its : List ItD) (s : MkD) (t : ItD) : (resIt its s t).k = t.i.k ∧ (resIt its s t).l = t.i.l := by
 unfold resIt
 split
 · exact ⟨rfl, rfl⟩
 · split <;> exact ⟨rfl, rfl⟩
theorem resLen (its : List ItD) (s : MkD) : ∀ L : List ItD, (∀ t ∈ L, (resIt its s t).chk = 0) → (((L.map (resIt its s)).flatMap Ins.enc).length : Int) = szI L
 | [], _ => rfl
 | t :: r, h => by
  have ih := resLen its s r (fun u hu => h u (List.mem_cons_of_mem _ hu)); have h1 := enc_len (h t List.mem_cons_self); rw [(resIt_kl its s t).1, (resIt_kl its s t).2] at h1; have e : szI (t :: r) = sizeK t.i.k t.i.l + szI r := rfl; rw [List.map_cons, List.flatMap_cons, List.length_append, e, ← ih, ← h1]
  push_cast
  rfl
structure EmCode (m : Img) (d : FlowD) (l : List PartD) : Prop where
 len : ((emL m d l).text.length : Int) = szI (emIts d l)
 dec : ∀ (k : Nat) (t : ItD), (emIts d l)[k]? = some t → decB (emL m d l).text t.pos = (resIt (emIts d l) (mkL d l) t, sizeK t.i.k t.i.l, 0) ∧ t.pos = szI ((emIts d l).take k) ∧ szI ((emIts d l).take (k + 1)) = t.pos + sizeK t.i.k t.i.l ∧ 1 ≤ sizeK t.i.k t.i.l
 few : (emL m d l).text.length ≤ 4 * m.text.length
 chk : ∀ t ∈ emIts d l, t.i.chk = 0
 bytes : ∀ x ∈ (emL m d l).text, 0 ≤ x ∧ x < 256
theorem PgmF.emCode (h : PgmF m ld bm S gs d) (hf : FnF m S) (ht : TabF m gs) (hc : checkE m = 0) (ho : OrdG d l) : EmCode m d l := by
 have hg := h.pgOk hf ht hc ho; have hE := h.emF hf ho; have hlen : ((emL m d l).text.length : Int) = szI (emIts d l) := resLen _ _ _ hg.chk; refine ⟨hlen, fun k t hk => ?_, ?_, fun t ht => (hE.kind t ht).chk, fun x hx => ?_⟩
 · have hp := hE.pos k t hk; obtain ⟨hkl, hke⟩ := List.getElem?_eq_some_iff.1 hk
   have e1 : emIts d l = (emIts d l).take k ++ t :: (emIts d l).drop (k + 1) := by
    conv => lhs; rw [← List.take_append_drop k (emIts d l), List.drop_eq_getElem_cons hkl, hke]
   have e2 := resLen (emIts d l) (mkL d l) ((emIts d l).take k) (fun u hu => hg.chk u (List.mem_of_mem_take hu)); have hch := hg.chk t (List.mem_of_getElem? hk)
   have e3 : (emL m d l).text = (((emIts d l).take k).map (resIt (emIts d l) (mkL d l))).flatMap Ins.enc ++ (resIt (emIts d l) (mkL d l) t).enc ++ (((emIts d l).drop (k + 1)).map (resIt (emIts d l) (mkL d l))).flatMap Ins.enc := by
    refine (congrArg (fun L => (L.map (resIt (emIts d l) (mkL d l))).flatMap Ins.enc) e1).trans ?_; show (((emIts d l).take k ++ t :: (emIts d l).drop (k + 1)).map (resIt (emIts d l) (mkL d l))).flatMap Ins.enc = _; rw [List.map_append, List.map_cons, List.flatMap_append, List.flatMap_cons, List.append_assoc]
   have h3 := szI_take hk; have h4 := enc_len hch; rw [(resIt_kl _ _ t).1, (resIt_kl _ _ t).2] at h4; have h5 := sizeK_bd hch; rw [(resIt_kl _ _ t).1, (resIt_kl _ _ t).2] at h5; refine ⟨?_, hp, by rw [h3, hp], h5.1⟩; have h6 := dec_enc ((((emIts d l).take k).map (resIt (emIts d l) (mkL d l))).flatMap Ins.enc) ((((emIts d l).drop (k + 1)).map (resIt (emIts d l) (mkL d l))).flatMap Ins.enc) hch; rw [← e3, e2, ← hp, h4] at h6; exact h6
 · have := hE.sz; omega
 · obtain ⟨i, hi, hxi⟩ := List.mem_flatMap.1 hx; obtain ⟨t, ht, rfl⟩ := List.mem_map.1 hi; exact enc_bytes (hg.chk t ht) x hxi
theorem emL_code {m : Img} {d : FlowD} {l : List PartD} (hc : checkE m = 0) (hd : recL m = some d) (ho : OrdG d l) : EmCode m d l := by
 obtain ⟨ld, bm, S, gs, hF, hFN, hTF⟩ := gen_flow3 hc hd; exact hF.emCode hFN hTF hc ho
end
end Go.Proofs.YtokbgdlenbhklaaDoor
namespace Go.Proofs.YtokbgdlenbhklaaDoor
open Go.RowKit
theorem sum_flat {α : Type} (F : α → Nat) : ∀ gs : List (List α), (gs.map fun g => (g.map F).sum).sum = (gs.flatten.map F).sum
 | [] => rfl
 | g :: r => by rw [List.map_cons, List.sum_cons, sum_flat F r, List.flatten_cons, List.map_append, List.sum_append]
theorem finPl_k (fs : List FnD) (s : Sp) : (finPl fs s).k = s.i.k := by unfold finPl; split <;> rfl
theorem codeIt_k (b : BlkD) (k : Nat) (c : Ins) : (codeIt b k c).i.k = c.k := by unfold codeIt; split <;> rfl
theorem codeIts_k (b : BlkD) (f : Int → Nat) : ((codeIts b).map fun t => f t.i.k).sum = (b.code.map fun c => f c.k).sum := by
 have : (codeIts b).map (fun t => f t.i.k) = b.code.map fun c => f c.k := by
  unfold codeIts; refine List.ext_getElem? fun i => ?_
  rw [List.getElem?_map, List.getElem?_mapIdx, List.getElem?_map, Option.map_map]
  cases b.code[i]? with
  | none => rfl
  | some c => show some (f (codeIt b i c).i.k) = _; rw [codeIt_k]; rfl
 rw [this]
theorem code_k (fs : List FnD) (g : List FSp) (f : Int → Nat) : ((g.map fun z => finPl fs z.2).map fun c => f c.k).sum = (g.map fun z => f z.2.i.k).sum := by
 rw [List.map_map]
 congr 1
 refine List.map_congr_left fun z _ => ?_
 show f (finPl fs z.2).k = _; rw [finPl_k]
theorem oppK_bd {k : Int} (h1 : 18 ≤ k) (h2 : k ≤ 21) : 18 ≤ oppK k ∧ oppK k ≤ 21 := by
 unfold oppK
 repeat' split
 all_goals omega
theorem blk_cnt {m : Img} {gs : List (List FSp)} {i : Nat} {b : BlkD} {r : List FSp} {y : FSp} (h : GrpB m gs i b r y) (f : Int → Nat) (h22 : f 22 = 0) (hbr : ∀ k k' : Int, 18 ≤ k → k ≤ 21 → 18 ≤ k' → k' ≤ 21 → f k = f k') (next : Int) :
 ((blkIts b next).map fun t => f t.i.k).sum = ((r ++ [y]).map fun z => f z.2.i.k).sum := by
 unfold blkIts; rw [List.map_append, List.sum_append, codeIts_k, List.map_append, List.sum_append]
 cases h with
 | branch j z rz z' rz' h1 h2 h3 h4 =>
  have hk : 18 ≤ y.2.i.k ∧ y.2.i.k ≤ 21 := by unfold branchI at h1; simpa using h1
  rw [h3, code_k]
  congr 1
  unfold tailIts; rw [if_neg (by omega), if_neg (by omega), if_pos h2]; have e1 : b.last.k = y.2.i.k := by rw [h4]
  split
  · show f (oppK b.last.k) + 0 = f y.2.i.k + 0; rw [e1]
    congr 1
    exact hbr _ _ (oppK_bd hk.1 hk.2).1 (oppK_bd hk.1 hk.2).2 hk.1 hk.2
  · split
    · show f b.last.k + 0 = f y.2.i.k + 0; rw [e1]
    · show f b.last.k + (f 22 + 0) = f y.2.i.k + 0; rw [e1, h22]
 | jump j z rz h1 h2 h3 h4 =>
  rw [h3, code_k]
  congr 1
  unfold tailIts; rw [if_neg (by omega), if_pos h2]
  have e : (List.map (fun z : FSp => f z.2.i.k) [y]).sum = 0 := by
   show f y.2.i.k + 0 = 0; rw [h1, h22]
  rw [e]
  split
  · rfl
  · show f 22 + 0 = 0; rw [h22]
 | stop h1 h2 h3 =>
  rw [h3, code_k, List.map_append, List.sum_append]; unfold tailIts; rw [if_neg (by omega), if_neg (by omega), if_neg (by omega)]
  rfl
 | fall z' rz' h1 h2 h3 =>
  rw [h3, code_k, List.map_append, List.sum_append]; unfold tailIts; rw [if_pos h2]
  split
  · rfl
  · show _ + _ + (f 22 + 0) = _; rw [h22]
    rfl
section
variable {m : Img} {ld : Int → Bool} {bm : Int → Option Int} {S : List FSp} {gs : List (List FSp)} {d : FlowD} {l : List PartD}
theorem PgmF.cnt (h : PgmF m ld bm S gs d) (hf : FnF m S) (ho : OrdG d l) (f : Int → Nat) (h22 : f 22 = 0) (hbr : ∀ k k' : Int, 18 ≤ k → k ≤ 21 → 18 ≤ k' → k' ≤ 21 → f k = f k') : ((emIts d l).map fun t => f t.i.k).sum = (S.map fun z => f z.2.i.k).sum := by
 have hle := settleL_le (mkL d l).first (mkL d l).items
 have e1 : (emIts d l).map (fun t => f t.i.k) = (mkL d l).items.map fun t => f t.i.k := by
  refine List.ext_getElem? fun i => ?_
  rw [List.getElem?_map, List.getElem?_map]; rcases Nat.lt_or_ge i (mkL d l).items.length with hi | hi
  · have h1 : (mkL d l).items[i]? = some _ := List.getElem?_eq_getElem hi; have h2 : (emIts d l)[i]? = some _ := List.getElem?_eq_getElem (by show i < (settleL _ _).length; rw [← hle.1]; exact hi); rw [h1, h2]; have h3 := congrArg Ins.k (hle.2 i _ _ h1 h2).i; simp only at h3; show some (f _) = some (f _); rw [h3]
  · rw [List.getElem?_eq_none hi, List.getElem?_eq_none (by show (settleL _ _).length ≤ i; rw [← hle.1]; exact hi)]
 rw [e1, (mkL_at ho).1, itsOf_sum]
 have e2 : (seqL l).map (fun x => ((blkIts (d.blocks.getD x.1.toNat blkZ) x.2).map fun t => f t.i.k).sum) = (seqL l).map ((fun i : Int => ((gs.getD i.toNat []).map fun z => f z.2.i.k).sum) ∘ Prod.fst) := by
  refine List.map_congr_left fun x hx => ?_
  obtain ⟨h1, h2⟩ := seqL_in ho x hx; obtain ⟨r, y, hg, -, -, -, hG⟩ := h.grp (blk_get h1 h2); show _ = ((gs.getD x.1.toNat []).map fun z => f z.2.i.k).sum; rw [blk_cnt hG f h22 hbr, List.getD_eq_getElem?_getD, hg]
  rfl
 rw [e2]; have hp := (seqL_perm ho (h.blkFn hf)).map (fun i : Int => ((gs.getD i.toNat []).map fun z => f z.2.i.k).sum); rw [List.map_map, List.map_map] at hp; rw [hp.sum_nat]
 have e3 : (List.range d.blocks.length).map ((fun i : Int => ((gs.getD i.toNat []).map fun z => f z.2.i.k).sum) ∘ Int.ofNat) = gs.map fun g => (g.map fun z => f z.2.i.k).sum := by
  rw [h.few.1]; have := congrArg (List.map fun g : List FSp => (g.map fun z => f z.2.i.k).sum) (range_getD [] gs); rw [List.map_map] at this; exact this
 rw [e3, sum_flat, h.flat]
end
end Go.Proofs.YtokbgdlenbhklaaDoor
namespace Go.Proofs.YtokbgdlenbhklaaDoor
open Go.RowKit
structure TileC (L : List Int) (N : Nat) (p : Nat → Int) (i : Nat → Ins) : Prop where
 z : p 0 = 0
 e : p N = L.length
 dec : ∀ k, k < N → decB L (p k) = (i k, p (k + 1) - p k, 0) ∧ 1 ≤ p (k + 1) - p k
def brN (k : Int) : Nat := if 18 ≤ k ∧ k ≤ 21 then 1 else 0
def otN (k : Int) : Nat := if k = 22 ∨ (18 ≤ k ∧ k ≤ 21) then 0 else 1
def bS (i : Nat → Ins) (f : Int → Nat) (n : Nat) : Nat := ((List.range n).map fun j => f (i j).k).sum
theorem bS_succ (i : Nat → Ins) (f : Int → Nat) (n : Nat) : bS i f (n + 1) = bS i f n + f (i n).k := by
 unfold bS; rw [List.range_succ, List.map_append, List.sum_append]
 rfl
theorem bS_le (i : Nat → Ins) (f : Int → Nat) (hf : ∀ k, f k ≤ 1) : ∀ n, bS i f n ≤ n
 | 0 => Nat.le_refl _
 | n + 1 => by
  have := bS_le i f hf n; have := hf (i n).k; rw [bS_succ]; omega
theorem TileC.ge {L : List Int} {N : Nat} {p : Nat → Int} {i : Nat → Ins} (h : TileC L N p i) : ∀ k, k ≤ N → (k : Int) ≤ p k
 | 0, _ => by rw [h.z]; exact Int.le_refl _
 | k + 1, hk => by
  have h1 := h.ge k (by omega); have h2 := (h.dec k (by omega)).2
  push_cast
  omega
theorem TileC.le {L : List Int} {N : Nat} {p : Nat → Int} {i : Nat → Ins} (h : TileC L N p i) : ∀ n k, k + n = N → p k ≤ L.length
 | 0, k, e => by rw [show k = N by omega, h.e]; exact Int.le_refl _
 | n + 1, k, e => by
  have h1 := h.le n (k + 1) (by omega); have h2 := (h.dec k (by omega)).2; omega
set_option maxHeartbeats 8000000 in
set_option maxRecDepth 100000 in
theorem ways_any (L : List Int) (A : Option Addr) (n c N : Nat) (p : Nat → Int) (i : Nat → Ins) (w : World) (hT : Tabs w) (hn : n = L.length) (hR : RdB w w.heap.size A L) (hl : n ≤ 100000) (hc : n ≤ c) (hti : TileC L N p i) :
 Calls Tryd.prog 27 #[.slice A n c] w fun e w' => e = .returned (.tuple #[.int .i64 (bS i brN N : Nat), .int .i64 (bS i otN N : Nat)]) ∧ Below w.heap.size w w' := by
 have HDC : Hid (∀ k W, k < N → Below w.heap.size w W → Calls Tryd.prog 23 #[.slice A n c, .int .i64 (p k)] W fun e w' => e = .returned (.tuple #[.agg #[.int .i64 (i k).k, .int .i64 (i k).d, .int .i64 (i k).a, .int .i64 (i k).b, .int .i64 (i k).n, .bool (i k).l], .int .i64 (p (k + 1) - p k), .int .i64 0]) ∧ Below W.heap.size W w') := Lib.hid fun k W hk hW => by
  have h := decode_any L A n c (p k) W (hT.below hW) hn ((hR.below hW).more hW.size) (by omega) hc; rw [(hti.dec k hk).1] at h; exact h
 have HTI := Lib.hid hti; have HNL := Lib.hid hn; have hNn : N ≤ 100000 := by have h1 := hti.ge N (Nat.le_refl _); have h2 := hti.e; omega
 clear hT hR hc hti hn
 go_enter Tryd.func27, Tryd.ntmps27
 go_wp2_with fail
 go_loopg [4, 5, 6] N (fun gk s4 s5 s6 wr => ∃ (k cb co : Nat) (at_ : Int), k ≤ N ∧ s4 = .int .i64 cb ∧ s5 = .int .i64 co ∧ s6 = .int .i64 at_ ∧ Hid (cb = bS i brN k ∧ co = bS i otN k ∧ at_ = p k) ∧ Hid (Below w.heap.size w wr) ∧ N - k ≤ gk)
 case atStart => exact ⟨0, 0, 0, 0, Nat.zero_le _, rfl, rfl, rfl, Lib.hid ⟨rfl, rfl, HTI.out.z.symm⟩, Lib.hid (Below.refl _ _), Nat.le_refl _⟩
 case round =>
  obtain ⟨k, cb, co, at_, hk, rfl, rfl, rfl, HC, HB, hgk⟩ := hrel
  by_cases hlt : k < N
  · have hDK := HDC.out k wr hlt HB.out; have h0 := HTI.out.ge k hk; have h1 := HTI.out.le (N - k) k (by omega); have h2 := HTI.out.le (N - (k + 1)) (k + 1) (by omega); have h3 := (HTI.out.dec k hlt).2; have hcb : cb ≤ 100000 := by have := bS_le i brN (fun k => by unfold brN; split <;> omega) k; have := HC.out.1; omega
    have hco : co ≤ 100000 := by have := bS_le i otN (fun k => by unfold otN; split <;> omega) k; have := HC.out.2.1; omega
    have hs1 := bS_succ i brN k; have hs2 := bS_succ i otN k; obtain rfl : at_ = p k := HC.out.2.2; obtain ⟨nx, hnx⟩ : ∃ z, p (k + 1) = z := ⟨_, rfl⟩
    obtain ⟨P, hP⟩ : ∃ z, p k = z := ⟨_, rfl⟩
    obtain ⟨⟨ik, id, ia, ib, inn, il⟩, hi⟩ : ∃ z, i k = z := ⟨_, rfl⟩
    rw [hi] at hDK hs1 hs2; simp only at hDK hs1 hs2; rw [hnx, hP] at hDK h3; rw [hnx] at h2; rw [hP] at h0 h1 ⊢; obtain ⟨sz, hsz⟩ : ∃ z, nx - P = z := ⟨_, rfl⟩
    rw [hsz] at hDK h3; have qw : IntKind.i64.wrap (P + sz) = nx := by have hh := HNL.out; rw [IntWalk.i64_in _ (by omega)]; omega
    have hPT : P < (n : Int) := by have := HNL.out; omega
    have HNX : Hid (nx = p (k + 1)) := Lib.hid hnx.symm; have HDK := Lib.hid hDK; have HS := Lib.hid (And.intro hs1 hs2); clear h0 h1 h2 h3 hsz hP hi hnx hDK hs1 hs2
    go_wp2_with fail
    refine HDK.out.mono ?_; rintro e w5 ⟨rfl, hb5⟩; have HB5 := Lib.hid (HB.out.trans (hb5.mono HB.out.size)); clear hb5 HDK; have qb : IntKind.i64.wrap ((cb : Int) + 1) = ((cb + 1 : Nat) : Int) := by rw [IntWalk.i64_in _ (by omega)]; push_cast; rfl
    have qo : IntKind.i64.wrap ((co : Int) + 1) = ((co + 1 : Nat) : Int) := by rw [IntWalk.i64_in _ (by omega)]; push_cast; rfl
    by_cases hb : 18 ≤ ik ∧ ik ≤ 21
    · obtain ⟨hb1, hb2⟩ := hb; have q1 : decide (ik ≥ 18) = true := decide_eq_true hb1; have q2 : decide (18 ≤ ik) = true := decide_eq_true hb1; have q3 : decide (ik ≤ 21) = true := decide_eq_true hb2; have HC1 : Hid (cb + 1 = bS i brN (k + 1) ∧ co = bS i otN (k + 1) ∧ nx = p (k + 1)) := Lib.hid ⟨by rw [HS.out.1, ← HC.out.1]; unfold brN; rw [if_pos ⟨hb1, hb2⟩], by rw [HS.out.2, ← HC.out.2.1]; unfold otN; rw [if_pos (.inr ⟨hb1, hb2⟩)]; rfl, HNX.out⟩
      go_wp2_with fail
      go_roundg (N - (k + 1))
      case measure => omega
      case rel => exact ⟨k + 1, cb + 1, co, nx, by omega, by go_num, rfl, rfl, HC1, Lib.hid (HB5.out.alloc HB5.out.size _), Nat.le_refl _⟩
    · by_cases h22 : ik = 22
      · subst h22; have HC1 : Hid (cb = bS i brN (k + 1) ∧ co = bS i otN (k + 1) ∧ nx = p (k + 1)) := Lib.hid ⟨by rw [HS.out.1, ← HC.out.1]; rfl, by rw [HS.out.2, ← HC.out.2.1]; rfl, HNX.out⟩; clear hb
        go_wp2_with fail
        go_roundg (N - (k + 1))
        case measure => omega
        case rel => exact ⟨k + 1, cb, co, nx, by omega, rfl, rfl, rfl, HC1, Lib.hid (HB5.out.alloc HB5.out.size _), Nat.le_refl _⟩
      · have HC1 : Hid (cb = bS i brN (k + 1) ∧ co + 1 = bS i otN (k + 1) ∧ nx = p (k + 1)) := Lib.hid ⟨by rw [HS.out.1, ← HC.out.1]; unfold brN; rw [if_neg hb]; rfl, by rw [HS.out.2, ← HC.out.2.1]; unfold otN; rw [if_neg (by omega)], HNX.out⟩; have q22 : (ik != 22) = true := by simp [h22]
        by_cases h18 : 18 ≤ ik
        · have h21 : ¬ ik ≤ 21 := by omega
          have q1 : decide (ik ≥ 18) = true := decide_eq_true h18; have q2 : decide (18 ≤ ik) = true := decide_eq_true h18; have q3 : decide (ik ≤ 21) = false := decide_eq_false h21; clear hb
          go_wp2_with fail
          go_roundg (N - (k + 1))
          case measure => omega
          case rel => exact ⟨k + 1, cb, co + 1, nx, by omega, rfl, by go_num, rfl, HC1, Lib.hid (HB5.out.alloc HB5.out.size _), Nat.le_refl _⟩
        · have q1 : decide (ik ≥ 18) = false := decide_eq_false h18; have q2 : decide (18 ≤ ik) = false := decide_eq_false h18; clear hb
          go_wp2_with fail
          go_roundg (N - (k + 1))
          case measure => omega
          case rel => exact ⟨k + 1, cb, co + 1, nx, by omega, rfl, by go_num, rfl, HC1, Lib.hid (HB5.out.alloc HB5.out.size _), Nat.le_refl _⟩
  · obtain rfl : k = N := by omega
    have hat : at_ = (n : Int) := by have h1 := HC.out.2.2; have h2 := HTI.out.e; have h3 := HNL.out; omega
    subst hat; have hnl : ¬ (n : Int) < (n : Int) := by omega
    have HBE := Lib.hid HB.out; have e1 := HC.out.1; have e2 := HC.out.2.1
    go_wp2_with fail
    refine bodyPost_ret (v := .tuple #[.int .i64 (bS i brN k : Nat), .int .i64 (bS i otN k : Nat)]) (by simp [results, Tryd.results27, go_sem]) rfl ?_; exact ⟨rfl, HBE.out⟩
end Go.Proofs.YtokbgdlenbhklaaDoor
namespace Go.Proofs.YtokbgdlenbhklaaDoor
open Go.RowKit
theorem sumD {α : Type} (z : α) (g : α → Nat) (l : List α) : ((List.range l.length).map fun j => g (l.getD j z)).sum = (l.map g).sum := by
 have h := congrArg (List.map g) (range_getD z l); rw [List.map_map] at h; exact congrArg List.sum h
def itZ : ItD := ⟨jmpI, 0, 0, 0, 0, 0⟩
def spZ : FSp := (0, ⟨0, 0, jmpI⟩)
def zSum : List FSp → Int
 | [] => 0
 | x :: r => x.2.z + zSum r
theorem zSum_snoc (x : FSp) : ∀ l, zSum (l ++ [x]) = zSum l + x.2.z
 | [] => by simp [zSum]
 | y :: r => by
  have := zSum_snoc x r; simp only [List.cons_append, zSum, this]; omega
theorem chain_posW : ∀ (S : List FSp) (p : Int), ChainS p (S.map Prod.snd) → ∀ (k : Nat) (x : FSp), S[k]? = some x → x.2.p = p + zSum (S.take k) ∧ 1 ≤ x.2.z
 | [], _, _, k, x, h => by simp at h
 | y :: r, p, h, 0, x, hx => by
  obtain ⟨h1, h2, -⟩ := h; rw [List.getElem?_cons_zero, Option.some.injEq] at hx; subst hx; exact ⟨by simp [zSum, h1], h2⟩
 | y :: r, p, h, k + 1, x, hx => by
  obtain ⟨h1, h2, h3⟩ := h; rw [List.getElem?_cons_succ] at hx; obtain ⟨e1, e2⟩ := chain_posW r _ h3 k x hx; refine ⟨?_, e2⟩; rw [e1, List.take_succ_cons]; simp only [zSum]; omega
structure TwoT (m x : Img) (N M : Nat) (p q : Nat → Int) (i j : Nat → Ins) : Prop where
 x : TileC x.text N p i
 m : TileC m.text M q j
 br : bS i brN N = bS j brN M
 ot : bS i otN N = bS j otN M
theorem emL_two {m : Img} {d : FlowD} {l : List PartD} (hc : checkE m = 0) (hd : recL m = some d) (ho : OrdG d l) : ∃ (N M : Nat) (p q : Nat → Int) (i j : Nat → Ins), TwoT m (emL m d l) N M p q i j := by
 have hcode := emL_code hc hd ho; obtain ⟨ld, bm, S, gs, hF, hFN, hTF⟩ := gen_flow3 hc hd
 have hcn : ∀ f : Int → Nat, f 22 = 0 → (∀ k k' : Int, 18 ≤ k → k ≤ 21 → 18 ≤ k' → k' ≤ 21 → f k = f k') → bS (fun k => resIt (emIts d l) (mkL d l) ((emIts d l).getD k itZ)) f (emIts d l).length = bS (fun k => (S.getD k spZ).2.i) f S.length := fun f h1 h2 => by
  have e1 := sumD itZ (fun t => f t.i.k) (emIts d l); have e2 := sumD spZ (fun z : FSp => f z.2.i.k) S; unfold bS; rw [e2, ← hF.cnt hFN ho f h1 h2, ← e1]
  congr 1
  refine List.map_congr_left fun k _ => ?_
  show f (resIt _ _ _).k = _; rw [(resIt_kl _ _ _).1]
 refine ⟨(emIts d l).length, S.length, fun k => szI ((emIts d l).take k), fun k => zSum (S.take k), fun k => resIt (emIts d l) (mkL d l) ((emIts d l).getD k itZ), fun k => (S.getD k spZ).2.i, ⟨rfl, ?_, fun k hk => ?_⟩, ⟨rfl, ?_, fun k hk => ?_⟩, hcn brN rfl ?_, hcn otN rfl ?_⟩
 · show szI ((emIts d l).take (emIts d l).length) = _; rw [List.take_length, hcode.len]
 · have hkt : (emIts d l)[k]? = some (emIts d l)[k] := List.getElem?_eq_getElem hk; obtain ⟨d1, d2, d3, d4⟩ := hcode.dec k _ hkt; have e : (emIts d l).getD k itZ = (emIts d l)[k] := by rw [List.getD_eq_getElem?_getD, hkt]; rfl
   show decB _ (szI ((emIts d l).take k)) = (resIt (emIts d l) (mkL d l) ((emIts d l).getD k itZ), szI ((emIts d l).take (k + 1)) - szI ((emIts d l).take k), 0) ∧ 1 ≤ szI ((emIts d l).take (k + 1)) - szI ((emIts d l).take k); rw [e, ← d2, d1, d3]; refine ⟨?_, by omega⟩
   congr 2
   omega
 · show zSum (S.take S.length) = _; rw [List.take_length]; obtain ⟨a, x, e⟩ : ∃ a x, S = a ++ [x] := ⟨S.dropLast, S.getLast hF.nil, (List.dropLast_concat_getLast hF.nil).symm⟩
   have h1 := hF.len a x e; have h2 := chain_posW S 0 hF.chain a.length x (by rw [e]; simp); rw [e, zSum_snoc]; have h3 : S.take a.length = a := by rw [e]; simp
   rw [h3] at h2; omega
 · have hkt : S[k]? = some S[k] := List.getElem?_eq_getElem hk; obtain ⟨c1, c2⟩ := chain_posW S 0 hF.chain k _ hkt; have e : S.getD k spZ = S[k] := by rw [List.getD_eq_getElem?_getD, hkt]; rfl
   have hdc := hF.dec _ (List.getElem_mem hk); have e2 : S.take (k + 1) = S.take k ++ [S[k]] := by rw [List.take_add_one, hkt]; rfl
   show decB _ (zSum (S.take k)) = ((S.getD k spZ).2.i, zSum (S.take (k + 1)) - zSum (S.take k), 0) ∧ 1 ≤ zSum (S.take (k + 1)) - zSum (S.take k); rw [e, e2, zSum_snoc]; rw [show S[k].2.p = zSum (S.take k) by omega] at hdc; rw [hdc]; refine ⟨?_, by omega⟩
   congr 2
   omega
 · intro k k' h1 h2 h3 h4; unfold brN; rw [if_pos ⟨h1, h2⟩, if_pos ⟨h3, h4⟩]
 · intro k k' h1 h2 h3 h4; unfold otN; rw [if_pos (.inr ⟨h1, h2⟩), if_pos (.inr ⟨h3, h4⟩)]
end Go.Proofs.YtokbgdlenbhklaaDoor
