/- What settle makes long leads too far, at the end too. -/
import Derived.Test.YtcafhoobeggmeaaDoorEmW
namespace Go.Proofs.YtcafhoobeggmeaaDoor
open Go.RowKit
theorem long_kindS {k d a b n : Int} {l : Bool} (h : chk k d a b n l = 0) (hl : l = true) : 18 ≤ k ∧ k ≤ 22 := by
 obtain ⟨h1, h2, -, -⟩ := chk_zero.1 h
 have hlo : longT k ≠ 0 := by
  intro e; simp [formBad, hl, e] at h2
 have h0 : ∀ n : Fin 25, longT (n.val : Int) ≠ 0 → 18 ≤ n.val ∧ n.val ≤ 22 := by decide +kernel
 obtain ⟨q, rfl⟩ := Int.eq_ofNat_of_zero_le (show 0 ≤ k by omega); have := h0 ⟨q, by omega⟩ hlo; simp only at this; omega
theorem size_le {t u : ItD} (h : ItLe t u) : sizeK t.i.k t.i.l ≤ sizeK u.i.k u.i.l := by
 have e := congrArg Ins.k h.i; simp only at e; rw [e]; unfold sizeK; rcases h1 : t.i.l with _ | _
 · rcases u.i.l with _ | _ <;> simp <;> omega
 · rw [h.lg h1]; exact Int.le_refl _
theorem gap_mono {a b : List ItD} (h : ItsLe a b) (k : Nat) : ∀ n : Nat, szI (a.take (k + n)) - szI (a.take k) ≤ szI (b.take (k + n)) - szI (b.take k)
 | 0 => by simp
 | n + 1 => by
  have ih := gap_mono h k n
  by_cases hl : k + n < a.length
  · have hlb : k + n < b.length := by rw [← h.1]; exact hl
    have ha : a[k + n]? = some a[k + n] := gE' hl; have hb : b[k + n]? = some b[k + n] := gE' hlb; have h1 := szI_take ha; have h2 := szI_take hb; have h3 := size_le (h.2 _ _ _ ha hb); rw [← Nat.add_assoc, h1, h2]; omega
  · have hlb : ¬ k + n < b.length := by rw [← h.1]; exact hl
    have e1 : a.take (k + (n + 1)) = a.take (k + n) := by rw [List.take_of_length_le (by omega), List.take_of_length_le (by omega)]
    have e2 : b.take (k + (n + 1)) = b.take (k + n) := by rw [List.take_of_length_le (by omega), List.take_of_length_le (by omega)]
    rw [e1, e2]; exact ih
theorem szI_nn (a : List ItD) (h : ∀ t ∈ a, t.i.chk = 0) (k : Nat) : ∀ n : Nat, szI (a.take k) ≤ szI (a.take (k + n))
 | 0 => Int.le_refl _
 | n + 1 => by
  have ih := szI_nn a h k n
  by_cases hl : k + n < a.length
  · have ha : a[k + n]? = some a[k + n] := gE' hl; have h1 := szI_take ha; have h2 := (sizeK_bd (h _ (mG' ha))).1; rw [← Nat.add_assoc, h1]; omega
  · have e1 : a.take (k + (n + 1)) = a.take (k + n) := by rw [List.take_of_length_le (by omega), List.take_of_length_le (by omega)]
    rw [e1]; exact ih
def FarT (l : List ItD) (first : List Int) (t : ItD) : Prop := posAt l (first.getD t.blk.toNat 0) - t.pos < -128 ∨ 127 < posAt l (first.getD t.blk.toNat 0) - t.pos
def LongFar (l : List ItD) (first : List Int) : Prop := ∀ t ∈ l, t.i.l = true → 0 ≤ t.blk ∧ FarT l first t
theorem posAt_ok {l : List ItD} (h : PosOk l) {k : Int} (h0 : 0 ≤ k) (h1 : k < l.length) : posAt l k = szI (l.take k.toNat) := by
 have hk : l[k.toNat]? = some (l[k.toNat]'(by omega)) := gE' _; unfold posAt; rw [hk]; exact h _ _ hk
theorem longFar_step {l : List ItD} {first : List Int} (hok : ItsOk first l) (h : LongFar (setPos 0 l) first) : LongFar (setPos 0 ((setPos 0 l).map (longer (setPos 0 l) first))) first := by
 have hle : ItsLe (setPos 0 l) (setPos 0 ((setPos 0 l).map (longer (setPos 0 l) first))) := (map_longer_le _ _ _).trans (setPos_le _ 0); have hokL : ItsOk first (setPos 0 l) := hok.le (setPos_le l 0)
 have pL := setPos_ok l; have pM := setPos_ok ((setPos 0 l).map (longer (setPos 0 l) first)); intro u hu hul; obtain ⟨k, hk⟩ := List.getElem?_of_mem hu; have hkl : k < (setPos 0 l).length := by rw [hle.1]; exact (List.getElem?_eq_some_iff.1 hk).1
 have ht : (setPos 0 l)[k]? = some (setPos 0 l)[k] := gE' hkl; generalize (setPos 0 l)[k] = t at ht; have hmem := mG' ht; have hm : ((setPos 0 l).map (longer (setPos 0 l) first))[k]? = some (longer (setPos 0 l) first t) := by rw [List.getElem?_map, ht]; rfl
 have hu2 := setPos_at _ 0 k _ hm; rw [hu2] at hk; injection hk with hk; have hl2 : (longer (setPos 0 l) first t).i.l = true := by rw [← hk] at hul; exact hul
 have hfar : 0 ≤ t.blk ∧ FarT (setPos 0 l) first t := by
  by_cases hf : farI (setPos 0 l) first t = true
  · unfold farI at hf; simp only [Bool.and_eq_true, Bool.or_eq_true, decide_eq_true_eq] at hf; exact ⟨hf.1.1, hf.2⟩
  · refine h t hmem ?_; unfold longer at hl2; rw [if_neg hf] at hl2; exact hl2
 have hlt := hle.2 k t u ht (by rw [hu2, hk]); obtain ⟨h0, hF⟩ := hfar; obtain ⟨-, j0, j1⟩ := hokL.blk t hmem h0; refine ⟨by rw [hlt.blk]; exact h0, ?_⟩; have eu : u.pos = szI (((setPos 0 ((setPos 0 l).map (longer (setPos 0 l) first)))).take k) := pM k u (by rw [hu2, hk]); have et : t.pos = szI ((setPos 0 l).take k) := pL k t ht; unfold FarT at hF ⊢; rw [hlt.blk, eu, posAt_ok pM j0 (by rw [← hle.1]; exact j1)]; rw [et, posAt_ok pL j0 j1] at hF; rcases Nat.le_total k (first.getD t.blk.toNat 0).toNat with hkj | hkj
 · have g := gap_mono hle k ((first.getD t.blk.toNat 0).toNat - k); have g0 := gap_mono (ItsLe.refl (setPos 0 l)) k 0; rw [show k + ((first.getD t.blk.toNat 0).toNat - k) = (first.getD t.blk.toNat 0).toNat by omega] at g; have hnn := szI_nn (setPos 0 l) hokL.chk k ((first.getD t.blk.toNat 0).toNat - k); rw [show k + ((first.getD t.blk.toNat 0).toNat - k) = (first.getD t.blk.toNat 0).toNat by omega] at hnn; omega
 · have g := gap_mono hle (first.getD t.blk.toNat 0).toNat (k - (first.getD t.blk.toNat 0).toNat); rw [show (first.getD t.blk.toNat 0).toNat + (k - (first.getD t.blk.toNat 0).toNat) = k by omega] at g; have hnn := szI_nn (setPos 0 l) hokL.chk (first.getD t.blk.toNat 0).toNat (k - (first.getD t.blk.toNat 0).toNat); rw [show (first.getD t.blk.toNat 0).toNat + (k - (first.getD t.blk.toNat 0).toNat) = k by omega] at hnn; omega
theorem settleGo_far (first : List Int) : ∀ (n : Nat) (l : List ItD), ItsOk first l → LongFar (setPos 0 l) first → LongFar (settleGo first n l) first
 | 0, l, _, h => h
 | n + 1, l, ho, h => by
  unfold settleGo
  split
  · exact settleGo_far first n _ (ho.le ((setPos_le l 0).trans (map_longer_le _ _ _))) (longFar_step ho h)
  · exact h
theorem tail_short {b : BlkD} (hb : b.ends = 4 → b.last.l = false) (next : Int) : ∀ t ∈ tailIts b next, t.i.l = false := by
 intro t ht; unfold tailIts at ht
 split at ht
 · split at ht
   · cases ht
   · rw [List.mem_singleton] at ht; rw [ht]; rfl
 · split at ht
   · split at ht
     · cases ht
     · rw [List.mem_singleton] at ht; rw [ht]; rfl
   · split at ht
     · rename_i h4
       split at ht
       · rw [List.mem_singleton] at ht; rw [ht]; exact hb h4
       · rcases List.mem_cons.1 ht with e | ht
         · rw [e]; exact hb h4
         · split at ht
           · cases ht
           · rw [List.mem_singleton] at ht; rw [ht]; rfl
     · cases ht
section
variable {m : Img} {ld : Int → Bool} {bm : Int → Option Int} {S : List FSp} {gs : List (List FSp)} {d : FlowD} {l : List PartD}
theorem PgmF.itemsShort (h : PgmF m ld bm S gs d) (ho : OrdG d l) : ∀ t ∈ (mkL d l).items, t.i.l = false := by
 rw [(mkL_at ho).1]; intro t ht; obtain ⟨x, hx, hxt⟩ := List.mem_flatMap.1 ht; obtain ⟨h1, h2⟩ := seqL_in ho x hx; have hb := blk_get h1 h2; unfold blkIts at hxt; rcases List.mem_append.1 hxt with hxt | hxt
 · unfold codeIts at hxt; obtain ⟨k, hk⟩ := List.getElem?_of_mem hxt; rw [List.getElem?_mapIdx, Option.map_eq_some_iff] at hk; obtain ⟨c, hc, rfl⟩ := hk; obtain ⟨y, -, -, -, -, -, hi, hbk⟩ := h.codeK hb hc
   cases hi with
   | plain h1 h2 h3 h4 h5 =>
    rcases hl : (codeIt (d.blocks.getD x.1.toNat blkZ) k c).i.l with _ | _
    · rfl
    · have := long_kindS (k := (codeIt (d.blocks.getD x.1.toNat blkZ) k c).i.k) (d := (codeIt (d.blocks.getD x.1.toNat blkZ) k c).i.d) (a := (codeIt (d.blocks.getD x.1.toNat blkZ) k c).i.a) (b := (codeIt (d.blocks.getD x.1.toNat blkZ) k c).i.b) (n := (codeIt (d.blocks.getD x.1.toNat blkZ) k c).i.n) h3 hl; omega
   | call h1 h2 h3 h4 h5 => rw [h4]
   | jump l h1 h2 h3 h4 h5 => omega
   | branch k a b l h1 h2 h3 h4 h5 h6 h7 h8 => omega
 · obtain ⟨r, y, -, -, -, -, hG⟩ := h.grp hb; refine tail_short (fun h4 => ?_) x.2 t hxt
   cases hG with
   | branch j z rz z' rz' e1 e2 e3 e4 => rw [e4]
   | jump j z rz e1 e2 => omega
   | stop e1 e2 => omega
   | fall z' rz' e1 e2 => omega
theorem PgmF.longFar (h : PgmF m ld bm S gs d) (hf : FnF m S) (ho : OrdG d l) : LongFar (emIts d l) (mkL d l).first := by
 refine settleGo_far _ _ _ (h.itsOk hf ho) fun t ht hl => ?_
 obtain ⟨k, hk⟩ := List.getElem?_of_mem ht; have hkl : k < (mkL d l).items.length := by have := (List.getElem?_eq_some_iff.1 hk).1; rwa [setPos_len] at this
 have h1 := setPos_at (mkL d l).items 0 k _ (gE' hkl); rw [h1] at hk; injection hk with hk; have h2 := h.itemsShort ho _ (List.getElem_mem hkl); rw [← hk] at hl; simp only at hl; rw [h2] at hl
 cases hl
theorem resIt_kl (its : List ItD) (s : MkD) (t : ItD) : (resIt its s t).k = t.i.k ∧ (resIt its s t).l = t.i.l := by
 unfold resIt
 split
 · exact ⟨rfl, rfl⟩
 · split <;> exact ⟨rfl, rfl⟩
theorem resLen (its : List ItD) (s : MkD) : ∀ L : List ItD, (∀ t ∈ L, (resIt its s t).chk = 0) → (((L.map (resIt its s)).flatMap Ins.enc).length : Int) = szI L
 | [], _ => rfl
 | t :: r, h => by
  have ih := resLen its s r (fun u hu => h u (List.mem_cons_of_mem _ hu)); have h1 := enc_len (h t List.mem_cons_self); rw [(resIt_kl its s t).1, (resIt_kl its s t).2] at h1; have e : szI (t :: r) = sizeK t.i.k t.i.l + szI r := rfl; rw [List.map_cons, List.flatMap_cons, List.length_append, e, ← ih, ← h1]
  push_cast
  rfl
structure EmCode (m : Img) (d : FlowD) (l : List PartD) : Prop where
 len : ((emL m d l).text.length : Int) = szI (emIts d l)
 dec : ∀ (k : Nat) (t : ItD), (emIts d l)[k]? = some t → decB (emL m d l).text t.pos = (resIt (emIts d l) (mkL d l) t, sizeK t.i.k t.i.l, 0) ∧ t.pos = szI ((emIts d l).take k) ∧ szI ((emIts d l).take (k + 1)) = t.pos + sizeK t.i.k t.i.l ∧ 1 ≤ sizeK t.i.k t.i.l
 far : ∀ t ∈ emIts d l, t.i.l = true → (resIt (emIts d l) (mkL d l) t).n < -128 ∨ 127 < (resIt (emIts d l) (mkL d l) t).n
 few : (emL m d l).text.length ≤ 4 * m.text.length
 chk : ∀ t ∈ emIts d l, t.i.chk = 0
 bytes : ∀ x ∈ (emL m d l).text, 0 ≤ x ∧ x < 256
theorem PgmF.emCode (h : PgmF m ld bm S gs d) (hf : FnF m S) (ht : TabF m gs) (hc : checkE m = 0) (ho : OrdG d l) : EmCode m d l := by
 have hg := h.pgOk hf ht hc ho; have hE := h.emF hf ho; have hlen : ((emL m d l).text.length : Int) = szI (emIts d l) := resLen _ _ _ hg.chk; refine ⟨hlen, fun k t hk => ?_, fun t hm hl => ?_, ?_, fun t ht => (hE.kind t ht).chk, fun x hx => ?_⟩
 · have hp := hE.pos k t hk; obtain ⟨hkl, hke⟩ := List.getElem?_eq_some_iff.1 hk
   have e1 : emIts d l = (emIts d l).take k ++ t :: (emIts d l).drop (k + 1) := by
    conv => lhs; rw [← List.take_append_drop k (emIts d l), List.drop_eq_getElem_cons hkl, hke]
   have e2 := resLen (emIts d l) (mkL d l) ((emIts d l).take k) (fun u hu => hg.chk u (List.mem_of_mem_take hu)); have hch := hg.chk t (mG' hk)
   have e3 : (emL m d l).text = (((emIts d l).take k).map (resIt (emIts d l) (mkL d l))).flatMap Ins.enc ++ (resIt (emIts d l) (mkL d l) t).enc ++ (((emIts d l).drop (k + 1)).map (resIt (emIts d l) (mkL d l))).flatMap Ins.enc := by
    refine (congrArg (fun L => (L.map (resIt (emIts d l) (mkL d l))).flatMap Ins.enc) e1).trans ?_; show (((emIts d l).take k ++ t :: (emIts d l).drop (k + 1)).map (resIt (emIts d l) (mkL d l))).flatMap Ins.enc = _; rw [List.map_append, List.map_cons, List.flatMap_append, List.flatMap_cons, List.append_assoc]
   have h3 := szI_take hk; have h4 := enc_len hch; rw [(resIt_kl _ _ t).1, (resIt_kl _ _ t).2] at h4; have h5 := sizeK_bd hch; rw [(resIt_kl _ _ t).1, (resIt_kl _ _ t).2] at h5; refine ⟨?_, hp, by rw [h3, hp], h5.1⟩; have h6 := dec_enc ((((emIts d l).take k).map (resIt (emIts d l) (mkL d l))).flatMap Ins.enc) ((((emIts d l).drop (k + 1)).map (resIt (emIts d l) (mkL d l))).flatMap Ins.enc) hch; rw [← e3, e2, ← hp, h4] at h6; exact h6
 · obtain ⟨h0, hF⟩ := h.longFar hf ho t hm hl
   have e : (resIt (emIts d l) (mkL d l) t).n = posAt (emIts d l) ((mkL d l).first.getD t.blk.toNat 0) - t.pos := by
    unfold resIt; rw [if_pos h0]
   rw [e]; exact hF
 · have := hE.sz; omega
 · obtain ⟨i, hi, hxi⟩ := List.mem_flatMap.1 hx; obtain ⟨t, ht, rfl⟩ := List.mem_map.1 hi; exact enc_bytes (hg.chk t ht) x hxi
theorem emL_code {m : Img} {d : FlowD} {l : List PartD} (hc : checkE m = 0) (hd : recL m = some d) (ho : OrdG d l) : EmCode m d l := by
 obtain ⟨ld, bm, S, gs, hF, hFN, hTF⟩ := gen_flow3 hc hd; exact hF.emCode hFN hTF hc ho
end
end Go.Proofs.YtcafhoobeggmeaaDoor
