/- The keep's out and li; slices.Clone at instructions. The keep's alone, walked. -/
import Derived.Test.YtokbgdlenbhklaaDoorIsaH
import Derived.Test.YtokbgdlenbhklaaDoorIsaG
import Derived.Test.YtokbgdlenbhklaaDoorIsaF
import Derived.Test.YtokbgdlenbhklaaDoorImgE
import Derived.Test.YtokbgdlenbhklaaDoorCfA
import Derived.Deep.LoopGhost
import Derived.Deep.AppendLies
import Derived.Lib.LazyBuf
namespace Go.Proofs.YtokbgdlenbhklaaDoor
open Go.RowKit
theorem decode_any (L : List Int) (A : Option Addr) (len cap : Nat) (at_ : Int) (w : World) (hT : Tabs w) (hlen : len = L.length) (hR : RdB w w.heap.size A L) (hL : len ≤ 140737488355328) (hcap : len ≤ cap) :
 Calls Tryd.prog 23 #[.slice A len cap, .int .i64 at_] w fun e w' => e = .returned (decV (decB L at_)) ∧ Below w.heap.size w w' := by
 unfold decB
 by_cases h1 : at_ < 0 ∨ (L.length : Int) ≤ at_
 · rw [if_pos h1]; exact decode_out A len cap at_ w (by rw [hlen]; exact h1) hL
 · rw [if_neg h1]; have h2 : 0 ≤ at_ ∧ at_ < L.length := by omega
   obtain ⟨p, rfl⟩ := Int.eq_ofNat_of_zero_le h2.1; have hp : p < L.length := by omega
   obtain ⟨hby, hcell⟩ := hR; obtain ⟨tb, tof, rfl, htb, hc⟩ := hcell (by intro e; rw [e] at hp; simp at hp)
   have hg : ∀ j, j < L.length → L[j]? = some (L.getD j 0) ∧ 0 ≤ L.getD j 0 ∧ L.getD j 0 < 256 := fun j hj => by
    have e : L[j]? = some L[j] := List.getElem?_eq_getElem hj; have : L.getD j 0 = L[j] := by simp [List.getD, e]
    rw [this]; exact ⟨e, hby _ (List.getElem_mem hj)⟩
   have hd : ∀ j, 0 ≤ L.getD j 0 ∧ L.getD j 0 < 256 := fun j => by
    by_cases hj : j < L.length
    · exact (hg j hj).2
    · have : L.getD j 0 = 0 := by simp [List.getD, List.getElem?_eq_none (Nat.le_of_not_lt hj)]
      omega
   have hop := hd p; have h0 : w.cell? ⟨tb, tof + p, none⟩ = some (.int .u8 (L.getD p 0)) := hc p _ (hg p hp).1; simp only [Int.toNat_natCast]; have hq : kindOf (L.getD p 0) = ((kindOf (L.getD p 0)).1, (kindOf (L.getD p 0)).2) := rfl; have hkk := kindOf_ok (L.getD p 0) hop.1 hop.2; generalize (kindOf (L.getD p 0)).1 = k at *; generalize (kindOf (L.getD p 0)).2 = l at *
   by_cases hk0 : k = 0
   · rw [if_pos hk0]; exact decode_kind p tb tof cap len _ w hT hL htb h0 (by omega) (by rw [hq]; exact hk0)
   · rw [if_neg hk0]; have hk1 : 1 ≤ k ∧ k ≤ 24 := by rcases hkk with h | h <;> omega
     have hlg : l = true → shapeT k = 8 ∨ shapeT k = 9 := by rcases hkk with h | h; exact absurd h hk0; exact h.2.2
     by_cases hs : (L.length : Int) < p + sizeK k l
     · rw [if_pos hs]; exact decode_short k l p tb tof cap len _ w hT hL htb h0 (by omega) hq hk1 (by omega)
     · rw [if_neg hs]; have hx : ∀ q : Nat, (q : Int) + 1 ≤ sizeK k l → w.cell? ⟨tb, tof + (p + q), none⟩ = some (.int .u8 (L.getD (p + q) 0)) := fun q hq => hc (p + q) _ (hg (p + q) (by omega)).1
       have := decode_in k l p tb tof cap len (L.getD p 0) (L.getD (p + 1) 0) (L.getD (p + 2) 0) (L.getD (p + 3) 0) w hT hL hcap htb h0 (fun h => hx 1 (by omega))
        (fun h => by have := hx 2 (by omega); rw [show tof + (p + 1) + 1 = tof + (p + 2) by omega]; exact this) (fun h => by have := hx 3 (by omega); rw [show tof + (p + 1) + 2 = tof + (p + 3) by omega]; exact this)
        (hd _) (hd _) (hd _) (by omega) hq hk1 (by omega) hlg
       refine this.mono fun e w' ⟨he, hb⟩ => ⟨?_, hb⟩
       rw [he]; unfold decAns decV
       split <;> rfl
def EncPost (W : World) (L : List Int) (e : Ending) (w' : World) : Prop :=
 ∃ g cap, e = .returned (.tuple #[.slice (some ⟨g, 0, none⟩) L.length cap, .int .i64 0]) ∧ L.length ≤ cap ∧ W.heap.size ≤ g ∧ g < w'.heap.size ∧ Below W.heap.size W w' ∧ (∀ j x, L[j]? = some x → w'.cell? ⟨g, 0 + j, none⟩ = some (.int .u8 x)) ∧ OwnB w' W.heap.size (.slice (some ⟨g, 0, none⟩) L.length cap) L
theorem OwnB.at {w : World} {base : Nat} {v : Value} {L : List Int} (h : OwnB w base v L) (hn : L ≠ []) : ∃ g cap, v = .slice (some ⟨g, 0, none⟩) L.length cap ∧ L.length ≤ cap ∧ base ≤ g ∧ g < w.heap.size ∧ ∀ j x, L[j]? = some x → w.cell? ⟨g, 0 + j, none⟩ = some (.int .u8 x) := by
 obtain ⟨_, hx | ⟨g, cap, cs, hv, hg, hb, hlc, hcm, hcs, htk⟩⟩ := h
 · exact absurd (List.length_eq_zero_iff.1 hx.2) hn
 · refine ⟨g, cap, hv, hlc, hg, (Array.getElem?_eq_some_iff.1 hb).1, fun j x hx => ?_⟩; rw [cell_of_row w g (0 + j) _ _ _ hb, Nat.zero_add]; obtain ⟨hj, rfl⟩ := List.getElem?_eq_some_iff.1 hx; have := congrArg (·[j]?) htk; simpa [List.getElem?_take, hj, bytesV] using this
theorem encode_any (i : Ins) (w : World) (hT : Tabs w) (h : i.chk = 0) : Calls Tryd.prog 58 #[.agg #[.int .i64 i.k, .int .i64 i.d, .int .i64 i.a, .int .i64 i.b, .int .i64 i.n, .bool i.l]] w (EncPost w i.enc) := by
 obtain ⟨_, _, hr, _⟩ := ins_chk_zero.1 h; refine (encode_ok i.k i.d i.a i.b i.n i.l w hT h hr.1 hr.2.1 hr.2.2).mono fun e w' ⟨v, he, ho, hb⟩ => ?_
 obtain ⟨g, cap, rfl, h1, h2, h3, h4⟩ := ho.at (by simp [encB]); exact ⟨g, cap, he, h1, h2, h3, hb, h4, ho⟩
set_option maxHeartbeats 1000000 in
set_option maxRecDepth 100000 in
theorem encode_bad (k d a b n : Int) (l : Bool) (w : World) (hT : Tabs w) (hc : chk k d a b n l ≠ 0) :
   Calls Tryd.prog 58 #[.agg #[.int .i64 k, .int .i64 d, .int .i64 a, .int .i64 b, .int .i64 n, .bool l]] w fun e w' =>
    e = .returned (.tuple #[.slice none 0 0, .int .i64 (chk k d a b n l)]) ∧ Below w.heap.size w w' := by
 generalize hC : chk k d a b n l = c at *; have HC := Lib.hid hC; have hne : (c != 0) = true := by simpa using hc
 have H := Lib.hid hne; clear hc hne hC
 go_enter Tryd.func58, Tryd.ntmps58
 go_wp2_with fail
 refine (check_any k d a b n l _ (hT.alloc _)).mono ?_; rintro e w1 ⟨rfl, hb1⟩; have hB1 : Below w.heap.size w w1 := ((Below.refl _ _).alloc (Nat.le_refl _) _).trans (hb1.mono (by simp)); clear hb1 hT; rw [HC.out]; have hne := H.out
 go_wp2
 go_ret2
 exact ⟨rfl, hB1⟩
end Go.Proofs.YtokbgdlenbhklaaDoor
namespace Go.Proofs.YtokbgdlenbhklaaDoor
open Go.RowKit
theorem RdG.bytes {w : World} {B : Nat} {A : Option Addr} {L : List Int} (h : RdG w B A (intsV .u8 L)) (hb : ∀ x ∈ L, 0 ≤ x ∧ x < 256) : RdB w B A L :=
 ⟨hb, fun hn => by
  obtain ⟨b, o, e, hlt, hc⟩ := h (by cases L with | nil => exact absurd rfl hn | cons a r => simp [intsV])
  exact ⟨b, o, e, hlt, fun j x hx => hc j _ (intsV_at .u8 hx)⟩⟩
end Go.Proofs.YtokbgdlenbhklaaDoor
namespace Go.Proofs.YtokbgdlenbhklaaDoor
open Go.RowKit
end Go.Proofs.YtokbgdlenbhklaaDoor
namespace Go.Proofs.YtokbgdlenbhklaaDoor
open Go.RowKit
theorem addr_add0 (b j : Nat) : ((⟨b, 0, none⟩ : Addr).add j) = ⟨b, 0 + j, none⟩ := by unfold Addr.add; split <;> simp_all
theorem app_bytes_lies {w : World} {ops : Array Oper} {rest : List Oper} {o : Oper} {a : Act} {Q : Exit → Act → World → Prop} (hgd : o.guard = none) (s x : Operand)
 (ho : o.op = .call { callee := .builtin .append, args := #[s, x], argTypes := #[35, 35] }) (base : Nat) (v : Value) (L0 L : List Int) (hs : a.eval s = v) (hown : OwnB w base v L0)
 (g m c : Nat) (hx : a.eval x = .slice (some ⟨g, 0, none⟩) m c) (hm : L.length = m) (hm0 : 0 < m) (hc : ∀ j x, L[j]? = some x → w.cell? ⟨g, 0 + j, none⟩ = some (.int .u8 x)) (hn : L0.length + m ≤ 140737488355328) (hbase : base ≤ w.heap.size)
 (h : ∀ g' cap' w', OwnB w' base (.slice (some ⟨g', 0, none⟩) (L0 ++ L).length cap') (L0 ++ L) → w.grownBy w' v.ownBlock → (v.ownBlock = some g' ∨ g' = w.heap.size) → g' < w'.heap.size → wpList Tryd.prog ops Q rest (a.put o.dst (.slice (some ⟨g', 0, none⟩) (L0 ++ L).length cap')) w') : wpList Tryd.prog ops Q (o :: rest) a w := by
 obtain ⟨i0, hi, hz0, hz1, hz2⟩ := info_parts infoU8; refine wpList_append_lies w hgd s x 35 ho base 5 i0 (.int .u8 0) 1 1 Tryd.underlying35 hi hz0 hz1 hz2 rfl (by decide) v _ _ hs hown ⟨g, 0, none⟩ m c (bytesV L) hx (by simp [bytesV, hm]) ?_ ?_ hm0 (by unfold maxLen; omega) (by omega) hbase _ rfl (fun g' cap' w' h2 h3 h4 h5 => ?_)
 · intro j u hu; simp only [bytesV, List.getElem?_map, Option.map_eq_some_iff] at hu; obtain ⟨x, hx, rfl⟩ := hu; rw [addr_add0]; exact hc j x hx
 · intro u hu; simp only [bytesV, List.mem_map] at hu; obtain ⟨x, _, rfl⟩ := hu
   rfl
 · have hll : (L0 ++ L).length = L0.length + m := by rw [List.length_append, hm]
   have := h g' cap' w'; rw [hll] at this; refine this ?_ h3 h4 h5; unfold OwnB; rw [hll]; simpa [bytesV] using h2
end Go.Proofs.YtokbgdlenbhklaaDoor
namespace Go.Proofs.YtokbgdlenbhklaaDoor
open Go.RowKit
def insC (i : Ins) : List Value := [.int .i64 i.k, .int .i64 i.d, .int .i64 i.a, .int .i64 i.b, .int .i64 i.n, .bool i.l]
def insR (L : List Ins) : List Value := L.flatMap insC
theorem addr_addO (b o j : Nat) : ((⟨b, o, none⟩ : Addr).add j) = ⟨b, o + j, none⟩ := by unfold Addr.add; split <;> simp_all
end Go.Proofs.YtokbgdlenbhklaaDoor
namespace Go.Proofs.YtokbgdlenbhklaaDoor
open Go.RowKit
def encAll (L : List Ins) : List Int := L.flatMap Ins.enc
theorem encAll_bytes (L : List Ins) (h : ∀ i ∈ L, i.chk = 0) : ∀ x ∈ encAll L, 0 ≤ x ∧ x < 256 := by
 intro x hx; simp only [encAll, List.mem_flatMap] at hx; obtain ⟨i, hi, hx⟩ := hx; exact enc_bytes (h i hi) x hx
end Go.Proofs.YtokbgdlenbhklaaDoor
