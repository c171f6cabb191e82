/- flow.branch, flow.stops, flow.sweep, walked. -/
import Derived.Test.YtcdlgjhdbmmomaaGreatDoorMapI
import Derived.WideKeyEntry
import Derived.Test.YtcdlgjhdbmmomaaGreatDoorKeepD
import Derived.Test.YtcdlgjhdbmmomaaGreatDoorImgE
import Derived.Test.YtcdlgjhdbmmomaaGreatDoorPgmA
import Derived.Deep.LoopGhost
import Derived.Deep.DeepCutAuto
import Derived.Deep.CutBlock
import Derived.IntWalk
import Derived.WalkLawsBesides
namespace Go.Proofs.YtcdlgjhdbmmomaaGreatDoor
open Go.RowKit Go.Maps
section
open Go.ChangeShapes Go.WideShapes Go.MapKept Go.ChangeMaps
open Go.WideElems (Fit findIdx_born findIdx_arr modify_last set_self)
variable {H : Type} {P : Program} {w : World} {t k e : TypeId} {R : Value → Option (DataW H × List MemPlace)} {b : Nat} {es : Array MapEntry} {clock : Nat}
theorem entry_then (K : Keyed P k) (ht : P.underlying t = some (.map k e)) {z : Value} (hz : ∀ u : World, (zeroValue e).run P u = .ok z u) (hb : w.heap[b]? = some (.map es clock)) (F : Fit P k R es clock)
 {key : Value} {kl : Lit} (hkey : keyOf P k key = some kl) :
 ∃ (v0 : Value) (st : Nat) (es1 : Array MapEntry) (clock1 : Nat), (Instr.mapEntry t (.map (some b)) key).run P w = .ok (.tuple #[v0, goInt st]) (setBlock w b (.map es1 clock1)) ∧
  ∀ (w2 : World) (val : Value), w2.heap[b]? = some (.map es1 clock1) → ∃ es' clock', (Instr.entryStore t (.map (some b)) (goInt st) val).run P w2 = .ok () (setBlock w2 b (.map es' clock')) ∧
   (Instr.mapUpdate t (.map (some b)) key val).run P w = .ok () (setBlock w b (.map es' clock')) := by
 obtain ⟨s1, s2, _⟩ := F.stamped; rcases K.find w hkey es.toList F.keys with ⟨h1, h2⟩ | ⟨j, e0, h1, h2, h3⟩
 · refine ⟨z, clock, es.push ⟨key, z, clock⟩, clock + 1, ?_, fun w2 val hw2 => ⟨es.push ⟨key, val, clock⟩, clock + 1, ?_, ?_⟩⟩
   · simp [Instr.mapEntry, run_underlying ht, MapKept.run_getObj_map hb, K.check w false hkey, h1, hz, MapKept.run_setObj_map _ hb, Result.andThen, setBlock]
   · have hidx : (es.push ⟨key, z, clock⟩).findIdx? (fun e => ((e.born : Nat) : Int) == ((clock : Nat) : Int)) = some es.size := by
      rw [findIdx_arr]
      have := findIdx_born (l := (es.push ⟨key, z, clock⟩).toList) (j := es.size) (e0 := ⟨key, z, clock⟩) (by
       simp only [Array.toList_push, List.map_append, List.map_cons, List.map_nil]; refine List.nodup_append.2 ⟨s2, by simp, fun a ha c hc e1 => ?_⟩; simp only [List.mem_singleton] at hc; obtain ⟨x, hx, rfl⟩ := List.mem_map.1 ha; have := s1 x hx
       omega) (by simp)
      exact this
     have hmod : (es.push ⟨key, z, clock⟩).modify es.size (fun e => { e with val := val }) = es.push ⟨key, val, clock⟩ := by
      apply Array.ext'; rw [Array.toList_modify, Array.toList_push, Array.toList_push, ← Array.length_toList, modify_last]
     simp [Instr.entryStore, MapKept.run_getObj_map hw2, asInt, asIntOf, goInt, hidx, hmod, MapKept.run_setObj_map _ hw2, Result.andThen, setBlock]
   · simp [Instr.mapUpdate, run_underlying ht, MapKept.run_getObj_map hb, K.check w false hkey, h1, MapKept.run_setObj_map _ hb, Result.andThen, setBlock]
 · have hj : es[j]? = some e0 := by simpa using h2
   have hsame : es.modify j (fun e => { e with key := key }) = es := by
    apply Array.ext'; rw [Array.toList_modify, modify_eq_set _ _ _ _ h2]; have : ({ e0 with key := key } : MapEntry) = e0 := by rw [← h3]
    rw [this]; exact set_self _ _ _ h2
   refine ⟨e0.val, e0.born, es, clock, ?_, fun w2 val hw2 => ⟨es.modify j (fun e' => { e' with key := key, val := val }), clock, ?_, ?_⟩⟩
   · simp [Instr.mapEntry, run_underlying ht, MapKept.run_getObj_map hb, K.check w false hkey, h1, hj, h3, K.stays w hkey, hsame, MapKept.run_setObj_map _ hb, Result.andThen, setBlock]
   · have hidx : es.findIdx? (fun e => ((e.born : Nat) : Int) == ((e0.born : Nat) : Int)) = some j := by
      rw [findIdx_arr]; exact findIdx_born s2 h2
     have hmod : es.modify j (fun e => { e with val := val }) = es.modify j (fun e' => { e' with key := key, val := val }) := by
      apply Array.ext'; rw [Array.toList_modify, Array.toList_modify, modify_eq_set _ _ _ _ h2, modify_eq_set _ _ _ _ h2, ← h3]
     simp [Instr.entryStore, MapKept.run_getObj_map hw2, asInt, asIntOf, goInt, hidx, hmod, MapKept.run_setObj_map _ hw2, Result.andThen, setBlock]
   · simp [Instr.mapUpdate, run_underlying ht, MapKept.run_getObj_map hb, K.check w false hkey, h1, hj, h3, K.stays w hkey, MapKept.run_setObj_map _ hb, Result.andThen, setBlock]
theorem setBlock_two (w : World) (b : Nat) (o o' : Obj) : setBlock (setBlock w b o) b o' = setBlock w b o' := by
 unfold setBlock; simp
end
theorem MapB.entry {w : World} {b n : Nat} {f : Int → Bool} (h : MapB w b n f) (hn : n < 1000000000000) {k : Int} (hk : N64 k) (v : Bool) :
 ∃ (x : Value) (st : Int) (w1 w2 : World), (Instr.mapEntry 109 (.map (some b)) (.int .i64 k)).run Tryz.prog w = .ok (.tuple #[x, .int .i64 st]) w1 ∧ (Instr.entryStore 109 (.map (some b)) (.int .i64 st) (.bool v)).run Tryz.prog w1 = .ok () w2 ∧
  MapB w2 b (n + 1) (upF f k v) ∧ w.grownBy w2 (some b) ∧ w.grownBy w1 (some b) := by
 obtain ⟨w', hrun, h1, h2⟩ := h.update hn hk v; obtain ⟨D, ⟨es, clock, hb, F, _, _⟩, _⟩ := h; obtain ⟨v0, st, es1, clock1, he, hs⟩ := entry_then keyI Tryz.underlying109 (fun u => zeroB u) hb F (keyI_of hk); have hw1 : (ChangeMaps.setBlock w b (.map es1 clock1)).heap[b]? = some (.map es1 clock1) := ChangeMaps.heap_setBlock_same hb _; obtain ⟨es', clock', r1, r2⟩ := hs _ (.bool v) hw1; rw [setBlock_two] at r1; rw [hrun] at r2; injection r2 with _ r3; subst r3
 exact ⟨v0, st, _, _, he, r1, h1, h2, ⟨rfl, rfl, rfl, by simp [ChangeMaps.setBlock], fun i _ hi => ChangeMaps.heap_setBlock_other hb _ (fun e => hi (by rw [e]))⟩⟩
end Go.Proofs.YtcdlgjhdbmmomaaGreatDoor
namespace Go.Proofs.YtcdlgjhdbmmomaaGreatDoor
open Go.RowKit
theorem rdg_bytes {w : World} {B : Nat} {A : Option Addr} {L : List Int} (h : RdG w B A (intsV .u8 L)) (hb : ∀ x ∈ L, 0 ≤ x ∧ x < 256) : RdB w B A L := by
 refine ⟨hb, fun hn => ?_⟩; obtain ⟨b, o, e, hbb, hc⟩ := h (fun e => hn (List.map_eq_nil_iff.1 e)); exact ⟨b, o, e, hbb, fun j x hx => hc j _ (intsV_at .u8 hx)⟩
theorem own_ptr {w : World} {base size n c : Nat} {e : TypeId} {A : Option Addr} {xs : List Value} (h : w.ownsRow base e size (.slice A n c) n xs) (hn : n ≠ 0) : ∃ g, A = some ⟨g, 0, none⟩ := by
 rcases h.2 with ⟨e, _⟩ | ⟨g, cap, cur, hv, _⟩
 · injection e with _ e2; exact absurd e2 hn
 · injection hv with e1; exact ⟨g, e1⟩
structure Sp where
 p : Int
 z : Int
 i : Ins
def stopsI (i : Ins) : Bool := decide (i.k ≤ 3) || i.k == 24
def branchI (i : Ins) : Bool := decide (18 ≤ i.k) && decide (i.k ≤ 21)
theorem decB_ok {L : List Int} {p : Int} (h : (decB L p).2.2 = 0) : (decB L p).1.chk = 0 ∧ (decB L p).2.1 = sizeK (decB L p).1.k (decB L p).1.l ∧ 0 ≤ p ∧ p + (decB L p).2.1 ≤ L.length := by
 unfold decB at h ⊢
 split at h
 · cases h
 · rename_i h1
   rw [if_neg h1]; simp only at h ⊢
   split at h
   · cases h
   · rename_i h2
     rw [if_neg h2]
     split at h
     · cases h
     · rename_i h3
       rw [if_neg h3]
       split at h
       · rename_i h4
         rw [if_pos h4]; obtain ⟨e1, e2⟩ := insOf_kl (kindOf (L.getD p.toNat 0)).1 (kindOf (L.getD p.toNat 0)).2 (L.getD (p.toNat + 1) 0) (L.getD (p.toNat + 2) 0) (L.getD (p.toNat + 3) 0); exact ⟨h4, by rw [e1, e2], by omega, by simp only; omega⟩
       · cases h
theorem decB_sz {L : List Int} {p : Int} (h : (decB L p).2.2 = 0) : 1 ≤ (decB L p).2.1 ∧ (decB L p).2.1 ≤ 4 := by
 obtain ⟨h1, h2, -⟩ := decB_ok h; rw [h2]; exact sizeK_bd h1
def sweepGo (text : List Int) (en : Int) : Nat → Int → Option (List Sp)
 | 0, _ => some []
 | d + 1, p => if p < en then (if (decB text p).2.2 ≠ 0 ∨ en < p + (decB text p).2.1 then none else (sweepGo text en d (p + (decB text p).2.1)).map (⟨p, (decB text p).2.1, (decB text p).1⟩ :: ·)) else some []
def lastOk (l : List Sp) : Bool := match l.getLast? with | none => false | some s => stopsI s.i || s.i.k == 22
def sweepL (text : List Int) (f : FnD) : Option (List Sp) :=
 match sweepGo text (f.start + f.size) f.size.toNat f.start with
 | none => none
 | some l => if lastOk l then some l else none
def spC (s : Sp) : List Value := [.int .i64 s.p, .int .i64 s.z, .int .i64 s.i.k, .int .i64 s.i.d, .int .i64 s.i.a, .int .i64 s.i.b, .int .i64 s.i.n, .bool s.i.l]
def spsV (l : List Sp) : List Value := l.flatMap spC
theorem spsV_at {l : List Sp} {j : Nat} {s : Sp} (h : l[j]? = some s) (q : Nat) (v : Value) (hv : (spC s)[q]? = some v) : (spsV l)[j * 8 + q]? = some v := by
 have hq : q < 8 := by
  have := (List.getElem?_eq_some_iff.1 hv).1; simpa [spC] using this
 exact flat_at spC 8 (fun _ => rfl) l j s h q v hq hv
theorem spsV_snoc (l : List Sp) (s : Sp) : spsV (l ++ [s]) = spsV l ++ spC s := by simp [spsV]
theorem sweepGo_end (text : List Int) (en : Int) (d : Nat) (p : Int) (h : en ≤ p) : sweepGo text en d p = some [] := by
 cases d with
 | zero => rfl
 | succ d => simp only [sweepGo]; rw [if_neg (by omega)]
theorem sweepGo_succ (text : List Int) (en : Int) : ∀ (d : Nat) (p : Int), en - p ≤ d → sweepGo text en (d + 1) p = sweepGo text en d p := by
 intro d
 induction d with
 | zero => intro p h; rw [sweepGo_end _ _ _ _ (by omega), sweepGo_end _ _ _ _ (by omega)]
 | succ d ih =>
  intro p h; rw [sweepGo]
  conv => rhs; rw [sweepGo]
  split
  · split
    · rfl
    · rename_i hc
      have he : (decB text p).2.2 = 0 := by
       rcases Classical.em ((decB text p).2.2 = 0) with e | e
       · exact e
       · exact absurd (.inl e) hc
      have hz := decB_sz he; rw [ih _ (by omega)]
  · rfl
theorem sweepGo_fuel (text : List Int) (en p : Int) : ∀ d : Nat, (en - p).toNat ≤ d → sweepGo text en d p = sweepGo text en (en - p).toNat p := by
 intro d h; obtain ⟨k, rfl⟩ : ∃ k, d = (en - p).toNat + k := ⟨d - (en - p).toNat, by omega⟩
 clear h
 induction k with
 | zero => rfl
 | succ k ih => rw [← Nat.add_assoc, sweepGo_succ _ _ _ _ (by omega), ih]
theorem sweepGo_ok (text : List Int) (en : Int) : ∀ (d : Nat) (p : Int) (l : List Sp), sweepGo text en d p = some l → (en - p ≤ d) →
 ∀ (j : Nat) (s : Sp), l[j]? = some s → p ≤ s.p ∧ s.p + s.z ≤ en ∧ decB text s.p = (s.i, s.z, 0) := by
 intro d
 induction d with
 | zero => intro p l h _ j s hs; simp only [sweepGo, Option.some.injEq] at h; subst h; simp at hs
 | succ d ih =>
  intro p l h hd j s hs; simp only [sweepGo] at h
  split at h
  · split at h
    · cases h
    · rename_i hc
      have he : (decB text p).2.2 = 0 := by
       rcases Classical.em ((decB text p).2.2 = 0) with e | e
       · exact e
       · exact absurd (.inl e) hc
      have hz := decB_sz he
      have hen : p + (decB text p).2.1 ≤ en := by
       rcases Classical.em (en < p + (decB text p).2.1) with e | e
       · exact absurd (.inr e) hc
       · omega
      obtain ⟨r, hr, rfl⟩ := Option.map_eq_some_iff.1 h
      cases j with
      | zero =>
       simp only [List.getElem?_cons_zero, Option.some.injEq] at hs; subst hs; exact ⟨Int.le_refl _, hen, by rw [← he]⟩
      | succ j =>
       simp only [List.getElem?_cons_succ] at hs; have := ih _ r hr (by omega) j s hs; exact ⟨by omega, this.2⟩
  · simp only [Option.some.injEq] at h; subst h; simp at hs
end Go.Proofs.YtcdlgjhdbmmomaaGreatDoor
namespace Go.Proofs.YtcdlgjhdbmmomaaGreatDoor
open Go.RowKit
set_option maxRecDepth 100000 in
theorem stops_any (k d a b n : Int) (l : Bool) (w : World) : Calls Tryz.prog 84 #[.agg #[.int .i64 k, .int .i64 d, .int .i64 a, .int .i64 b, .int .i64 n, .bool l]] w fun e w' => e = .returned (.bool (stopsI ⟨k, d, a, b, n, l⟩)) ∧ Below w.heap.size w w' := by
 by_cases h3 : k ≤ 3
 · have e : stopsI ⟨k, d, a, b, n, l⟩ = true := by simp [stopsI, h3]
   rw [e]; have q1 : decide (k ≤ 3) = true := by simpa using h3
   go_enter Tryz.func84, Tryz.ntmps84
   go_wp2
   go_ret
   exact ⟨rfl, (Below.refl _ _).alloc lr' _⟩
 · have q1 : decide (k ≤ 3) = false := by simpa using h3
   have e : stopsI ⟨k, d, a, b, n, l⟩ = (k == 24) := by simp [stopsI, h3]
   rw [e]
   go_enter Tryz.func84, Tryz.ntmps84
   go_wp2
   go_ret
   exact ⟨rfl, (Below.refl _ _).alloc lr' _⟩
set_option maxRecDepth 100000 in
theorem branch_any (k d a b n : Int) (l : Bool) (w : World) : Calls Tryz.prog 85 #[.agg #[.int .i64 k, .int .i64 d, .int .i64 a, .int .i64 b, .int .i64 n, .bool l]] w fun e w' => e = .returned (.bool (branchI ⟨k, d, a, b, n, l⟩)) ∧ Below w.heap.size w w' := by
 by_cases h3 : 18 ≤ k
 · have e : branchI ⟨k, d, a, b, n, l⟩ = decide (k ≤ 21) := by simp [branchI, h3]
   rw [e]; have q1 : decide (18 ≤ k) = true := by simpa using h3
   go_enter Tryz.func85, Tryz.ntmps85
   go_wp2
   go_ret
   exact ⟨rfl, (Below.refl _ _).alloc lr' _⟩
 · have q1 : decide (18 ≤ k) = false := by simpa using h3
   have e : branchI ⟨k, d, a, b, n, l⟩ = false := by simp [branchI, h3]
   rw [e]
   go_enter Tryz.func85, Tryz.ntmps85
   go_wp2
   go_ret
   exact ⟨rfl, (Below.refl _ _).alloc lr' _⟩
theorem infoSp : (Tryz.prog.info? 119).map (fun i => (i.zero, i.size, i.bytes)) = some (some (.agg #[.int .i64 0, .int .i64 0, .int .i64 0, .int .i64 0, .int .i64 0, .int .i64 0, .int .i64 0, .bool false]), 8, 64) := by kernel_rfl
def SweepPost (w : World) (R : Option (List Sp)) (e : Ending) (w' : World) : Prop :=
 Below w.heap.size w w' ∧ (R = none → e = .returned (.tuple #[.slice none 0 0, .int .i64 9])) ∧ ∀ l, R = some l → ∃ A c, e = .returned (.tuple #[.slice A l.length c, .int .i64 0]) ∧ w'.ownsRow w.heap.size 119 8 (.slice A l.length c) l.length (spsV l)
set_option maxHeartbeats 4000000 in
set_option maxRecDepth 100000 in
theorem sweep_any (m : Img) (v : ImgV) (f : FnD) (w : World) (hT : Tabs w) (hI : ImgRd w w.heap.size m v) (hO : ImgOk m v) (h0 : 0 ≤ f.start) (h1 : 1 ≤ f.size) (h2 : f.start + f.size ≤ m.text.length) (h8 : m.text.length ≤ 8000) :
 Calls Tryz.prog 56 #[.agg (m.val v), .agg #[.string f.name, .int .i64 f.start, .int .i64 f.size]] w (SweepPost w (sweepL m.text f)) := by
 obtain ⟨R, hR⟩ := ex' (sweepL m.text f)
 rw [hR]; unfold sweepL at hR; obtain ⟨G, hG⟩ := ex' (sweepGo m.text (f.start + f.size) f.size.toNat f.start)
 rw [hG] at hR; obtain ⟨en, hen⟩ := ex' (f.start + f.size)
 rw [hen] at h2 hG; obtain ⟨name, st, sz⟩ := f; simp only at *; obtain ⟨tA, tc, fA, fc, bA, bc, dA, dc, lA, lc⟩ := v; have HI := hd' hI; have HO := hd' hO; have HT := hd' hT; have HR := hd' hR; have htc := hO.tc
 have HG : Hid ((sweepGo m.text en (en - st).toNat st).map (([] : List Sp) ++ ·) = G) := hd' (by
  rw [show (en - st).toNat = sz.toNat by omega, hG]
  cases G <;> rfl)
 obtain ⟨T, hTe⟩ := ex' m.text.length
 unfold Img.val; simp only; rw [hTe] at h2 h8 ⊢; simp only at htc; rw [hTe] at htc; have HTE := hd' hTe; have hen2 : st + sz = en := hen; have hsten : st ≤ en := by omega
 have hsb : st + sz ≤ 8000 := by omega
 have hsb0 : 0 ≤ st + sz := by omega
 have HEN := hd' hen2; clear hI hO hT hR hG hTe hen hen2
 go_enter Tryz.func56, Tryz.ntmps56
 go_wp2
 rw [HEN.out]; clear hsb hsb0; obtain ⟨W0, hW0⟩ := ex' ((w.alloc (.cells #[.slice tA T tc, .slice fA m.funcs.length fc, .slice bA m.tables.length bc, .slice dA m.data.length dc, .slice lA m.lines.length lc, .int .i64 m.entry] 30)).alloc (.cells #[.string name, .int .i64 st, .int .i64 sz] 114))
 rw [hW0]; have hx0 : Blk W0 w.heap.size 30 [.slice tA T tc, .slice fA m.funcs.length fc, .slice bA m.tables.length bc, .slice dA m.data.length dc, .slice lA m.lines.length lc, .int .i64 m.entry] := by rw [← hW0]; exact (Blk.new w _ _).alloc _
 have hB0 : Below w.heap.size w W0 := by rw [← hW0]; exact ((Below.refl _ _).alloc lr' _).alloc (by simp) _
 have HX0 := hd' hx0; have HB0 := hd' hB0; have hz0 := hx0.lt; clear hW0 hx0 hB0
 go_loopg [6, 8] (en - st).toNat (fun gk s6 s8 wr => ∃ (p : Int) (acc : List Sp) (n : Nat) (A : Option Addr) (c : Nat), s8 = .int .i64 p ∧ s6 = .slice A n c ∧ st ≤ p ∧ p ≤ en ∧ (n : Int) ≤ p - st ∧ Hid (acc.length = n) ∧ Hid (wr.ownsRow W0.heap.size 119 8 (.slice A n c) n (spsV acc)) ∧ Hid (Below W0.heap.size W0 wr) ∧ Hid ((sweepGo m.text en (en - p).toNat p).map (acc ++ ·) = G) ∧ Hid (n = 0 → p = st) ∧ (en - p).toNat ≤ gk)
 case atStart => exact ⟨st, [], 0, none, 0, rfl, rfl, Int.le_refl _, by omega, by simp, hd' rfl, ⟨rfl, .inl ⟨rfl, rfl⟩⟩, Below.refl _ _, HG.out, hd' (fun _ => rfl), Nat.le_refl _⟩
 case round =>
  obtain ⟨p, acc, n, A, c, rfl, rfl, hp1, hp2, hnp, HAL, HOW, HBW, HGO, HN0, hgk⟩ := hrel; have hs := HBW.out.size; have hbx := HX0.out.keep HBW.out; have x0 := hbx.cell 0 rfl; have xl := hbx.lt; have HWw : Hid (Below w.heap.size w wr) := hd' (HB0.out.trans (HBW.out.mono HB0.out.size))
  by_cases hlt : p < en
  · obtain ⟨⟨⟨ik, id, ia, ib, iN, il⟩, z, er⟩, hde⟩ := ex' (decB m.text p)
    have hdc := decode_any m.text tA T tc p wr (HT.out.below HWw.out) HTE.out.symm (rdg_bytes ((HI.out.text.below HWw.out).more HWw.out.size) HO.out.tb) (by omega) htc; rw [hde] at hdc; have HDC := hd' hdc; have hgo := HGO.out; rw [show (en - p).toNat = (en - (p + 1)).toNat + 1 by omega] at hgo; simp only [sweepGo] at hgo; rw [if_pos hlt, hde] at hgo; simp only at hgo
    by_cases her : er = 0
    · subst her; have hok := decB_ok (show (decB m.text p).2.2 = 0 by rw [hde]); have hsz := decB_sz (show (decB m.text p).2.2 = 0 by rw [hde]); rw [hde] at hok hsz; simp only at hok hsz; obtain ⟨z1, z2⟩ := hsz
      by_cases hov : en < p + z
      · rw [if_pos (.inr hov)] at hgo
        have HRN : Hid (R = none) := hd' (by
         have h := HR.out; rw [← hgo] at h
         exact h.symm)
        clear hdc hde hgo hok hbx HGO; unfold decV Ins.cells at HDC; simp only at HDC
        go_wp2_with fail
        refine HDC.out.mono ?_; rintro e w2 ⟨rfl, hb2⟩; have HB2 := hd' (HWw.out.trans (hb2.mono HWw.out.size)); have hs2 := HB2.out.size; clear hb2
        go_wp2
        go_ret2
        exact ⟨HB2.out.alloc HB2.out.size _, fun _ => rfl, fun l hl => by rw [HRN.out] at hl; cases hl⟩
      · rw [if_neg (by omega)] at hgo
        have HGN : Hid ((sweepGo m.text en (en - (p + z)).toNat (p + z)).map ((acc ++ [⟨p, z, ⟨ik, id, ia, ib, iN, il⟩⟩]) ++ ·) = G) := hd' (by
         rw [← hgo]; rw [sweepGo_fuel m.text en (p + z) (en - (p + 1)).toNat (by omega), Option.map_map]
         congr 1
         funext r
         simp)
        clear hdc hde hgo hok hbx HGO; unfold decV Ins.cells at HDC; simp only at HDC
        go_wp2_with fail
        refine HDC.out.mono ?_; rintro e w2 ⟨rfl, hb2⟩; have HO2 : Hid (w2.ownsRow W0.heap.size 119 8 (.slice A n c) n (spsV acc)) := hd' (own_keep HOW.out hb2); have HB2 := hd' (HBW.out.trans (hb2.mono HBW.out.size)); have hs2 := HB2.out.size; clear hb2
        go_wp2_with (first | (refine app_one rfl _ _ 115 119 8 64 _ Tryz.underlying115 infoSp rfl (by decide) rfl W0.heap.size _ n _ rfl (World.ownsRow.alloc (World.ownsRow.alloc HO2.out _) _) (w2.heap.size + 1) 1 rfl [.int .i64 p, .int .i64 z, .int .i64 ik, .int .i64 id, .int .i64 ia, .int .i64 ib, .int .i64 iN, .bool il] 119 (0, 0) (heap_alloc2_new w2 _ _) rfl (by simp [Value.oneCell']) (by omega) (by omega) (by simp; omega) (w2.heap.size + 1 + 1) (by simp) ?a1))
        case a1 =>
         intro g3 c3 w3 ho3 hgr3 hat3 hlt3; have hb3 : Below W0.heap.size w2 w3 := ((((Below.refl w2.heap.size w2).alloc lr' _).alloc (by simp) _).mono hs2).trans (gb_below_of hgr3 (fun q hq => (World.ownsRow.lt HO2.out q hq).1) (by simp; omega)); have HO3 := hd' ho3; have HB3 := hd' (HB2.out.trans hb3); clear ho3 hgr3 hat3 hb3
         go_wp2
         go_roundg (en - (p + z)).toNat
         case measure => omega
         case rel =>
          refine ⟨p + z, acc ++ [⟨p, z, ⟨ik, id, ia, ib, iN, il⟩⟩], n + 1, some ⟨g3, 0, none⟩, c3, rfl, rfl, by omega, by omega, by omega, hd' (by rw [List.length_append, HAL.out]; rfl), hd' ?_, HB3, HGN, hd' (fun h => by omega), Nat.le_refl _⟩; rw [spsV_snoc]; exact HO3.out
    · have q1 : (er != 0) = true := by simpa using her
      rw [if_pos (.inl her)] at hgo
      have HRN : Hid (R = none) := hd' (by
       have h := HR.out; rw [← hgo] at h
       exact h.symm)
      clear hdc hde hgo hbx HGO her; unfold decV Ins.cells at HDC; simp only at HDC
      go_wp2_with fail
      refine HDC.out.mono ?_; rintro e w2 ⟨rfl, hb2⟩; have HB2 := hd' (HWw.out.trans (hb2.mono HWw.out.size)); have hs2 := HB2.out.size; clear hb2
      go_wp2
      go_ret2
      exact ⟨HB2.out.alloc HB2.out.size _, fun _ => rfl, fun l hl => by rw [HRN.out] at hl; cases hl⟩
  · have hgo := HGO.out; rw [sweepGo_end _ _ _ _ (by omega)] at hgo; simp only [Option.map_some, List.append_nil] at hgo; have hr := HR.out; rw [← hgo] at hr; simp only at hr; have hn0 : n ≠ 0 := fun e => by have := HN0.out e; have := HEN.out; omega
    obtain ⟨k, rfl⟩ : ∃ k, n = k + 1 := ⟨n - 1, by omega⟩
    have hsk : acc[k]? = some (acc[k]'(by rw [HAL.out]; omega)) := gE' _; obtain ⟨⟨sp, sz', ⟨ik, id, ia, ib, iN, il⟩⟩, hse⟩ := ex' (acc[k]'(by rw [HAL.out]; omega))
    rw [hse] at hsk
    have hlast : acc.getLast? = some ⟨sp, sz', ⟨ik, id, ia, ib, iN, il⟩⟩ := by
     rw [List.getLast?_eq_getElem?, HAL.out]; exact hsk
    unfold lastOk at hr; rw [hlast] at hr; simp only at hr; obtain ⟨g, rfl⟩ := own_ptr HOW.out (by omega); obtain ⟨o1, o2, o3, o4⟩ := own_at HOW.out; have d2 := o4 _ _ (spsV_at hsk 2 _ rfl); have d3 := o4 _ _ (spsV_at hsk 3 _ rfl); have d4 := o4 _ _ (spsV_at hsk 4 _ rfl); have d5 := o4 _ _ (spsV_at hsk 5 _ rfl); have d6 := o4 _ _ (spsV_at hsk 6 _ rfl); have d7 := o4 _ _ (spsV_at hsk 7 _ rfl); have hk1 : ((k + 1 : Nat) : Int) - 1 = (k : Int) := by omega
    have hkI : (k : Int) < ((k + 1 : Nat) : Int) := by omega
    have HEND : Hid (∀ e w', (lastOk acc = false → e = .returned (.tuple #[.slice none 0 0, .int .i64 9])) → (lastOk acc = true → e = .returned (.tuple #[.slice (some ⟨g, 0, none⟩) (k + 1) c, .int .i64 0])) → Below wr.heap.size wr w' → SweepPost w R e w') := hd' fun e w' h1 h2 hb => by
     have hb0 := HWw.out.trans (hb.mono HWw.out.size); have hrr := HR.out; rw [← hgo] at hrr; simp only at hrr
     by_cases hl : lastOk acc = true
     · rw [if_pos hl] at hrr; refine ⟨hb0, fun h => (by rw [← hrr] at h; cases h), fun l hl2 => ?_⟩; rw [← hrr] at hl2; simp only [Option.some.injEq] at hl2; subst hl2; refine ⟨some ⟨g, 0, none⟩, c, ?_, ?_⟩
       · rw [HAL.out]; exact h2 hl
       · rw [HAL.out]; exact own_more (own_keep HOW.out hb) HB0.out.size
     · rw [if_neg hl] at hrr; exact ⟨hb0, fun _ => h1 (by simpa using hl), fun l hl2 => by rw [← hrr] at hl2; cases hl2⟩
    have HLA : Hid (lastOk acc = (stopsI ⟨ik, id, ia, ib, iN, il⟩ || ik == 22)) := hd' (by unfold lastOk; rw [hlast]); clear hr hgo hse hsk hlast hbx HR
    by_cases hst : stopsI ⟨ik, id, ia, ib, iN, il⟩ = true
    · have HS : Hid (∀ W, Calls Tryz.prog 84 #[.agg #[.int .i64 ik, .int .i64 id, .int .i64 ia, .int .i64 ib, .int .i64 iN, .bool il]] W fun e w' => e = .returned (.bool true) ∧ Below W.heap.size W w') := hd' fun W => by rw [← hst]; exact stops_any _ _ _ _ _ _ W
      have HLT : Hid (lastOk acc = true) := hd' (by rw [HLA.out, hst]; rfl); clear hst
      go_wp2_with fail
      refine (HS.out _).mono ?_; rintro e w2 ⟨rfl, hb2⟩; have HB2 : Hid (Below wr.heap.size wr w2) := hd' (((Below.refl wr.heap.size wr).alloc lr' _).trans (hb2.mono (by simp))); clear hb2
      go_wp2
      go_ret2
      exact HEND.out _ _ (fun h => by rw [HLT.out] at h; cases h) (fun _ => rfl) HB2.out
    · have hst2 : stopsI ⟨ik, id, ia, ib, iN, il⟩ = false := by simpa using hst
      have HS : Hid (∀ W, Calls Tryz.prog 84 #[.agg #[.int .i64 ik, .int .i64 id, .int .i64 ia, .int .i64 ib, .int .i64 iN, .bool il]] W fun e w' => e = .returned (.bool false) ∧ Below W.heap.size W w') := hd' fun W => by rw [← hst2]; exact stops_any _ _ _ _ _ _ W
      have HLT : Hid (lastOk acc = (ik == 22)) := hd' (by rw [HLA.out, hst2]; rfl); clear hst hst2
      go_wp2_with fail
      refine (HS.out _).mono ?_; rintro e w2 ⟨rfl, hb2⟩; have hy := (hb2.block wr.heap.size (by simp)).trans (heap_alloc_new wr _); have y0 := cell_of_row _ _ 0 _ _ _ hy; simp only [List.getElem?_toArray, List.getElem?_cons_zero] at y0; have HB2 : Hid (Below wr.heap.size wr w2) := hd' (((Below.refl wr.heap.size wr).alloc lr' _).trans (hb2.mono (by simp))); clear hb2 hy
      by_cases hk22 : ik = 22
      · have q1 : (ik != 22) = false := by simp [hk22]
        have HK := hd' hk22; clear hk22
        go_wp2
        go_ret2
        exact HEND.out _ _ (fun h => by rw [HLT.out, HK.out] at h; cases h) (fun _ => rfl) HB2.out
      · have q1 : (ik != 22) = true := by simpa using hk22
        have HK := hd' hk22; clear hk22
        go_wp2
        go_ret2
        exact HEND.out _ _ (fun _ => rfl) (fun h => absurd (by rw [HLT.out] at h; simpa using h) HK.out) HB2.out
end Go.Proofs.YtcdlgjhdbmmomaaGreatDoor
