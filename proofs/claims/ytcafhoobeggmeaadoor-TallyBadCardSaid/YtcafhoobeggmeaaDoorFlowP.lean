/- flow: what a function's sweep finds. -/
import Derived.Test.YtcafhoobeggmeaaDoorAppG
import Derived.Maps.OwnSet
import Derived.Maps.OwnOps
import Derived.WideKeyEntry
import Derived.Test.YtcafhoobeggmeaaDoorKeepD
import Derived.Test.YtcafhoobeggmeaaDoorImgE
namespace Go.Proofs.YtcafhoobeggmeaaDoor
open Go.RowKit Go.Maps
theorem keyI : Keyed Tryd.prog 3 := int_keyed Tryd.underlying3
theorem zeroI (w : World) : (zeroValue 3).run Tryd.prog w = .ok (.int .i64 0) w := by kernel_rfl
theorem zeroB (w : World) : (zeroValue 4).run Tryd.prog w = .ok (.bool false) w := by kernel_rfl
theorem wf64 {n : Int} (h : N64 n) : (Lit.int .i64 n).wf = true := WalkArith.wf_i64 (by obtain ⟨h1, h2⟩ := h; omega)
theorem keyI_of {n : Int} (h : N64 n) : keyOf Tryd.prog 3 (.int .i64 n) = some (.int .i64 n) := keyOf_int_mk Tryd.underlying3 (wf64 h)
def MapI (w : World) (b n : Nat) (f : Int → Option Int) : Prop :=
 ∃ D : DataW Unit, w.ownsMap Tryd.prog 3 (plainElem Tryd.prog 3) b n D ∧ ∀ k, Maps.has D (.int .i64 k) = (f k).isSome ∧ D.atKey (.int .i64 k) (.lit (.int .i64 0)) = .lit (.int .i64 ((f k).getD 0))
def MapB (w : World) (b n : Nat) (f : Int → Bool) : Prop :=
 ∃ D : DataW Unit, w.ownsMap Tryd.prog 3 (plainElem Tryd.prog 4) b n D ∧ ∀ k, D.atKey (.int .i64 k) (.lit (.bool false)) = .lit (.bool (f k))
def upF {α : Type} (f : Int → α) (k : Int) (v : α) : Int → α := fun x => if x = k then v else f x
theorem MapI.lt {w : World} {b n : Nat} {f : Int → Option Int} (h : MapI w b n f) : b < w.heap.size := by obtain ⟨D, h, _⟩ := h; exact h.lt
theorem MapB.lt {w : World} {b n : Nat} {f : Int → Bool} (h : MapB w b n f) : b < w.heap.size := by obtain ⟨D, h, _⟩ := h; exact h.lt
theorem MapI.gb {w w' : World} {b n : Nat} {row : Option Nat} {f : Int → Option Int} (h : MapI w b n f) (hg : w.grownBy w' row) (hne : row ≠ some b) : MapI w' b n f := by
 obtain ⟨D, h, hf⟩ := h; exact ⟨D, h.kept hg (fun e => hne e.symm), hf⟩
theorem MapB.gb {w w' : World} {b n : Nat} {row : Option Nat} {f : Int → Bool} (h : MapB w b n f) (hg : w.grownBy w' row) (hne : row ≠ some b) : MapB w' b n f := by
 obtain ⟨D, h, hf⟩ := h; exact ⟨D, h.kept hg (fun e => hne e.symm), hf⟩
theorem MapI.keep {w w' : World} {b n : Nat} {f : Int → Option Int} (h : MapI w b n f) (hb : Below w.heap.size w w') : MapI w' b n f := h.gb (row := none) (gb_below hb) (by simp)
theorem MapB.keep {w w' : World} {b n : Nat} {f : Int → Bool} (h : MapB w b n f) (hb : Below w.heap.size w w') : MapB w' b n f := h.gb (row := none) (gb_below hb) (by simp)
theorem MapI.mono {w : World} {b n n' : Nat} {f : Int → Option Int} (h : MapI w b n f) (hn : n ≤ n') : MapI w b n' f := by
 obtain ⟨D, h, hf⟩ := h; exact ⟨D, h.mono hn, hf⟩
theorem MapB.mono {w : World} {b n n' : Nat} {f : Int → Bool} (h : MapB w b n f) (hn : n ≤ n') : MapB w b n' f := by
 obtain ⟨D, h, hf⟩ := h; exact ⟨D, h.mono hn, hf⟩
theorem MapI.made (w : World) : MapI (w.alloc (.map #[] 0)) w.heap.size 0 (fun _ => none) :=
 ⟨.map [], World.ownsMap_made w _ _ _, fun _ => ⟨rfl, rfl⟩⟩
theorem MapB.made (w : World) : MapB (w.alloc (.map #[] 0)) w.heap.size 0 (fun _ => false) :=
 ⟨.map [], World.ownsMap_made w _ _ _, fun _ => rfl⟩
theorem MapI.look_ok {w : World} {b n : Nat} {f : Int → Option Int} (h : MapI w b n f) {k : Int} (hk : N64 k) :
 (Instr.lookup 69 (.map (some b)) (.int .i64 k) true).run Tryd.prog w = .ok (.tuple #[.int .i64 ((f k).getD 0), .bool (f k).isSome]) w := by
 obtain ⟨D, ho, hf⟩ := h; obtain ⟨v, ps, hrun, hv⟩ := ho.look_ok keyI Tryd.underlying69 (zeroI w) (plainElem_int (q := .i64) Tryd.underlying3 (by decide)) (keyI_of hk); obtain ⟨c, rfl, hc, hwc⟩ := plainElem_int_inv Tryd.underlying3 hv; rw [hrun, (hf k).1]; have := congrArg Prod.fst hc; rw [(hf k).2] at this; simp only [DataW.lit.injEq, Lit.int.injEq, true_and] at this; rw [this]
theorem MapI.look {w : World} {b n : Nat} {f : Int → Option Int} (h : MapI w b n f) {k : Int} (hk : N64 k) :
 (Instr.lookup 69 (.map (some b)) (.int .i64 k) false).run Tryd.prog w = .ok (.int .i64 ((f k).getD 0)) w := by
 obtain ⟨D, ho, hf⟩ := h; obtain ⟨c, hrun, hc, hwc⟩ := ho.lookup_int keyI Tryd.underlying69 Tryd.underlying3 (zeroI w) (keyI_of hk); rw [hrun]; rw [(hf k).2] at hc; simp only [DataW.lit.injEq, Lit.int.injEq, true_and] at hc; rw [hc]
theorem plainElem_bool_inv {P : Program} {e : TypeId} (he : P.underlying e = some .bool) {v : Value} {z : DataW Unit × List MemPlace} (h : plainElem P e v = some z) : ∃ x, v = .bool x ∧ z = (.lit (.bool x), []) := by
 cases v <;> simp [plainElem, he] at h
 exact ⟨_, rfl, h.symm⟩
theorem MapB.look {w : World} {b n : Nat} {f : Int → Bool} (h : MapB w b n f) {k : Int} (hk : N64 k) :
 (Instr.lookup 120 (.map (some b)) (.int .i64 k) false).run Tryd.prog w = .ok (.bool (f k)) w := by
 obtain ⟨D, ho, hf⟩ := h; obtain ⟨v, ps, hrun, hv⟩ := ho.lookup keyI Tryd.underlying120 (zeroB w) (plainElem_bool Tryd.underlying4 false) (keyI_of hk); obtain ⟨x, rfl, hx⟩ := plainElem_bool_inv Tryd.underlying4 hv; rw [hrun]; have := congrArg Prod.fst hx; rw [hf k] at this; simp only [DataW.lit.injEq, Lit.bool.injEq] at this; rw [this]
theorem lit_ne {j k : Int} (h : j ≠ k) : (Lit.int .i64 j) ≠ .int .i64 k := fun e => by injection e; contradiction
theorem lit_key (k : Int) : WideAt.IsKeyLit (.int .i64 k) := by simp [WideAt.IsKeyLit]
theorem MapI.update {w : World} {b n : Nat} {f : Int → Option Int} (h : MapI w b n f) (hn : n < 1000000000000) {k v : Int} (hk : N64 k) (hv : N64 v) :
 ∃ w', (Instr.mapUpdate 69 (.map (some b)) (.int .i64 k) (.int .i64 v)).run Tryd.prog w = .ok () w' ∧ MapI w' b (n + 1) (upF f k (some v)) ∧ w.grownBy w' (some b) := by
 obtain ⟨D, ho, hf⟩ := h; obtain ⟨w', hrun, ho', hg⟩ := ho.update keyI Tryd.underlying69 (by unfold maxLen; omega) (keyI_of hk) (plainElem_int (q := .i64) Tryd.underlying3 (wf64 hv)); refine ⟨w', hrun, ⟨_, ho', fun j => ?_⟩, hg⟩; have hm := ho.isMap; unfold upF
 by_cases e : j = k
 · subst e; rw [if_pos rfl]; exact ⟨has_put_same hm (lit_key j) _, atKey_put_same hm (lit_key j) _ _⟩
 · rw [if_neg e]; exact ⟨(has_put_other (lit_ne e) _).trans (hf j).1, (atKey_put_other (lit_ne e) _ _).trans (hf j).2⟩
theorem MapB.update {w : World} {b n : Nat} {f : Int → Bool} (h : MapB w b n f) (hn : n < 1000000000000) {k : Int} (hk : N64 k) (v : Bool) :
 ∃ w', (Instr.mapUpdate 120 (.map (some b)) (.int .i64 k) (.bool v)).run Tryd.prog w = .ok () w' ∧ MapB w' b (n + 1) (upF f k v) ∧ w.grownBy w' (some b) := by
 obtain ⟨D, ho, hf⟩ := h; obtain ⟨w', hrun, ho', hg⟩ := ho.update keyI Tryd.underlying120 (by unfold maxLen; omega) (keyI_of hk) (plainElem_bool Tryd.underlying4 v); refine ⟨w', hrun, ⟨_, ho', fun j => ?_⟩, hg⟩; have hm := ho.isMap; unfold upF
 by_cases e : j = k
 · subst e; rw [if_pos rfl]; exact atKey_put_same hm (lit_key j) _ _
 · rw [if_neg e]; exact (atKey_put_other (lit_ne e) _ _).trans (hf j)
section
variable {w : World} {ops : Array Oper} {rest : List Oper} {o : Oper} {a : Act} {K : Act → World → Prop} {Q : Exit → Act → World → Prop} {E : Prop}
end
section
open Go.ChangeShapes Go.WideShapes Go.MapKept Go.ChangeMaps
open Go.WideElems (Fit findIdx_born findIdx_arr modify_last set_self)
variable {H : Type} {P : Program} {w : World} {t k e : TypeId} {R : Value → Option (DataW H × List MemPlace)} {b : Nat} {es : Array MapEntry} {clock : Nat}
theorem entry_then (K : Keyed P k) (ht : P.underlying t = some (.map k e)) {z : Value} (hz : ∀ u : World, (zeroValue e).run P u = .ok z u) (hb : w.heap[b]? = some (.map es clock)) (F : Fit P k R es clock)
 {key : Value} {kl : Lit} (hkey : keyOf P k key = some kl) :
 ∃ (v0 : Value) (st : Nat) (es1 : Array MapEntry) (clock1 : Nat), (Instr.mapEntry t (.map (some b)) key).run P w = .ok (.tuple #[v0, goInt st]) (setBlock w b (.map es1 clock1)) ∧
  ∀ (w2 : World) (val : Value), w2.heap[b]? = some (.map es1 clock1) → ∃ es' clock', (Instr.entryStore t (.map (some b)) (goInt st) val).run P w2 = .ok () (setBlock w2 b (.map es' clock')) ∧
   (Instr.mapUpdate t (.map (some b)) key val).run P w = .ok () (setBlock w b (.map es' clock')) := by
 obtain ⟨s1, s2, _⟩ := F.stamped; rcases K.find w hkey es.toList F.keys with ⟨h1, h2⟩ | ⟨j, e0, h1, h2, h3⟩
 · refine ⟨z, clock, es.push ⟨key, z, clock⟩, clock + 1, ?_, fun w2 val hw2 => ⟨es.push ⟨key, val, clock⟩, clock + 1, ?_, ?_⟩⟩
   · simp [Instr.mapEntry, run_underlying ht, MapKept.run_getObj_map hb, K.check w false hkey, h1, hz, MapKept.run_setObj_map _ hb, Result.andThen, setBlock]
   · have hidx : (es.push ⟨key, z, clock⟩).findIdx? (fun e => ((e.born : Nat) : Int) == ((clock : Nat) : Int)) = some es.size := by
      rw [findIdx_arr]
      have := findIdx_born (l := (es.push ⟨key, z, clock⟩).toList) (j := es.size) (e0 := ⟨key, z, clock⟩) (by
       simp only [Array.toList_push, List.map_append, List.map_cons, List.map_nil]; refine List.nodup_append.2 ⟨s2, by simp, fun a ha c hc e1 => ?_⟩; simp only [List.mem_singleton] at hc; obtain ⟨x, hx, rfl⟩ := List.mem_map.1 ha; have := s1 x hx
       omega) (by simp)
      exact this
     have hmod : (es.push ⟨key, z, clock⟩).modify es.size (fun e => { e with val := val }) = es.push ⟨key, val, clock⟩ := by
      apply Array.ext'; rw [Array.toList_modify, Array.toList_push, Array.toList_push, ← Array.length_toList, modify_last]
     simp [Instr.entryStore, MapKept.run_getObj_map hw2, asInt, asIntOf, goInt, hidx, hmod, MapKept.run_setObj_map _ hw2, Result.andThen, setBlock]
   · simp [Instr.mapUpdate, run_underlying ht, MapKept.run_getObj_map hb, K.check w false hkey, h1, MapKept.run_setObj_map _ hb, Result.andThen, setBlock]
 · have hj : es[j]? = some e0 := by simpa using h2
   have hsame : es.modify j (fun e => { e with key := key }) = es := by
    apply Array.ext'; rw [Array.toList_modify, modify_eq_set _ _ _ _ h2]; have : ({ e0 with key := key } : MapEntry) = e0 := by rw [← h3]
    rw [this]; exact set_self _ _ _ h2
   refine ⟨e0.val, e0.born, es, clock, ?_, fun w2 val hw2 => ⟨es.modify j (fun e' => { e' with key := key, val := val }), clock, ?_, ?_⟩⟩
   · simp [Instr.mapEntry, run_underlying ht, MapKept.run_getObj_map hb, K.check w false hkey, h1, hj, h3, K.stays w hkey, hsame, MapKept.run_setObj_map _ hb, Result.andThen, setBlock]
   · have hidx : es.findIdx? (fun e => ((e.born : Nat) : Int) == ((e0.born : Nat) : Int)) = some j := by
      rw [findIdx_arr]; exact findIdx_born s2 h2
     have hmod : es.modify j (fun e => { e with val := val }) = es.modify j (fun e' => { e' with key := key, val := val }) := by
      apply Array.ext'; rw [Array.toList_modify, Array.toList_modify, modify_eq_set _ _ _ _ h2, modify_eq_set _ _ _ _ h2, ← h3]
     simp [Instr.entryStore, MapKept.run_getObj_map hw2, asInt, asIntOf, goInt, hidx, hmod, MapKept.run_setObj_map _ hw2, Result.andThen, setBlock]
   · simp [Instr.mapUpdate, run_underlying ht, MapKept.run_getObj_map hb, K.check w false hkey, h1, hj, h3, K.stays w hkey, MapKept.run_setObj_map _ hb, Result.andThen, setBlock]
theorem setBlock_two (w : World) (b : Nat) (o o' : Obj) : setBlock (setBlock w b o) b o' = setBlock w b o' := by
 unfold setBlock; simp
end
theorem MapB.entry {w : World} {b n : Nat} {f : Int → Bool} (h : MapB w b n f) (hn : n < 1000000000000) {k : Int} (hk : N64 k) (v : Bool) :
 ∃ (x : Value) (st : Int) (w1 w2 : World), (Instr.mapEntry 120 (.map (some b)) (.int .i64 k)).run Tryd.prog w = .ok (.tuple #[x, .int .i64 st]) w1 ∧ (Instr.entryStore 120 (.map (some b)) (.int .i64 st) (.bool v)).run Tryd.prog w1 = .ok () w2 ∧
  MapB w2 b (n + 1) (upF f k v) ∧ w.grownBy w2 (some b) ∧ w.grownBy w1 (some b) := by
 obtain ⟨w', hrun, h1, h2⟩ := h.update hn hk v; obtain ⟨D, ⟨es, clock, hb, F, _, _⟩, _⟩ := h; obtain ⟨v0, st, es1, clock1, he, hs⟩ := entry_then keyI Tryd.underlying120 (fun u => zeroB u) hb F (keyI_of hk); have hw1 : (ChangeMaps.setBlock w b (.map es1 clock1)).heap[b]? = some (.map es1 clock1) := ChangeMaps.heap_setBlock_same hb _; obtain ⟨es', clock', r1, r2⟩ := hs _ (.bool v) hw1; rw [setBlock_two] at r1; rw [hrun] at r2; injection r2 with _ r3; subst r3
 exact ⟨v0, st, _, _, he, r1, h1, h2, ⟨rfl, rfl, rfl, by simp [ChangeMaps.setBlock], fun i _ hi => ChangeMaps.heap_setBlock_other hb _ (fun e => hi (by rw [e]))⟩⟩
end Go.Proofs.YtcafhoobeggmeaaDoor
namespace Go.Proofs.YtcafhoobeggmeaaDoor
open Go.RowKit
theorem rdg_bytes {w : World} {B : Nat} {A : Option Addr} {L : List Int} (h : RdG w B A (intsV .u8 L)) (hb : ∀ x ∈ L, 0 ≤ x ∧ x < 256) : RdB w B A L := by
 refine ⟨hb, fun hn => ?_⟩; obtain ⟨b, o, e, hbb, hc⟩ := h (fun e => hn (List.map_eq_nil_iff.1 e)); exact ⟨b, o, e, hbb, fun j x hx => hc j _ (intsV_at .u8 hx)⟩
theorem own_ptr {w : World} {base size n c : Nat} {e : TypeId} {A : Option Addr} {xs : List Value} (h : w.ownsRow base e size (.slice A n c) n xs) (hn : n ≠ 0) : ∃ g, A = some ⟨g, 0, none⟩ := by
 rcases h.2 with ⟨e, _⟩ | ⟨g, cap, cur, hv, _⟩
 · injection e with _ e2; exact absurd e2 hn
 · injection hv with e1; exact ⟨g, e1⟩
structure Sp where
 p : Int
 z : Int
 i : Ins
def stopsI (i : Ins) : Bool := decide (i.k ≤ 3) || i.k == 24
def branchI (i : Ins) : Bool := decide (18 ≤ i.k) && decide (i.k ≤ 21)
theorem decB_ok {L : List Int} {p : Int} (h : (decB L p).2.2 = 0) : (decB L p).1.chk = 0 ∧ (decB L p).2.1 = sizeK (decB L p).1.k (decB L p).1.l ∧ 0 ≤ p ∧ p + (decB L p).2.1 ≤ L.length := by
 unfold decB at h ⊢
 split at h
 · cases h
 · rename_i h1
   rw [if_neg h1]; simp only at h ⊢
   split at h
   · cases h
   · rename_i h2
     rw [if_neg h2]
     split at h
     · cases h
     · rename_i h3
       rw [if_neg h3]
       split at h
       · rename_i h4
         rw [if_pos h4]; obtain ⟨e1, e2⟩ := insOf_kl (kindOf (L.getD p.toNat 0)).1 (kindOf (L.getD p.toNat 0)).2 (L.getD (p.toNat + 1) 0) (L.getD (p.toNat + 2) 0) (L.getD (p.toNat + 3) 0); exact ⟨h4, by rw [e1, e2], by omega, by simp only; omega⟩
       · cases h
theorem decB_sz {L : List Int} {p : Int} (h : (decB L p).2.2 = 0) : 1 ≤ (decB L p).2.1 ∧ (decB L p).2.1 ≤ 4 := by
 obtain ⟨h1, h2, -⟩ := decB_ok h; rw [h2]; exact sizeK_bd h1
def sweepGo (text : List Int) (en : Int) : Nat → Int → Option (List Sp)
 | 0, _ => some []
 | d + 1, p => if p < en then (if (decB text p).2.2 ≠ 0 ∨ en < p + (decB text p).2.1 then none else (sweepGo text en d (p + (decB text p).2.1)).map (⟨p, (decB text p).2.1, (decB text p).1⟩ :: ·)) else some []
def lastOk (l : List Sp) : Bool := match l.getLast? with | none => false | some s => stopsI s.i || s.i.k == 22
def sweepL (text : List Int) (f : FnD) : Option (List Sp) :=
 match sweepGo text (f.start + f.size) f.size.toNat f.start with
 | none => none
 | some l => if lastOk l then some l else none
def spC (s : Sp) : List Value := [.int .i64 s.p, .int .i64 s.z, .int .i64 s.i.k, .int .i64 s.i.d, .int .i64 s.i.a, .int .i64 s.i.b, .int .i64 s.i.n, .bool s.i.l]
def spsV (l : List Sp) : List Value := l.flatMap spC
theorem spsV_at {l : List Sp} {j : Nat} {s : Sp} (h : l[j]? = some s) (q : Nat) (v : Value) (hv : (spC s)[q]? = some v) : (spsV l)[j * 8 + q]? = some v := by
 have hq : q < 8 := by
  have := (List.getElem?_eq_some_iff.1 hv).1; simpa [spC] using this
 exact flat_at spC 8 (fun _ => rfl) l j s h q v hq hv
theorem spsV_snoc (l : List Sp) (s : Sp) : spsV (l ++ [s]) = spsV l ++ spC s := by simp [spsV]
theorem sweepGo_end (text : List Int) (en : Int) (d : Nat) (p : Int) (h : en ≤ p) : sweepGo text en d p = some [] := by
 cases d with
 | zero => rfl
 | succ d => simp only [sweepGo]; rw [if_neg (by omega)]
theorem sweepGo_succ (text : List Int) (en : Int) : ∀ (d : Nat) (p : Int), en - p ≤ d → sweepGo text en (d + 1) p = sweepGo text en d p := by
 intro d
 induction d with
 | zero => intro p h; rw [sweepGo_end _ _ _ _ (by omega), sweepGo_end _ _ _ _ (by omega)]
 | succ d ih =>
  intro p h; rw [sweepGo]
  conv => rhs; rw [sweepGo]
  split
  · split
    · rfl
    · rename_i hc
      have he : (decB text p).2.2 = 0 := by
       rcases Classical.em ((decB text p).2.2 = 0) with e | e
       · exact e
       · exact absurd (.inl e) hc
      have hz := decB_sz he; rw [ih _ (by omega)]
  · rfl
theorem sweepGo_fuel (text : List Int) (en p : Int) : ∀ d : Nat, (en - p).toNat ≤ d → sweepGo text en d p = sweepGo text en (en - p).toNat p := by
 intro d h; obtain ⟨k, rfl⟩ : ∃ k, d = (en - p).toNat + k := ⟨d - (en - p).toNat, by omega⟩
 clear h
 induction k with
 | zero => rfl
 | succ k ih => rw [← Nat.add_assoc, sweepGo_succ _ _ _ _ (by omega), ih]
theorem sweepGo_ok (text : List Int) (en : Int) : ∀ (d : Nat) (p : Int) (l : List Sp), sweepGo text en d p = some l → (en - p ≤ d) →
 ∀ (j : Nat) (s : Sp), l[j]? = some s → p ≤ s.p ∧ s.p + s.z ≤ en ∧ decB text s.p = (s.i, s.z, 0) := by
 intro d
 induction d with
 | zero => intro p l h _ j s hs; simp only [sweepGo, Option.some.injEq] at h; subst h; simp at hs
 | succ d ih =>
  intro p l h hd j s hs; simp only [sweepGo] at h
  split at h
  · split at h
    · cases h
    · rename_i hc
      have he : (decB text p).2.2 = 0 := by
       rcases Classical.em ((decB text p).2.2 = 0) with e | e
       · exact e
       · exact absurd (.inl e) hc
      have hz := decB_sz he
      have hen : p + (decB text p).2.1 ≤ en := by
       rcases Classical.em (en < p + (decB text p).2.1) with e | e
       · exact absurd (.inr e) hc
       · omega
      obtain ⟨r, hr, rfl⟩ := Option.map_eq_some_iff.1 h
      cases j with
      | zero =>
       simp only [List.getElem?_cons_zero, Option.some.injEq] at hs; subst hs; exact ⟨Int.le_refl _, hen, by rw [← he]⟩
      | succ j =>
       simp only [List.getElem?_cons_succ] at hs; have := ih _ r hr (by omega) j s hs; exact ⟨by omega, this.2⟩
  · simp only [Option.some.injEq] at h; subst h; simp at hs
end Go.Proofs.YtcafhoobeggmeaaDoor
