/- The state of Recover until the cutting begins. What sweeping finds in code that is put together; a last function that can't be followed. Recover: plain facts for its walk. -/
import Derived.Test.YtcdlgjhdbmmomaaGreatDoorImgE
import Derived.Test.YtcdlgjhdbmmomaaGreatDoorFlowJ
import Derived.Test.YtcdlgjhdbmmomaaGreatDoorKeepD
namespace Go.Proofs.YtcdlgjhdbmmomaaGreatDoor
open Go.RowKit
def numB (n : Int) : Nat → List Int
 | 0 => []
 | k + 1 => numB (n / 256) k ++ [n % 256]
theorem numB_len (k : Nat) : ∀ n, (numB n k).length = k := by
 induction k with
 | zero => intro n; rfl
 | succ k ih => intro n; simp [numB, ih]
def encFn (f : FnD) : List Int := numB f.name.size 1 ++ strL f.name ++ numB f.size 2
def encTab (t : List Int) : List Int := numB t.length 1 ++ t.flatMap (numB · 2)
def encLn (l : Int × Int) : List Int := numB l.1 2 ++ numB l.2 2
def encBody (m : Img) : List Int :=
 numB m.text.length 2 ++ (m.text ++ (numB m.funcs.length 1 ++ (m.funcs.flatMap encFn ++ (numB m.entry 1 ++ (numB m.tables.length 1 ++ (m.tables.flatMap encTab ++ (numB m.data.length 1 ++ (m.data.flatMap (numB · 8) ++ (numB m.lines.length 2 ++ m.lines.flatMap encLn)))))))))
def magicL : List Int := [98, 104, 49, 10]
def encF (m : Img) : List Int := magicL ++ encBody m
structure RS where
 inp : List Int
 sh : Bool
def Img.zero : Img := ⟨[], [], [], [], [], 0⟩
/-! what is read, is written so -/
section
variable {α : Type} {f : RS → α × RS} {e : α → List Int}
end
/-! what is written is read back -/
def startsOk : Int → List FnD → Prop
 | _, [] => True
 | p, f :: r => f.start = p ∧ startsOk (p + f.size) r
structure Fits (m : Img) : Prop where
 tl : m.text.length ≤ 8000
 fl : m.funcs.length ≤ 40
 fs : startsOk 0 m.funcs
 fb : ∀ f ∈ m.funcs, f.name.size ≤ 16 ∧ 0 ≤ f.size ∧ f.size < 65536
 eb : 0 ≤ m.entry ∧ m.entry < 256
 bl : m.tables.length ≤ 20
 bb : ∀ t ∈ m.tables, t.length ≤ 20 ∧ ∀ x ∈ t, 0 ≤ x ∧ x < 65536
 dl : m.data.length ≤ 64
 db : ∀ x ∈ m.data, N64 x
 ll : m.lines.length ≤ 4000
 lb : ∀ l ∈ m.lines, (0 ≤ l.1 ∧ l.1 < 65536) ∧ 0 ≤ l.2 ∧ l.2 < 65536
theorem funcsGo_fit (T : Int) : ∀ (l prev : List FnD) (p : Int), 0 ≤ p → T ≤ 8000 → funcsGo T prev p l = 0 → startsOk p l ∧ ∀ f ∈ l, f.name.size ≤ 16 ∧ 0 ≤ f.size ∧ f.size < 65536 := by
 intro l
 induction l with
 | nil => intro prev p _ _ _; exact ⟨trivial, fun f hf => by cases hf⟩
 | cons f l ih =>
  intro prev p hp hT h; unfold funcsGo at h
  split at h
  · cases h
  · rename_i hn
    split at h
    · cases h
    · split at h
      · cases h
      · rename_i hc
        have h1 : f.start = p ∧ 1 ≤ f.size ∧ f.size ≤ T - p := by omega
        obtain ⟨i1, i2⟩ := ih _ _ (by omega) hT h; refine ⟨⟨h1.1, i1⟩, fun g hg => ?_⟩; rcases List.mem_cons.1 hg with rfl | hg
        · have hn2 : nameOk g.name = true := by simpa using hn
          unfold nameOk at hn2; simp only [Bool.and_eq_true, decide_eq_true_eq] at hn2; omega
        · exact i2 g hg
theorem linesGo_fit (T : Int) : ∀ (l : List (Int × Int)) (a : Int), -1 ≤ a → T ≤ 8000 → linesGo T a l = 0 → ∀ x ∈ l, (0 ≤ x.1 ∧ x.1 < 65536) ∧ 0 ≤ x.2 ∧ x.2 < 65536 := by
 intro l
 induction l with
 | nil => intro a _ _ _ x hx; cases hx
 | cons y l ih =>
  intro a ha hT h; unfold linesGo at h
  split at h
  · cases h
  · split at h
    · cases h
    · intro x hx; rcases List.mem_cons.1 hx with rfl | hx
      · omega
      · exact ih _ (by omega) hT h x hx
theorem tablesGo_fit (T : Int) (hT : T ≤ 8000) : ∀ l : List (List Int), tablesGo T l = 0 → ∀ t ∈ l, t.length ≤ 20 ∧ ∀ x ∈ t, 0 ≤ x ∧ x < 65536 := by
 intro l
 induction l with
 | nil => intro _ t ht; cases ht
 | cons y l ih =>
  intro h; unfold tablesGo at h
  split at h
  · cases h
  · split at h
    · cases h
    · rename_i h1 h2
      intro t ht; rcases List.mem_cons.1 ht with rfl | ht
      · refine ⟨by omega, fun x hx => ?_⟩
        have : oddAt T x = false := by
         rcases hb : oddAt T x with _ | _
         · rfl
         · exact absurd (List.any_eq_true.2 ⟨x, hx, hb⟩) h2
        unfold oddAt at this; simp only [Bool.or_eq_false_iff, decide_eq_false_iff_not] at this; omega
      · exact ih h t ht
theorem check_fits {m : Img} (h : checkE m = 0) : Fits m := by
 unfold checkE at h
 split at h
 · cases h
 · rename_i h1
   split at h
   · rename_i h2
     exact absurd h h2
   · rename_i h2
     split at h
     · cases h
     · rename_i h3
       split at h
       · cases h
       · rename_i h4
         have h2' : funcsE m = 0 := by simpa using h2
         unfold funcsE at h2'
         split at h2'
         · cases h2'
         · rename_i h5
           obtain ⟨f1, f2⟩ := funcsGo_fit _ _ _ 0 (Int.le_refl _) (by omega) h2'; unfold tailE at h
           split at h
           · rename_i h6
             unfold restE at h
             split at h
             · cases h
             · rename_i h7
               unfold linesE at h
               split at h
               · cases h
               · rename_i h8
                 refine ⟨by omega, by omega, f1, f2, by omega, by omega, tablesGo_fit _ (by omega) _ h6, by omega, fun x hx => ?_, by omega, linesGo_fit _ _ (-1) (by omega) (by omega) h⟩
                 have : oddN x = false := by
                  rcases hb : oddN x with _ | _
                  · rfl
                  · exact absurd (List.any_eq_true.2 ⟨x, hx, hb⟩) h7
                 unfold oddN at this; simp only [Bool.or_eq_false_iff, decide_eq_false_iff_not] at this; unfold N64; omega
           · rename_i h6
             exact absurd h h6
theorem flat_len_le {α : Type} {F : α → List Int} {c : Nat} : ∀ (l : List α), (∀ x ∈ l, (F x).length ≤ c) → (l.flatMap F).length ≤ l.length * c := by
 intro l
 induction l with
 | nil => intro _; simp
 | cons x l ih =>
  intro h; have h1 := h x (by simp); have h2 := ih fun y hy => h y (by simp [hy])
  simp only [List.flatMap_cons, List.length_append, List.length_cons, Nat.add_mul]; omega
theorem Fits.len {m : Img} (h : Fits m) : (encF m).length ≤ 30000 := by
 have h1 := flat_len_le (F := encFn) (c := 19) m.funcs fun f hf => by
  have := (h.fb f hf).1; simp only [encFn, List.length_append, numB_len, strL_len]; omega
 have h2 := flat_len_le (F := encTab) (c := 41) m.tables fun t ht => by
  have := (h.bb t ht).1; have h3 := flat_len_le (F := (numB · 2)) (c := 2) t fun x _ => by simp [numB_len]
  simp only [encTab, List.length_append, numB_len]; omega
 have h3 := flat_len_le (F := (numB · 8)) (c := 8) m.data fun x _ => by simp [numB_len]
 have h4 := flat_len_le (F := encLn) (c := 4) m.lines fun x _ => by simp [encLn, numB_len]
 have a1 := h.tl; have a2 := h.fl; have a3 := h.bl; have a4 := h.dl; have a5 := h.ll; simp only [encF, encBody, magicL, List.length_append, numB_len, List.length_cons, List.length_nil]; omega
section
variable {w w' : World}
theorem RdN.keepM {b c J p q : Nat} {f : Int → Bool} {r : Option Nat} {e : TypeId} {A : Option Addr} {xs : List Value} (h : RdN w J r e A p q xs) (hJ : J ≤ w.heap.size) (hg : w.grownBy w' (some b)) (hm : MapB w b c f) : RdN w' J r e A p q xs :=
 h.gbO hg hJ fun hne g o hA e2 => by
  injection e2 with e2; subst e2; obtain ⟨es, ck, hL⟩ := mapB_is hm; obtain ⟨-, cs, fz, k⟩ := h.2.2 hne b o hA; rw [hL] at k
  cases k
theorem own_keepM {f : Int → Bool} {b c J e sz p : Nat} {vv : Value} {xs : List Value} (h : w.ownsRow J e sz vv p xs) (hg : w.grownBy w' (some b)) (hm : MapB w b c f) : w'.ownsRow J e sz vv p xs := by
 refine gb_own h hg ?_; rcases hv : vv.ownBlock with _ | q
 · exact .inl rfl
 · right
   intro e2; injection e2 with e2; subst e2; obtain ⟨es, ck, hL⟩ := mapB_is hm; obtain ⟨cs, fz, h1⟩ := own_typ h hv; rw [hL] at h1
   cases h1
end
def nil3 : List Value := [.slice none 0 0, .slice none 0 0, .slice none 0 0]
structure RecS (w : World) (B X : Nat) (m : Img) (v : ImgV) (aA : Option Addr) (ac : Nat) (all : List (List Sp)) (vs : List Value) (o no : Nat) (own : Int → Option Int) (L nl : Nat) (ld : Int → Bool) (k : Nat) : Prop where
 img : ImgRd w B m v
 fin : Blk w X 112 (finC m v aA all.length ac o L k nil3)
 arow : w.ownsRow B 115 1 (.slice aA all.length ac) all.length vs
 rows : ∀ (j : Nat) (l : List Sp), all[j]? = some l → ∃ A c, vs[j]? = some (.slice A l.length c) ∧ RdN w w.heap.size (some X) 119 A l.length c (spsV l)
 own : MapI w o no own
 ldr : MapB w L nl ld
 blk : MapI w k 0 fun _ => none
 hs : B ≤ X ∧ B ≤ o ∧ B ≤ L ∧ B ≤ k ∧ o ≠ L ∧ o ≠ k ∧ L ≠ k
section
variable {w w' : World} {B X : Nat} {m : Img} {v : ImgV} {aA : Option Addr} {ac : Nat} {all : List (List Sp)} {vs : List Value} {o no : Nat} {own : Int → Option Int} {L nl : Nat} {ld : Int → Bool} {k : Nat}
theorem RecS.lt (h : RecS w B X m v aA ac all vs o no own L nl ld k) : X < w.heap.size ∧ B ≤ w.heap.size := ⟨h.fin.lt, by have := h.fin.lt; have := h.hs.1; omega⟩
theorem RecS.below (h : RecS w B X m v aA ac all vs o no own L nl ld k) (hb : Below w.heap.size w w') : RecS w' B X m v aA ac all vs o no own L nl ld k := by
 refine ⟨h.img.below (hb.mono h.lt.2), h.fin.keep hb, own_keep h.arow hb, fun j l hj => ?_, h.own.keep hb, h.ldr.keep hb, h.blk.keep hb, h.hs⟩; obtain ⟨A, c, h1, h2⟩ := h.rows j l hj; exact ⟨A, c, h1, (h2.below hb).more hb.size⟩
theorem RecS.upL {nl' : Nat} {ld' : Int → Bool} (h : RecS w B X m v aA ac all vs o no own L nl ld k) (hg : w.grownBy w' (some L)) (hm : MapB w' L nl' ld') : RecS w' B X m v aA ac all vs o no own L nl' ld' k := by
 obtain ⟨s1, s2, s3, s4, s5, s6, s7⟩ := h.hs; refine ⟨h.img.below (gb_to_below hg s3 h.lt.2), h.fin.keepM hg h.ldr, own_keepM h.arow hg h.ldr, fun j l hj => ?_, h.own.gb hg (fun e => s5 (by injection e with e; exact e.symm)), hm, h.blk.gb hg (fun e => s7 (by injection e)), h.hs⟩; obtain ⟨A, c, h1, h2⟩ := h.rows j l hj; exact ⟨A, c, h1, (h2.keepM lr' hg h.ldr).more hg.size⟩
theorem RecS.upO {no' : Nat} {own' : Int → Option Int} (h : RecS w B X m v aA ac all vs o no own L nl ld k) (hg : w.grownBy w' (some o)) (hm : MapI w' o no' own') : RecS w' B X m v aA ac all vs o no' own' L nl ld k := by
 obtain ⟨s1, s2, s3, s4, s5, s6, s7⟩ := h.hs; refine ⟨h.img.below (gb_to_below hg s2 h.lt.2), h.fin.keepI hg h.own, own_keepI h.arow hg h.own, fun j l hj => ?_, hm, h.ldr.gb hg (fun e => s5 (by injection e)), h.blk.gb hg (fun e => s6 (by injection e)), h.hs⟩; obtain ⟨A, c, h1, h2⟩ := h.rows j l hj; exact ⟨A, c, h1, (h2.keepI lr' hg h.own).more hg.size⟩
theorem RecS.app {w1 : World} {A' : Option Addr} {c' : Nat} {l : List Sp} {sA : Option Addr} {sc : Nat} (h : RecS w B X m v aA ac all vs o no own L nl ld k) (ho : w1.ownsRow B 115 1 (.slice A' (all.length + 1) c') (all.length + 1) (vs ++ [.slice sA l.length sc]))
 (hg : w.grownBy w1 (Value.slice aA all.length ac).ownBlock) (hl : RdN w w.heap.size (some X) 119 sA l.length sc (spsV l)) :
 RecS (w1.setCell ⟨X, 6, none⟩ (.slice A' (all.length + 1) c')) B X m v A' c' (all ++ [l]) (vs ++ [.slice sA l.length sc]) o no own L nl ld k := by
 obtain ⟨s1, s2, s3, s4, s5, s6, s7⟩ := h.hs; have hlt := h.lt; have hr0 : ∀ g, (Value.slice aA all.length ac).ownBlock = some g → B ≤ g := fun g e => (World.ownsRow.lt h.arow g e).1
 have ht : ∀ g, (Value.slice aA all.length ac).ownBlock = some g → TypB w g 115 := fun g e => own_typ h.arow e
 have hb : Below B w w1 := gb_below_of hg hr0 hlt.2; have hz := hg.size; have hfin := h.fin.keepT hg ht (by decide)
 have hown : MapI w1 o no own := h.own.gb hg (fun e => by
  obtain ⟨es, ck, hL⟩ := mapI_is h.own; obtain ⟨cs, fz, k⟩ := ht o e; rw [hL] at k
  cases k)
 have hldr : MapB w1 L nl ld := h.ldr.gb hg (fun e => by
  obtain ⟨es, ck, hL⟩ := mapB_is h.ldr; obtain ⟨cs, fz, k⟩ := ht L e; rw [hL] at k
  cases k)
 have hblk : MapI w1 k 0 (fun _ => none) := h.blk.gb hg (fun e => by
  obtain ⟨es, ck, hL⟩ := mapI_is h.blk; obtain ⟨cs, fz, k⟩ := ht _ e; rw [hL] at k
  cases k)
 have hg2 : w1.grownBy (w1.setCell ⟨X, 6, none⟩ (.slice A' (all.length + 1) c')) (some X) := gb_setCell (gb_refl _ _) _ _; have ht2 : ∀ g, some X = some g → TypB w1 g 112 := fun g e => by injection e with e; subst e; exact hfin.typ
 obtain ⟨e1, c1, hl1⟩ := mapI_is hown; obtain ⟨e2, c2, hl2⟩ := mapB_is hldr; obtain ⟨e3, c3, hl3⟩ := mapI_is hblk; have hlen : (all ++ [l]).length = all.length + 1 := by simp
 have hvl : vs.length = all.length := by
  have := h.arow.1; omega
 refine ⟨(h.img.below hb).below (gb_to_below hg2 s1 (by omega)), ?_, ?_, fun j y hj => ?_, hown.gb hg2 (map_neX hfin hl1), hldr.gb hg2 (map_neX hfin hl2), hblk.gb hg2 (map_neX hfin hl3), h.hs⟩
 · rw [hlen]; exact hfin.set 6 _
 · rw [hlen]; exact own_keepT ho hg2 ht2 (by decide)
 · have hz2 := hg2.size
   have hk : ∀ {A : Option Addr} {c : Nat}, RdN w w.heap.size (some X) 119 A y.length c (spsV y) → RdN (w1.setCell ⟨X, 6, none⟩ (.slice A' (all.length + 1) c')) (w1.setCell ⟨X, 6, none⟩ (.slice A' (all.length + 1) c')).heap.size (some X) 119 A y.length c (spsV y) :=
    fun h2 => ((h2.keepT hg lr' ht (by decide)).gb hg2 hz).more (by omega)
   rcases Nat.lt_or_ge j all.length with hjl | hjl
   · rw [List.getElem?_append_left hjl] at hj; obtain ⟨A, c, h1, h2⟩ := h.rows j y hj; exact ⟨A, c, by rw [List.getElem?_append_left (by omega)]; exact h1, hk h2⟩
   · rw [List.getElem?_append_right hjl] at hj
     have hj0 : j - all.length = 0 := by
      rcases Nat.eq_zero_or_pos (j - all.length) with h | h
      · exact h
      · rw [List.getElem?_eq_none (by simp; omega)] at hj
        cases hj
     rw [hj0] at hj; simp only [List.getElem?_cons_zero, Option.some.injEq] at hj; subst hj; exact ⟨sA, sc, by rw [List.getElem?_append_right (by omega), hvl, hj0]; rfl, hk hl⟩
theorem RecS.rd (h : RecS w B X m v aA ac all vs o no own L nl ld k) : FinRd w B w.heap.size X m v aA ac all o no own L k nil3 := by
 obtain ⟨s1, s2, s3, s4, s5, s6, s7⟩ := h.hs; refine ⟨h.fin, h.img, ⟨vs, ?_, own_rdg h.arow, fun j l hj => ?_⟩, h.own, ⟨s3, h.lt.2⟩, Nat.le_refl _, fun e => s5 e.symm⟩
 · have := h.arow.1; omega
 · obtain ⟨A, c, h1, h2⟩ := h.rows j l hj; exact ⟨A, c, h1, h2.2.1, h2.1⟩
theorem RecS.cut (h : RecS w B X m v aA ac all vs o no own L nl ld k) : CutM w w B w.heap.size w.heap.size X m v aA ac all vs L k none 0 none 0 nl 0 ld (fun _ => none) [] [] [] := by
 obtain ⟨s1, s2, s3, s4, s5, s6, s7⟩ := h.hs; have hX := h.fin; refine ⟨h.img, ⟨?_, own_done h.arow _ (fun g hg e => ?_), fun j l hj => ?_⟩, h.ldr, h.blk, ⟨rfl, .inl ⟨rfl, rfl⟩⟩, ⟨rfl, .inl ⟨rfl, rfl⟩⟩, fun g e => (by cases e), fun x hx => (by cases hx), List.Pairwise.nil, fun x hx => (by cases hx), ⟨s1, h.lt.1, s3, h.ldr.lt, s4, h.blk.lt, s7, Nat.le_refl _, Nat.le_refl _⟩, Below.refl _ _⟩
 · have := h.arow.1; omega
 · injection e with e; subst e; exact (own_typ h.arow hg).ne hX.typ (by decide) rfl
 · obtain ⟨A, c, h1, h2⟩ := h.rows j l hj; exact ⟨A, c, h1, h2⟩
end
def recE (m : Img) : Int := if checkE m ≠ 0 then checkE m else if 2000 < m.text.length then 1 else if (recL m).isSome = true then 0 else 9
def spotsOf : Int → List Ins → List Sp
 | _, [] => []
 | p, i :: r => ⟨p, i.enc.length, i⟩ :: spotsOf (p + i.enc.length) r
theorem sweepGo_enc (post : List Int) : ∀ (is : List Ins) (pre : List Int) (d : Nat), (∀ i ∈ is, i.chk = 0) → (encAll is).length ≤ d → sweepGo (pre ++ encAll is ++ post) ((pre.length : Int) + (encAll is).length) d pre.length = some (spotsOf pre.length is)
 | [], pre, d, _, _ => by
  rw [sweepGo_end _ _ _ _ (by simp [encAll])]
  rfl
 | i :: r, pre, d, hk, hd => by
  have hi := hk i (by simp); have hp := enc_pos hi; have he : encAll (i :: r) = i.enc ++ encAll r := rfl; have hl : (encAll (i :: r)).length = i.enc.length + (encAll r).length := by rw [he, List.length_append]
  obtain ⟨d, rfl⟩ : ∃ q, d = q + 1 := ⟨d - 1, by omega⟩
  have ht : pre ++ encAll (i :: r) ++ post = pre ++ i.enc ++ (encAll r ++ post) := by rw [he]; simp
  have hdec := dec_enc pre (encAll r ++ post) hi; have ih := sweepGo_enc post r (pre ++ i.enc) d (fun j hj => hk j (by simp [hj])) (by omega); have e1 : pre ++ i.enc ++ encAll r ++ post = pre ++ i.enc ++ (encAll r ++ post) := by simp
  have e2 : (((pre ++ i.enc).length : Nat) : Int) = (pre.length : Int) + i.enc.length := by simp
  rw [e1, e2] at ih; rw [ht, hl]; simp only [sweepGo]; rw [hdec, if_pos (by omega), if_neg (by simp only; omega)]; simp only; rw [show (pre.length : Int) + ((i.enc.length + (encAll r).length : Nat) : Int) = (pre.length : Int) + i.enc.length + (encAll r).length by omega, ih]
  rfl
theorem sweepAll_snoc (text : List Int) (f : FnD) : ∀ fs, sweepAll text (fs ++ [f]) = (sweepAll text fs).bind fun a => (sweepL text f).map fun l => a ++ [l]
 | [] => by
  show (sweepL text f).bind (fun l => (some []).map (l :: ·)) = _
  cases sweepL text f <;> rfl
 | g :: r => by
  show (sweepL text g).bind (fun l => (sweepAll text (r ++ [f])).map (l :: ·)) = ((sweepL text g).bind fun l => (sweepAll text r).map (l :: ·)).bind _; rw [sweepAll_snoc text f r]
  cases sweepL text g with
  | none => rfl
  | some l =>
   cases sweepAll text r with
   | none => rfl
   | some a => cases sweepL text f <;> rfl
theorem sweepAll_len {text : List Int} : ∀ {fs : List FnD} {all : List (List Sp)}, sweepAll text fs = some all → all.length = fs.length
 | [], all, h => by
  injection h with h; subst h
  rfl
 | g :: r, all, h => by
  have h' : (sweepL text g).bind (fun l => (sweepAll text r).map (l :: ·)) = some all := h
  cases hg : sweepL text g with
  | none => rw [hg] at h'; cases h'
  | some l =>
   rw [hg] at h'; obtain ⟨a, ha, rfl⟩ := Option.map_eq_some_iff.1 (show (sweepAll text r).map (l :: ·) = some all from h'); rw [List.length_cons, List.length_cons, sweepAll_len ha]
theorem finOwn_snoc (l : List Sp) : ∀ (ls : List (List Sp)) (f : Int) (own : Int → Option Int), finOwn (ls ++ [l]) f own = l.foldl (fun o s => upF o s.p (some (f + ls.length))) (finOwn ls f own)
 | [], f, own => by
  have e : f + (([] : List (List Sp)).length : Int) = f := by simp
  rw [e]
  rfl
 | a :: r, f, own => by
  show finOwn (r ++ [l]) (f + 1) _ = _; rw [finOwn_snoc l r]; have e : f + 1 + (r.length : Int) = f + ((a :: r).length : Int) := by rw [List.length_cons]; omega
  rw [e]
  rfl
theorem foldUp_in (g : Int) (q x : Int) : ∀ (l : List Sp) (own : Int → Option Int), l.foldl (fun o s => upF o s.p (some g)) own q = some x → (x = g ∧ ∃ s ∈ l, s.p = q) ∨ own q = some x
 | [], own, h => .inr h
 | s :: r, own, h => by
  rcases foldUp_in g q x r _ h with ⟨h1, t, ht, h2⟩ | h1
  · exact .inl ⟨h1, t, by simp [ht], h2⟩
  · have h2 : (if q = s.p then some g else own q) = some x := h1
    split at h2
    · rename_i e
      injection h2 with h2; exact .inl ⟨h2.symm, s, by simp, e.symm⟩
    · exact .inr h2
theorem markAll_snoc (m : Img) (own : Int → Option Int) (x : FnD × List Sp) : ∀ (l : List (FnD × List Sp)) (f : Int) (ld : Int → Bool), markAll m own (l ++ [x]) f ld = (markAll m own l f ld).bind fun ld' => markGo m own (f + l.length) x.2 (upF ld' x.1.start true)
 | [], f, ld => by
  have e : f + (([] : List (FnD × List Sp)).length : Int) = f := by simp
  rw [e]; show (markGo m own f x.2 (upF ld x.1.start true)).bind (markAll m own [] (f + 1)) = markGo m own f x.2 (upF ld x.1.start true)
  cases markGo m own f x.2 (upF ld x.1.start true) <;> rfl
 | a :: r, f, ld => by
  have e : f + 1 + (r.length : Int) = f + ((a :: r).length : Int) := by rw [List.length_cons]; omega
  show (markGo m own f a.2 (upF ld a.1.start true)).bind (markAll m own (r ++ [x]) (f + 1)) = ((markGo m own f a.2 (upF ld a.1.start true)).bind (markAll m own r (f + 1))).bind _
  cases markGo m own f a.2 (upF ld a.1.start true) with
  | none => rfl
  | some y =>
   show markAll m own (r ++ [x]) (f + 1) y = (markAll m own r (f + 1) y).bind _; rw [markAll_snoc m own x r, e]
theorem funcsGo_ok (T : Int) : ∀ (fs prev : List FnD) (a : Int), funcsGo T prev a fs = 0 → 0 ≤ a → ∀ f ∈ fs, 0 ≤ f.start ∧ 1 ≤ f.size ∧ f.start + f.size ≤ T
 | [], _, _, _, _, f, hf => by cases hf
 | g :: r, prev, a, h, ha, f, hf => by
  simp only [funcsGo] at h
  split at h
  · cases h
  · split at h
    · cases h
    · split at h
      · cases h
      · rename_i h3
        rcases List.mem_cons.1 hf with rfl | hf
        · omega
        · exact funcsGo_ok T r _ _ h (by omega) f hf
theorem fns_ok {m : Img} (h : checkE m = 0) : ∀ f ∈ m.funcs, 0 ≤ f.start ∧ 1 ≤ f.size ∧ f.start + f.size ≤ m.text.length := by
 unfold checkE at h
 split at h
 · cases h
 · split at h
   · rename_i h2
     exact absurd h h2
   · rename_i h2
     have h3 : funcsE m = 0 := by omega
     unfold funcsE at h3
     split at h3
     · cases h3
     · exact funcsGo_ok _ _ _ _ h3 (Int.le_refl _)
theorem sweepGo_len (text : List Int) (en : Int) : ∀ (d : Nat) (p : Int) (l : List Sp), sweepGo text en d p = some l → l.length ≤ d
 | 0, p, l, h => by
  simp only [sweepGo, Option.some.injEq] at h; subst h; exact Nat.le_refl _
 | d + 1, p, l, h => by
  simp only [sweepGo] at h
  split at h
  · split at h
    · cases h
    · obtain ⟨r, hr, rfl⟩ := Option.map_eq_some_iff.1 h; have := sweepGo_len text en d _ r hr; simp; omega
  · simp only [Option.some.injEq] at h; subst h; simp
theorem sweepL_len {text : List Int} {f : FnD} {l : List Sp} (h : sweepL text f = some l) : l.length ≤ f.size.toNat := by
 unfold sweepL at h
 split at h
 · cases h
 · rename_i l' hg
   split at h
   · injection h with h; subst h; exact sweepGo_len _ _ _ _ _ hg
   · cases h
theorem sweepAll_none {text : List Int} {f : FnD} (h : sweepL text f = none) : ∀ {fs : List FnD}, f ∈ fs → sweepAll text fs = none
 | [], hm => by cases hm
 | g :: r, hm => by
  show (sweepL text g).bind (fun l => (sweepAll text r).map (l :: ·)) = none; rcases List.mem_cons.1 hm with rfl | hm
  · rw [h]
    rfl
  · cases sweepL text g with
    | none => rfl
    | some l =>
     show (sweepAll text r).map (l :: ·) = none; rw [sweepAll_none h hm]
     rfl
theorem sweepAll_take {text : List Int} {fs : List FnD} {i : Nat} {all : List (List Sp)} {f : FnD} {l : List Sp} (h : sweepAll text (fs.take i) = some all) (hf : fs[i]? = some f) (hl : sweepL text f = some l) : sweepAll text (fs.take (i + 1)) = some (all ++ [l]) := by
 rw [List.take_add_one, hf]; show sweepAll text (fs.take i ++ [f]) = _; rw [sweepAll_snoc, h, hl]
 rfl
theorem sweepAll_at {text : List Int} : ∀ {fs : List FnD} {all : List (List Sp)}, sweepAll text fs = some all → ∀ (i : Nat) (f : FnD), fs[i]? = some f → ∃ sp, all[i]? = some sp ∧ sweepL text f = some sp
 | [], all, h, i, f, hf => by simp at hf
 | g :: r, all, h, i, f, hf => by
  have h' : (sweepL text g).bind (fun l => (sweepAll text r).map (l :: ·)) = some all := h
  cases hg : sweepL text g with
  | none => rw [hg] at h'; cases h'
  | some l =>
   rw [hg] at h'; obtain ⟨a, ha, rfl⟩ := Option.map_eq_some_iff.1 (show (sweepAll text r).map (l :: ·) = some all from h')
   cases i with
   | zero =>
    simp only [List.getElem?_cons_zero, Option.some.injEq] at hf; subst hf; exact ⟨l, rfl, hg⟩
   | succ i =>
    rw [List.getElem?_cons_succ] at hf; obtain ⟨sp, h1, h2⟩ := sweepAll_at ha i f hf; exact ⟨sp, by rw [List.getElem?_cons_succ]; exact h1, h2⟩
theorem tabsLd_app (own : Int → Option Int) (b : List Int) : ∀ (a : List Int) (ld : Int → Bool), tabsLd own (a ++ b) ld = (tabsLd own a ld).bind (tabsLd own b)
 | [], ld => rfl
 | x :: r, ld => by
  show (if (own x).isSome = true then tabsLd own (r ++ b) (upF ld x true) else none) = (if (own x).isSome = true then tabsLd own r (upF ld x true) else none).bind _
  split
  · exact tabsLd_app own b r _
  · rfl
theorem tab_split {ts : List (List Int)} {t : List Int} {i j : Nat} {a : Int} (ht : ts[i]? = some t) (ha : t[j]? = some a) : ts.flatten = ((ts.take i).flatten ++ t.take j) ++ a :: (t.drop (j + 1) ++ (ts.drop (i + 1)).flatten) := by
 have h1 : t = t.take j ++ a :: t.drop (j + 1) := by
  obtain ⟨hj, rfl⟩ := List.getElem?_eq_some_iff.1 ha; rw [← List.drop_eq_getElem_cons hj, List.take_append_drop]
 have h2 : ts = ts.take i ++ t :: ts.drop (i + 1) := by
  obtain ⟨hi, rfl⟩ := List.getElem?_eq_some_iff.1 ht; rw [← List.drop_eq_getElem_cons hi, List.take_append_drop]
 have h3 : ts.flatten = (ts.take i).flatten ++ (t ++ (ts.drop (i + 1)).flatten) := by
  conv => lhs; rw [h2]
  rw [List.flatten_append, List.flatten_cons]
 have h4 : t ++ (ts.drop (i + 1)).flatten = t.take j ++ a :: (t.drop (j + 1) ++ (ts.drop (i + 1)).flatten) := by
  conv => lhs; arg 1; rw [h1]
  rw [List.append_assoc, List.cons_append]
 rw [h3, h4, List.append_assoc]
theorem tab_next {ts : List (List Int)} {t : List Int} {i : Nat} (ht : ts[i]? = some t) : (ts.take (i + 1)).flatten = (ts.take i).flatten ++ t := by
 rw [List.take_add_one, ht]; simp
theorem markAll_app (m : Img) (own : Int → Option Int) (b : List (FnD × List Sp)) : ∀ (a : List (FnD × List Sp)) (f : Int) (ld : Int → Bool), markAll m own (a ++ b) f ld = (markAll m own a f ld).bind (markAll m own b (f + a.length))
 | [], f, ld => by
  have e : f + (([] : List (FnD × List Sp)).length : Int) = f := by simp
  rw [e]
  rfl
 | x :: r, f, ld => by
  have e : f + 1 + (r.length : Int) = f + ((x :: r).length : Int) := by rw [List.length_cons]; omega
  show (markGo m own f x.2 (upF ld x.1.start true)).bind (markAll m own (r ++ b) (f + 1)) = ((markGo m own f x.2 (upF ld x.1.start true)).bind (markAll m own r (f + 1))).bind _
  cases markGo m own f x.2 (upF ld x.1.start true) with
  | none => rfl
  | some y =>
   show markAll m own (r ++ b) (f + 1) y = (markAll m own r (f + 1) y).bind _; rw [markAll_app m own b r, e]
def ownA (all : List (List Sp)) : Int → Option Int := finOwn all 0 fun _ => none
theorem ownA_snoc (all : List (List Sp)) (l : List Sp) : ownA (all ++ [l]) = l.foldl (fun o s => upF o s.p (some (all.length : Int))) (ownA all) := by
 unfold ownA; rw [finOwn_snoc]; simp
theorem rec_none1 {m : Img} {f : FnD} (hf : f ∈ m.funcs) (h : sweepL m.text f = none) : recL m = none := by
 unfold recL; rw [sweepAll_none h hf]
 rfl
theorem rec_none2 {m : Img} {all : List (List Sp)} (ha : sweepAll m.text m.funcs = some all) {done rest : List Int} {a : Int} {ld : Int → Bool} (hs : m.tables.flatten = done ++ a :: rest) (hd : tabsLd (ownA all) done (fun _ => false) = some ld) (hn : ownA all a = none) : recL m = none := by
 unfold recL; rw [ha]; show ((tabsLd (ownA all) m.tables.flatten fun _ => false).bind _) = none; rw [hs, tabsLd_app, hd]; show ((if (ownA all a).isSome = true then tabsLd (ownA all) rest (upF ld a true) else none).bind _) = none; rw [hn]
 rfl
theorem rec_none3 {m : Img} {all : List (List Sp)} (ha : sweepAll m.text m.funcs = some all) {ld0 : Int → Bool} (hd : tabsLd (ownA all) m.tables.flatten (fun _ => false) = some ld0) (hn : markAll m (ownA all) (m.funcs.zip all) 0 ld0 = none) : recL m = none := by
 unfold recL; rw [ha]; show ((tabsLd (ownA all) m.tables.flatten fun _ => false).bind _) = none; rw [hd]; show (markAll m (ownA all) (m.funcs.zip all) 0 ld0).map _ = none; rw [hn]
 rfl
def flowOf (m : Img) (all : List (List Sp)) (ld : Int → Bool) : FlowD :=
 let c := cutAll m ld all 0 ⟨[], fun _ => none⟩ []
 ⟨c.1.bs.map (joinB c.1.bm), m.tables.map fun t => t.map fun a => (c.1.bm a).getD 0, c.2⟩
theorem rec_some {m : Img} {all : List (List Sp)} (ha : sweepAll m.text m.funcs = some all) {ld0 ld : Int → Bool} (hd : tabsLd (ownA all) m.tables.flatten (fun _ => false) = some ld0) (hn : markAll m (ownA all) (m.funcs.zip all) 0 ld0 = some ld) : recL m = some (flowOf m all ld) := by
 unfold recL; rw [ha]; show ((tabsLd (ownA all) m.tables.flatten fun _ => false).bind _) = some _; rw [hd]; show (markAll m (ownA all) (m.funcs.zip all) 0 ld0).map _ = some _; rw [hn]
 rfl
theorem mark_none {m : Img} {own : Int → Option Int} {l : List (FnD × List Sp)} {i : Nat} {f : FnD} {sp : List Sp} {ld0 ld : Int → Bool} (hx : l[i]? = some (f, sp)) (hd : markAll m own (l.take i) 0 ld0 = some ld) (hn : markGo m own i sp (upF ld f.start true) = none) : markAll m own l 0 ld0 = none := by
 obtain ⟨hi, he⟩ := List.getElem?_eq_some_iff.1 hx; rw [← List.take_append_drop i l, markAll_app, hd, List.drop_eq_getElem_cons hi, he, List.length_take, Nat.min_eq_left (by omega)]; show (markGo m own (0 + (i : Int)) sp (upF ld f.start true)).bind _ = none; rw [Int.zero_add, hn]
 rfl
theorem mark_next {m : Img} {own : Int → Option Int} {l : List (FnD × List Sp)} {i : Nat} {f : FnD} {sp : List Sp} {ld0 ld ld' : Int → Bool} (hx : l[i]? = some (f, sp)) (hd : markAll m own (l.take i) 0 ld0 = some ld) (hn : markGo m own i sp (upF ld f.start true) = some ld') : markAll m own (l.take (i + 1)) 0 ld0 = some ld' := by
 obtain ⟨hi, he⟩ := List.getElem?_eq_some_iff.1 hx; rw [List.take_add_one, hx]; show markAll m own (l.take i ++ [(f, sp)]) 0 ld0 = _; rw [markAll_snoc, hd, List.length_take, Nat.min_eq_left (by omega)]; show markGo m own (0 + (i : Int)) sp (upF ld f.start true) = _; rw [Int.zero_add, hn]
theorem RecS.start {w1 : World} {B : Nat} {m : Img} {v : ImgV} (hB : B ≤ w1.heap.size) (hI : ImgRd w1 B m v) :
 RecS ((((w1.alloc (.map #[] 0)).alloc (.map #[] 0)).alloc (.map #[] 0)).alloc (.cells (finC m v none 0 0 w1.heap.size (w1.heap.size + 1) (w1.heap.size + 2) nil3).toArray 112)) B (w1.heap.size + 3) m v none 0 [] [] w1.heap.size 0 (ownA []) (w1.heap.size + 1) 0 (fun _ => false) (w1.heap.size + 2) := by
 obtain ⟨wa, hwa⟩ := ex' (w1.alloc (.map #[] 0))
 have za : wa.heap.size = w1.heap.size + 1 := by rw [← hwa]; simp
 have ba : Below w1.heap.size w1 wa := by rw [← hwa]; exact (Below.refl _ _).alloc lr' _
 have o1 : MapI wa w1.heap.size 0 (fun _ => none) := by rw [← hwa]; exact MapI.made w1
 rw [hwa]; obtain ⟨wb, hwb⟩ := ex' (wa.alloc (.map #[] 0))
 have zb : wb.heap.size = w1.heap.size + 2 := by rw [← hwb]; simp [za]
 have bb : Below wa.heap.size wa wb := by rw [← hwb]; exact (Below.refl _ _).alloc lr' _
 have l1 : MapB wb (w1.heap.size + 1) 0 (fun _ => false) := by rw [← hwb, ← za]; exact MapB.made wa
 rw [hwb]; obtain ⟨wc, hwc⟩ := ex' (wb.alloc (.map #[] 0))
 have zc : wc.heap.size = w1.heap.size + 3 := by rw [← hwc]; simp [zb]
 have bc : Below wb.heap.size wb wc := by rw [← hwc]; exact (Below.refl _ _).alloc lr' _
 have k1 : MapI wc (w1.heap.size + 2) 0 (fun _ => none) := by rw [← hwc, ← zb]; exact MapI.made wb
 rw [hwc]; obtain ⟨wd, hwd⟩ := ex' (wc.alloc (.cells (finC m v none 0 0 w1.heap.size (w1.heap.size + 1) (w1.heap.size + 2) nil3).toArray 112))
 have bd : Below wc.heap.size wc wd := by rw [← hwd]; exact (Below.refl _ _).alloc lr' _
 have x1 : Blk wd (w1.heap.size + 3) 112 (finC m v none 0 0 w1.heap.size (w1.heap.size + 1) (w1.heap.size + 2) nil3) := by rw [← hwd, ← zc]; exact Blk.new wc _ _
 rw [hwd]; refine ⟨hI.below (((ba.mono hB).trans (bb.mono (by omega))).trans ((bc.mono (by omega)).trans (bd.mono (by omega)))), x1, ⟨rfl, .inl ⟨rfl, rfl⟩⟩, fun j l hj => by simp at hj, ((o1.keep bb).keep bc).keep bd, (l1.keep bc).keep bd, k1.keep bd, ⟨by omega, by omega, by omega, by omega, by omega, by omega, by omega⟩⟩
def ownJ' (all : List (List Sp)) (l : List Sp) (j : Nat) : Int → Option Int := (l.take j).foldl (fun o s => upF o s.p (some (all.length : Int))) (ownA all)
theorem ownJ'_succ {all : List (List Sp)} {l : List Sp} {j : Nat} {s : Sp} (h : l[j]? = some s) : ownJ' all l (j + 1) = upF (ownJ' all l j) s.p (some (all.length : Int)) := by
 unfold ownJ'; rw [List.take_add_one, h, Option.toList_some, List.foldl_append]
 rfl
theorem ownJ'_all {all : List (List Sp)} {l : List Sp} {j : Nat} (h : l.length ≤ j) : ownJ' all l j = ownA (all ++ [l]) := by
 rw [ownA_snoc, ownJ', List.take_of_length_le h]
theorem all_ok {m : Img} (hc : checkE m = 0) (h8 : m.text.length ≤ 8000) {f : FnD} {sp : List Sp} (hf : f ∈ m.funcs) (hs : sweepL m.text f = some sp) : (∀ s ∈ sp, SpOk s) ∧ sp.length ≤ 8000 := by
 obtain ⟨a1, a2, a3⟩ := fns_ok hc f hf; have hl := sweepL_len hs; exact ⟨fun s h => (sweep_sp hs a1 a2 a3 h8 s h).1, by omega⟩
end Go.Proofs.YtcdlgjhdbmmomaaGreatDoor
