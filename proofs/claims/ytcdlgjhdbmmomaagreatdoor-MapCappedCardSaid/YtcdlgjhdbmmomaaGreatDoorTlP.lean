/- A tally's text, as plain words: numbers, lines, what Read answers; what is written is read again. -/
import Derived.Test.YtcdlgjhdbmmomaaGreatDoorIsaC
import Derived.Lib.AtoiAll
import Derived.Lib.ItoaNum
import Derived.Lib.Split
import Derived.Lib.IndexLaws
namespace Go.Proofs.YtcdlgjhdbmmomaaGreatDoor
open Go.RowKit
def numE (l : List UInt8) : Option Int := match Lib.atoiAll l with
 | .ok v => if Lib.itoa v = l ∧ 0 ≤ v ∧ v ≤ 1073741824 then some v else none
 | _ => none
structure EdgE where
 a : Int
 b : Int
 c : Int
def lineT (l : List UInt8) : Option EdgE := match Lib.split l [32] with
 | [x, y, z] => (numE x).bind fun a => (numE y).bind fun b => (numE z).bind fun c => some ⟨a, b, c⟩
 | _ => none
def readG : Nat → List UInt8 → Sum Int (List EdgE)
 | 0, _ => .inr []
 | n + 1, s => if s = [] then .inr [] else if (Lib.cut s [10]).2.2 = false then .inl 5 else match lineT (Lib.cut s [10]).1 with
  | none => .inl 4
  | some e => match readG n (Lib.cut s [10]).2.1 with
   | .inl x => .inl x
   | .inr es => .inr (e :: es)
theorem readG_succ (n : Nat) (s : List UInt8) : readG (n + 1) s = if s = [] then .inr [] else if (Lib.cut s [10]).2.2 = false then .inl 5 else match lineT (Lib.cut s [10]).1 with
 | none => .inl 4
 | some e => match readG n (Lib.cut s [10]).2.1 with
  | .inl x => .inl x
  | .inr es => .inr (e :: es) := rfl
def readE (s : List UInt8) : Sum Int (List EdgE) := if 4000 < s.length then .inl 1 else readG (s.length + 1) s
def preS (es : List EdgE) : Sum Int (List EdgE) → Sum Int (List EdgE)
 | .inl x => .inl x
 | .inr l => .inr (es ++ l)
theorem atoiAll_bd {l : List UInt8} {v : Int} (h : Lib.atoiAll l = .ok v) : -9223372036854775808 ≤ v ∧ v ≤ 9223372036854775807 := by
 unfold Lib.atoiAll at h
 split at h
 · cases h
 · simp only at h
   split at h
   · cases h
   · cases h
   · split at h
     · cases h
     · split at h
       · cases h
       · injection h with h
         split at h <;> omega
theorem digit_nat (d : Nat) (h : d < 10) : (UInt8.ofNat (48 + d)).toNat = 48 + d := by
 have : 48 + d < 256 := by omega
 simp [Nat.mod_eq_of_lt this]
theorem parse_app : ∀ (l r : List UInt8) (acc : Nat), Lib.parseUint10 acc (l ++ r) = match Lib.parseUint10 acc l with | .ok v => Lib.parseUint10 v r | x => x
 | [], r, acc => rfl
 | c :: l, r, acc => by
  simp only [List.cons_append, Lib.parseUint10]
  split
  · split
    · rfl
    · split
      · rfl
      · exact parse_app l r _
  · rfl
theorem parse_digits (u : Nat) : ∀ acc : Nat, acc * 10 ^ Lib.nDigits u + u < 1000000000000000 → Lib.parseUint10 acc (Lib.decDigits u) = .ok (acc * 10 ^ Lib.nDigits u + u) := by
 induction u using Nat.strongRecOn with
 | ind u ih =>
  intro acc h
  by_cases hu : u < 10
  · rw [Lib.nDigits_small hu, Nat.pow_one] at h ⊢; rw [Lib.decDigits_one hu]; simp only [Lib.parseUint10]; rw [digit_nat u hu, if_pos (by omega), if_neg (by omega), if_neg (by omega)]
    congr 1
    omega
  · have e : Lib.decDigits u = Lib.decDigits (u / 10) ++ [UInt8.ofNat (48 + u % 10)] := by rw [Lib.decDigits, dif_neg hu]
    rw [Lib.nDigits_big hu, Nat.pow_succ] at h ⊢; have hm : acc * (10 ^ Lib.nDigits (u / 10) * 10) = (acc * 10 ^ Lib.nDigits (u / 10)) * 10 := by rw [Nat.mul_assoc]
    rw [hm] at h ⊢; rw [e, parse_app, ih (u / 10) (by omega) acc (by omega)]; simp only [Lib.parseUint10]; rw [digit_nat _ (by omega), if_pos (by omega), if_neg (by omega), if_neg (by omega)]
    congr 1
    omega
theorem dec_ne (u : Nat) : Lib.decDigits u ≠ [] := fun e => by
 have h1 := congrArg List.length e; rw [Lib.decDigits_length] at h1; have := Lib.nDigits_pos u; simp only [List.length_nil] at h1; omega
theorem dec_digit (u : Nat) : ∀ c ∈ Lib.decDigits u, 48 ≤ c.toNat ∧ c.toNat ≤ 57 := by
 induction u using Nat.strongRecOn with
 | ind u ih =>
  intro c hc
  by_cases hu : u < 10
  · rw [Lib.decDigits_one hu, List.mem_singleton] at hc; rw [hc, digit_nat u hu]; omega
  · rw [Lib.decDigits, dif_neg hu] at hc; rcases List.mem_append.1 hc with hc | hc
    · exact ih (u / 10) (by omega) c hc
    · rw [List.mem_singleton] at hc; rw [hc, digit_nat _ (by omega)]; omega
theorem numE_itoa {u : Nat} (h : u ≤ 1073741824) : numE (Lib.itoa u) = some (u : Int) := by
 have e : Lib.itoa (u : Int) = Lib.decDigits u := by
  unfold Lib.itoa; rw [if_neg (by omega), Int.toNat_natCast]
 have hp := parse_digits u 0 (by omega); rw [Nat.zero_mul, Nat.zero_add] at hp
 have ha : Lib.atoiAll (Lib.decDigits u) = .ok (u : Int) := by
  obtain ⟨c, r, hcr⟩ := List.exists_cons_of_ne_nil (dec_ne u); have hc := dec_digit u c (by rw [hcr]; exact List.mem_cons_self); rw [hcr] at hp ⊢; unfold Lib.atoiAll; simp only; rw [if_neg (by omega)]
  have hm : Lib.parseMag (c :: r) = .ok u := by
   unfold Lib.parseMag; rw [if_neg (by simp)]; exact hp
  rw [hm]; simp only; rw [if_neg (by omega), if_neg (by omega), if_neg (by omega)]
 unfold numE; rw [e, ha]; simp only; rw [if_pos ⟨e, by omega, by omega⟩]
theorem index_byte (c : UInt8) : ∀ (l r : List UInt8), (∀ x ∈ l, x ≠ c) → Lib.index (l ++ c :: r) [c] = (l.length : Int)
 | [], r, _ => by simp [Lib.index, List.isPrefixOf]
 | x :: l, r, h => by
  have ih := index_byte c l r fun y hy => h y (List.mem_cons_of_mem _ hy)
  have hx := h x List.mem_cons_self; simp only [List.cons_append, Lib.index]; rw [if_neg (by simp [List.isPrefixOf]; exact fun e => hx e.symm), ih, if_neg (by simp; try omega)]
  push_cast
  rfl
theorem index_no (c : UInt8) : ∀ l : List UInt8, (∀ x ∈ l, x ≠ c) → Lib.index l [c] = -1
 | [], _ => by simp [Lib.index]
 | x :: l, h => by
  have ih := index_no c l fun y hy => h y (List.mem_cons_of_mem _ hy)
  have hx := h x List.mem_cons_self; simp only [Lib.index]; rw [if_neg (by simp [List.isPrefixOf]; exact fun e => hx e.symm), ih]
  rfl
theorem cut_byte (c : UInt8) (l r : List UInt8) (h : ∀ x ∈ l, x ≠ c) : Lib.cut (l ++ c :: r) [c] = (l, r, true) := by
 unfold Lib.cut; rw [index_byte c l r h, if_pos (by omega), Int.toNat_natCast]; simp
theorem count_step (c : UInt8) (l r : List UInt8) (h : ∀ x ∈ l, x ≠ c) (n : Nat) : Lib.countFrom [c] (n + 1) (l ++ c :: r) = 1 + Lib.countFrom [c] n r := by
 rw [show Lib.countFrom [c] (n + 1) (l ++ c :: r) = if Lib.index (l ++ c :: r) [c] == -1 then 0 else 1 + Lib.countFrom [c] n ((l ++ c :: r).drop ((Lib.index (l ++ c :: r) [c]).toNat + [c].length)) from rfl, index_byte c l r h, if_neg (by simp; try omega), Int.toNat_natCast]
 congr 2
 simp
theorem count_no (c : UInt8) (l : List UInt8) (h : ∀ x ∈ l, x ≠ c) : ∀ n : Nat, Lib.countFrom [c] n l = 0
 | 0 => rfl
 | n + 1 => by
  unfold Lib.countFrom; rw [index_no c l h]
  rfl
theorem splitK_step (c : UInt8) (l r : List UInt8) (h : ∀ x ∈ l, x ≠ c) (k : Nat) : Lib.splitK [c] 0 (k + 1) (l ++ c :: r) = l :: Lib.splitK [c] 0 k r := by
 rw [show Lib.splitK [c] 0 (k + 1) (l ++ c :: r) = if Lib.index (l ++ c :: r) [c] == -1 then [l ++ c :: r] else (l ++ c :: r).take ((Lib.index (l ++ c :: r) [c]).toNat + 0) :: Lib.splitK [c] 0 k ((l ++ c :: r).drop ((Lib.index (l ++ c :: r) [c]).toNat + [c].length)) from rfl, index_byte c l r h, if_neg (by simp; try omega), Int.toNat_natCast]; simp
theorem split3 {x y z : List UInt8} (hx : ∀ c ∈ x, c ≠ 32) (hy : ∀ c ∈ y, c ≠ 32) (hz : ∀ c ∈ z, c ≠ 32) : Lib.split (x ++ 32 :: (y ++ 32 :: z)) [32] = [x, y, z] := by
 have hc : Lib.count (x ++ 32 :: (y ++ 32 :: z)) [32] = 2 := by
  have hl : (x ++ 32 :: (y ++ 32 :: z)).length + 1 = ((x.length + y.length + z.length) + 1) + 1 + 1 := by
   simp only [List.length_append, List.length_cons]; omega
  unfold Lib.count; rw [hl, count_step 32 x _ hx, count_step 32 y _ hy, count_no 32 z hz]
 unfold Lib.split; rw [hc, splitK_step 32 x _ hx, splitK_step 32 y _ hy]
 rfl
def fmtE (e : EdgE) : List UInt8 := Lib.itoa e.a ++ 32 :: (Lib.itoa e.b ++ 32 :: (Lib.itoa e.c ++ [10]))
structure EdgOk (e : EdgE) : Prop where
 a : 0 ≤ e.a ∧ e.a ≤ 1073741824
 b : 0 ≤ e.b ∧ e.b ≤ 1073741824
 c : 0 ≤ e.c ∧ e.c ≤ 1073741824
theorem itoa_digit {n : Int} (h : 0 ≤ n) : ∀ c ∈ Lib.itoa n, 48 ≤ c.toNat ∧ c.toNat ≤ 57 := by
 unfold Lib.itoa; rw [if_neg (by omega)]; exact dec_digit _
theorem ne_of_digit {c x : UInt8} (h : 48 ≤ c.toNat ∧ c.toNat ≤ 57) (hx : x.toNat < 48) : c ≠ x := fun e => by
 rw [e] at h; omega
theorem numE_ok {n : Int} (h : 0 ≤ n ∧ n ≤ 1073741824) : numE (Lib.itoa n) = some n := by
 obtain ⟨u, rfl⟩ := Int.eq_ofNat_of_zero_le h.1; exact numE_itoa (by omega)
theorem lineT_fmt {e : EdgE} (h : EdgOk e) : lineT (Lib.itoa e.a ++ 32 :: (Lib.itoa e.b ++ 32 :: Lib.itoa e.c)) = some e := by
 unfold lineT; rw [split3 (fun c hc => ne_of_digit (itoa_digit h.a.1 c hc) (by decide)) (fun c hc => ne_of_digit (itoa_digit h.b.1 c hc) (by decide)) (fun c hc => ne_of_digit (itoa_digit h.c.1 c hc) (by decide))]; simp only; rw [numE_ok h.a, numE_ok h.b, numE_ok h.c]
 rfl
theorem readG_fmt : ∀ (es : List EdgE) (n : Nat) (t : List UInt8), (∀ e ∈ es, EdgOk e) → es.length ≤ n → readG n (es.flatMap fmtE ++ t) = preS es (readG (n - es.length) t)
 | [], n, t, _, _ => by
  simp only [List.flatMap_nil, List.nil_append, List.length_nil, Nat.sub_zero]
  cases readG n t <;> rfl
 | e :: r, n, t, h, hn => by
  obtain ⟨k, rfl⟩ : ∃ k, n = k + 1 := ⟨n - 1, by simp at hn; omega⟩
  have he := h e List.mem_cons_self; have ih := readG_fmt r k t (fun x hx => h x (List.mem_cons_of_mem _ hx)) (by simpa using hn)
  have hs : (e :: r).flatMap fmtE ++ t = (Lib.itoa e.a ++ 32 :: (Lib.itoa e.b ++ 32 :: Lib.itoa e.c)) ++ 10 :: (r.flatMap fmtE ++ t) := by
   rw [List.flatMap_cons]; unfold fmtE; simp [List.append_assoc]
  have hc : Lib.cut ((e :: r).flatMap fmtE ++ t) [10] = (Lib.itoa e.a ++ 32 :: (Lib.itoa e.b ++ 32 :: Lib.itoa e.c), r.flatMap fmtE ++ t, true) := by
   rw [hs]; refine cut_byte 10 _ _ fun c hc => ?_
   rcases List.mem_append.1 hc with hc | hc
   · exact ne_of_digit (itoa_digit he.a.1 c hc) (by decide)
   · rcases List.mem_cons.1 hc with rfl | hc
     · decide
     · rcases List.mem_append.1 hc with hc | hc
       · exact ne_of_digit (itoa_digit he.b.1 c hc) (by decide)
       · rcases List.mem_cons.1 hc with rfl | hc
         · decide
         · exact ne_of_digit (itoa_digit he.c.1 c hc) (by decide)
  rw [readG_succ, if_neg (by rw [hs]; simp), hc]; simp only [lineT_fmt he, ih]; rw [if_neg (by simp)]; rw [show k + 1 - (e :: r).length = k - r.length by simp]
  cases readG (k - r.length) t <;> rfl
theorem fmt_len (es : List EdgE) (h : ∀ e ∈ es, EdgOk e) : (es.flatMap fmtE).length ≤ 33 * es.length ∧ es.length ≤ (es.flatMap fmtE).length := by
 have nd : ∀ n : Int, 0 ≤ n → n ≤ 1073741824 → (Lib.itoa n).length ≤ 10 ∧ 1 ≤ (Lib.itoa n).length := fun n h0 h1 => by
  unfold Lib.itoa; rw [if_neg (by omega), Lib.decDigits_length]; refine ⟨?_, Lib.nDigits_pos _⟩; rcases Nat.lt_or_ge 10 (Lib.nDigits n.toNat) with h2 | h2
  · exfalso
    have gen : ∀ (k u : Nat), u < 10 ^ (k + 1) → Lib.nDigits u ≤ k + 1 := by
     intro k
     induction k with
     | zero => intro u hu; rw [Lib.nDigits_small (by omega)]; omega
     | succ k ih =>
      intro u hu
      by_cases h10 : u < 10
      · rw [Lib.nDigits_small h10]; omega
      · rw [Lib.nDigits_big h10]; have := ih (u / 10) (by rw [Nat.pow_succ] at hu; omega); omega
    have := gen 9 n.toNat (by omega); omega
  · exact h2
 induction es with
 | nil => simp
 | cons e r ih =>
  have he := h e List.mem_cons_self; obtain ⟨i1, i2⟩ := ih fun x hx => h x (List.mem_cons_of_mem _ hx)
  have h1 := nd _ he.a.1 he.a.2; have h2 := nd _ he.b.1 he.b.2; have h3 := nd _ he.c.1 he.c.2; rw [List.flatMap_cons, List.length_append, List.length_cons]
  have e1 : (fmtE e).length = (Lib.itoa e.a).length + ((Lib.itoa e.b).length + ((Lib.itoa e.c).length + 1 + 1) + 1) := by
   unfold fmtE; simp only [List.length_append, List.length_cons, List.length_nil]
  omega
theorem readE_fmt (es : List EdgE) (h : ∀ e ∈ es, EdgOk e) (hn : es.length ≤ 60) : readE (es.flatMap fmtE) = .inr es := by
 obtain ⟨h1, h2⟩ := fmt_len es h; have hr := readG_fmt es ((es.flatMap fmtE).length + 1) [] h (by omega); rw [List.append_nil] at hr; unfold readE; rw [if_neg (by omega), hr]; obtain ⟨k, hk⟩ : ∃ k, (es.flatMap fmtE).length + 1 - es.length = k + 1 := ⟨(es.flatMap fmtE).length - es.length, by omega⟩
 rw [hk]; rw [readG_succ, if_pos rfl]; simp [preS]
end Go.Proofs.YtcdlgjhdbmmomaaGreatDoor
