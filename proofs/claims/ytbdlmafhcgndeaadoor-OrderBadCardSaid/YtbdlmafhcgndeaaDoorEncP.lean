/- An image's bytes, in plain words: what is written, and what is read. -/
import Derived.Test.YtbdlmafhcgndeaaDoorImgE
namespace Go.Proofs.YtbdlmafhcgndeaaDoor
open Go.RowKit
theorem w64_inB {n : Int} (h1 : -9223372036854775808 ≤ n) (h2 : n ≤ 9223372036854775807) : wrap64 n = n := by unfold wrap64; omega
/-- a number in so many bytes, the highest one first -/
def numB (n : Int) : Nat → List Int
  | 0 => []
  | k + 1 => numB (n / 256) k ++ [n % 256]
theorem numB_len (k : Nat) : ∀ n, (numB n k).length = k := by
  induction k with
  | zero => intro n; rfl
  | succ k ih => intro n; simp [numB, ih]
def ByteL (l : List Int) : Prop := ∀ x ∈ l, 0 ≤ x ∧ x < 256
theorem ByteL.app {a b : List Int} (h : ByteL a) (k : ByteL b) : ByteL (a ++ b) := fun x hx => (List.mem_append.1 hx).elim (h x) (k x)
theorem ByteL.left {a b : List Int} (h : ByteL (a ++ b)) : ByteL a := fun x hx => h x (List.mem_append.2 (.inl hx))
theorem ByteL.right {a b : List Int} (h : ByteL (a ++ b)) : ByteL b := fun x hx => h x (List.mem_append.2 (.inr hx))
theorem ByteL.nil : ByteL [] := fun x h => by cases h
theorem numB_byte (k : Nat) : ∀ n, ByteL (numB n k) := by
  induction k with
  | zero => intro n; exact ByteL.nil
  | succ k ih =>
    intro n
    refine (ih _).app fun x hx => ?_
    simp only [List.mem_singleton] at hx
    omega
theorem ByteL.flat {α : Type} {F : α → List Int} : ∀ {l : List α}, (∀ x ∈ l, ByteL (F x)) → ByteL (l.flatMap F) := by
  intro l h x hx
  obtain ⟨a, ha, hxa⟩ := List.mem_flatMap.1 hx
  exact h a ha x hxa
/-- the number that bytes are -/
def valB (l : List Int) : Int := l.foldl (fun a b => a * 256 + b) 0
/-- .. as the program reckons it -/
def foldB (l : List Int) : Int := l.foldl (fun a b => wrap64 (a * 256) + b) 0
theorem valB_snoc (l : List Int) (b : Int) : valB (l ++ [b]) = valB l * 256 + b := by simp [valB]
theorem foldB_snoc (l : List Int) (b : Int) : foldB (l ++ [b]) = wrap64 (foldB l * 256) + b := by simp [foldB]
theorem snoc_ind {α : Type} {p : List α → Prop} (h0 : p []) (h1 : ∀ l a, p l → p (l ++ [a])) : ∀ l, p l := by
  intro l
  rw [← List.reverse_reverse l]
  induction l.reverse with
  | nil => exact h0
  | cons a r ih => rw [List.reverse_cons]; exact h1 _ _ ih
theorem foldB_val : ∀ l, ByteL l → foldB l = wrap64 (valB l) := by
  refine snoc_ind (fun _ => by simp [foldB, valB, wrap64]) fun l b ih h => ?_
  rw [foldB_snoc, valB_snoc, ih h.left]
  have hb := h.right b (by simp)
  generalize valB l = V
  unfold wrap64
  omega
theorem numB_val : ∀ l, ByteL l → numB (valB l) l.length = l := by
  refine snoc_ind (fun _ => rfl) fun l b ih h => ?_
  have hb := h.right b (by simp)
  rw [valB_snoc, List.length_append, List.length_singleton, numB, show (valB l * 256 + b) / 256 = valB l by omega, show (valB l * 256 + b) % 256 = b by omega, ih h.left]
theorem numB_add (k : Nat) : ∀ x t : Int, numB (x + 256 ^ k * t) k = numB x k := by
  induction k with
  | zero => intro x t; rfl
  | succ k ih =>
    intro x t
    have e : (256 : Int) ^ (k + 1) * t = 256 * (256 ^ k * t) := by rw [Int.pow_succ, Int.mul_comm ((256 : Int) ^ k) 256, Int.mul_assoc]
    have hy := ih (x / 256) t
    rw [e]
    obtain ⟨y, e2⟩ : ∃ y, (256 : Int) ^ k * t = y := ⟨_, rfl⟩
    rw [e2] at hy ⊢
    rw [numB, numB, show (x + 256 * y) / 256 = x / 256 + y by omega, show (x + 256 * y) % 256 = x % 256 by omega, hy]
theorem numB_wrap (x : Int) : numB (wrap64 x) 8 = numB x 8 := by
  have h : wrap64 x = x + 256 ^ 8 * (-((x + 9223372036854775808) / 18446744073709551616)) := by
    rw [show (256 : Int) ^ 8 = 18446744073709551616 by decide]
    unfold wrap64
    omega
  rw [h, numB_add]
theorem valB_num1 (n : Int) : valB (numB n 1) = n % 256 := by simp [numB, valB]
theorem valB_num2 (n : Int) : valB (numB n 2) = n % 65536 := by simp [numB, valB]; omega
theorem valB_num8 (n : Int) : valB (numB n 8) = n % 18446744073709551616 := by
  rw [numB, valB_snoc, numB, valB_snoc, numB, valB_snoc, numB, valB_snoc, numB, valB_snoc, numB, valB_snoc, numB, valB_snoc, valB_num1]
  omega
theorem valB_bd : ∀ l, ByteL l → 0 ≤ valB l ∧ valB l < 256 ^ l.length := by
  refine snoc_ind (fun _ => ⟨Int.le_refl _, by decide⟩) fun l b ih h => ?_
  have hb := h.right b (by simp)
  obtain ⟨h1, h2⟩ := ih h.left
  rw [valB_snoc, List.length_append, List.length_singleton, Int.pow_succ]
  obtain ⟨y, e⟩ : ∃ y, (256 : Int) ^ l.length = y := ⟨_, rfl⟩
  rw [e] at h2 ⊢
  omega
theorem foldB_1 {l : List Int} (h : ByteL l) (hl : l.length = 1) : numB (foldB l) 1 = l ∧ 0 ≤ foldB l ∧ foldB l < 256 := by
  have h2 := valB_bd l h
  rw [hl] at h2
  have e : foldB l = valB l := by rw [foldB_val l h]; exact w64_inB (by omega) (by omega)
  rw [e]
  exact ⟨by have := numB_val l h; rw [hl] at this; exact this, by omega, by omega⟩
theorem foldB_2 {l : List Int} (h : ByteL l) (hl : l.length = 2) : numB (foldB l) 2 = l ∧ 0 ≤ foldB l ∧ foldB l < 65536 := by
  have h2 := valB_bd l h
  rw [hl] at h2
  have e : foldB l = valB l := by rw [foldB_val l h]; exact w64_inB (by omega) (by omega)
  rw [e]
  exact ⟨by have := numB_val l h; rw [hl] at this; exact this, by omega, by omega⟩
theorem foldB_8 {l : List Int} (h : ByteL l) (hl : l.length = 8) : numB (foldB l) 8 = l := by
  rw [foldB_val l h, numB_wrap]
  have := numB_val l h
  rw [hl] at this
  exact this
theorem foldB_n1 {n : Int} (h : 0 ≤ n ∧ n < 256) : foldB (numB n 1) = n := by
  rw [foldB_val _ (numB_byte 1 n), valB_num1, w64_inB (by omega) (by omega)]; omega
theorem foldB_n2 {n : Int} (h : 0 ≤ n ∧ n < 65536) : foldB (numB n 2) = n := by
  rw [foldB_val _ (numB_byte 2 n), valB_num2, w64_inB (by omega) (by omega)]; omega
theorem foldB_n8 {n : Int} (h : N64 n) : foldB (numB n 8) = n := by
  rw [foldB_val _ (numB_byte 8 n), valB_num8]
  obtain ⟨h1, h2⟩ := h
  unfold wrap64
  omega
theorem foldB_64 {l : List Int} (h : ByteL l) : N64 (foldB l) := by
  rw [foldB_val l h]
  unfold N64 wrap64
  omega
/-- a string of bytes -/
def strOf (l : List Int) : ByteArray := ⟨(l.map fun x => x.toNat.toUInt8).toArray⟩
theorem strOf_size (l : List Int) : (strOf l).size = l.length := by simp [strOf, ByteArray.size]
theorem strL_of {l : List Int} (h : ByteL l) : strL (strOf l) = l := by
  unfold strL strOf
  simp only [List.map_map]
  conv => rhs; rw [← List.map_id l]
  refine List.map_congr_left fun x hx => ?_
  obtain ⟨h1, h2⟩ := h x hx
  obtain ⟨n, rfl⟩ : ∃ n : Nat, x = n := ⟨x.toNat, by omega⟩
  have : n < 256 := by omega
  simp [Nat.toUInt8, UInt8.toNat_ofNat', Nat.mod_eq_of_lt this]
theorem strOf_L (s : ByteArray) : strOf (strL s) = s := by
  unfold strL strOf
  simp only [List.map_map]
  have : (fun x : Int => x.toNat.toUInt8) ∘ (fun b : UInt8 => (b.toNat : Int)) = id := by
    funext b
    simp [Nat.toUInt8]
  rw [this, List.map_id]
/-- what an image is written as -/
def encFn (f : FnD) : List Int := numB f.name.size 1 ++ strL f.name ++ numB f.size 2
def encTab (t : List Int) : List Int := numB t.length 1 ++ t.flatMap (numB · 2)
def encLn (l : Int × Int) : List Int := numB l.1 2 ++ numB l.2 2
def encBody (m : Img) : List Int :=
  numB m.text.length 2 ++ (m.text ++ (numB m.funcs.length 1 ++ (m.funcs.flatMap encFn ++ (numB m.entry 1 ++ (numB m.tables.length 1 ++ (m.tables.flatMap encTab ++ (numB m.data.length 1 ++ (m.data.flatMap (numB · 8) ++ (numB m.lines.length 2 ++ m.lines.flatMap encLn)))))))))
def magicL : List Int := [98, 104, 49, 10]
def encF (m : Img) : List Int := magicL ++ encBody m
/-- a reader: what is left, and whether it ended too early -/
structure RS where
  inp : List Int
  sh : Bool
def takeR (s : RS) (n : Int) : List Int × RS := if s.sh = true ∨ (s.inp.length : Int) < n then ([], ⟨s.inp, true⟩) else (s.inp.take n.toNat, ⟨s.inp.drop n.toNat, false⟩)
def numR (s : RS) (k : Int) : Int × RS := (foldB (takeR s k).1, (takeR s k).2)
def funcsR : Nat → RS → Int → List FnD × RS
  | 0, s, _ => ([], s)
  | n + 1, s, p => if s.sh = true then ([], s) else
    (⟨strOf (takeR (numR s 1).2 (numR s 1).1).1, p, (numR (takeR (numR s 1).2 (numR s 1).1).2 2).1⟩ :: (funcsR n (numR (takeR (numR s 1).2 (numR s 1).1).2 2).2 (p + (numR (takeR (numR s 1).2 (numR s 1).1).2 2).1)).1,
      (funcsR n (numR (takeR (numR s 1).2 (numR s 1).1).2 2).2 (p + (numR (takeR (numR s 1).2 (numR s 1).1).2 2).1)).2)
def intsR (k : Int) : Nat → RS → List Int × RS
  | 0, s => ([], s)
  | n + 1, s => if s.sh = true then ([], s) else ((numR s k).1 :: (intsR k n (numR s k).2).1, (intsR k n (numR s k).2).2)
def tabR (s : RS) : List Int × RS := intsR 2 (numR s 1).1.toNat (numR s 1).2
def tabsR : Nat → RS → List (List Int) × RS
  | 0, s => ([], s)
  | n + 1, s => if s.sh = true then ([], s) else ((tabR s).1 :: (tabsR n (tabR s).2).1, (tabsR n (tabR s).2).2)
def linesR : Nat → RS → List (Int × Int) × RS
  | 0, s => ([], s)
  | n + 1, s => if s.sh = true then ([], s) else (((numR s 2).1, (numR (numR s 2).2 2).1) :: (linesR n (numR (numR s 2).2 2).2).1, (linesR n (numR (numR s 2).2 2).2).2)
/-- the parts behind the head, one by one -/
def textR (s : RS) : List Int × RS := takeR (numR s 2).2 (numR s 2).1
def fnsR (s : RS) : List FnD × RS := funcsR (numR s 1).1.toNat (numR s 1).2 0
def tbsR (s : RS) : List (List Int) × RS := tabsR (numR s 1).1.toNat (numR s 1).2
def dtaR (s : RS) : List Int × RS := intsR 8 (numR s 1).1.toNat (numR s 1).2
def lnsR (s : RS) : List (Int × Int) × RS := linesR (numR s 2).1.toNat (numR s 2).2
def bodyR (s : RS) : Img × RS :=
  (⟨(textR s).1, (fnsR (textR s).2).1, (tbsR (numR (fnsR (textR s).2).2 1).2).1, (dtaR (tbsR (numR (fnsR (textR s).2).2 1).2).2).1, (lnsR (dtaR (tbsR (numR (fnsR (textR s).2).2 1).2).2).2).1, (numR (fnsR (textR s).2).2 1).1⟩,
    (lnsR (dtaR (tbsR (numR (fnsR (textR s).2).2 1).2).2).2).2)
def Img.zero : Img := ⟨[], [], [], [], [], 0⟩
def decF (b : List Int) : Img × Int :=
  if 100000 < b.length then (Img.zero, 1)
  else if b.take 4 ≠ magicL.take b.length then (Img.zero, 4)
  else if b.length < 4 then (Img.zero, 5)
  else if (bodyR ⟨b.drop 4, false⟩).2.sh = true then (Img.zero, 5)
  else if (bodyR ⟨b.drop 4, false⟩).2.inp ≠ [] then (Img.zero, 4)
  else if checkE (bodyR ⟨b.drop 4, false⟩).1 ≠ 0 then (Img.zero, checkE (bodyR ⟨b.drop 4, false⟩).1)
  else ((bodyR ⟨b.drop 4, false⟩).1, 0)
/-! what is read, is written so -/
theorem takeR_ok {s : RS} {n : Int} (hn : 0 ≤ n) (h : (takeR s n).2.sh = false) : s.sh = false ∧ s.inp = (takeR s n).1 ++ (takeR s n).2.inp ∧ ((takeR s n).1.length : Int) = n := by
  unfold takeR at h ⊢
  split at h
  · cases h
  · rename_i hc
    rw [if_neg hc]
    refine ⟨?_, by simp, ?_⟩
    · rcases hsh : s.sh with _ | _
      · rfl
      · exact absurd (.inl hsh) hc
    · have : ¬ (s.inp.length : Int) < n := fun e => hc (.inr e)
      simp only [List.length_take]
      omega
theorem takeR_short {s : RS} (n : Int) (h : s.sh = true) : takeR s n = ([], s) := by
  unfold takeR
  rw [if_pos (.inl h)]
  obtain ⟨i, b⟩ := s
  simp only at h
  rw [h]
/-- what a reading of a part must do: nothing is left out, nothing is read beside it -/
structure Reads {α : Type} (f : RS → α × RS) (e : α → List Int) : Prop where
  ok : ∀ s, ByteL s.inp → (f s).2.sh = false → s.sh = false ∧ s.inp = e (f s).1 ++ (f s).2.inp
  more : ∀ s q, ByteL s.inp → (f s).2.sh = false → f ⟨s.inp ++ q, s.sh⟩ = ((f s).1, ⟨(f s).2.inp ++ q, (f s).2.sh⟩)
  bytes : ∀ s, ByteL s.inp → ByteL (f s).2.inp
theorem takeR_more {s : RS} {n : Int} (hn : 0 ≤ n) (q : List Int) (h : (takeR s n).2.sh = false) : takeR ⟨s.inp ++ q, s.sh⟩ n = ((takeR s n).1, ⟨(takeR s n).2.inp ++ q, (takeR s n).2.sh⟩) := by
  obtain ⟨h1, -, -⟩ := takeR_ok hn h
  unfold takeR at h ⊢
  split at h
  · cases h
  · rename_i hc
    rw [if_neg hc]
    have h2 : ¬ (s.inp.length : Int) < n := fun e => hc (.inr e)
    rw [if_neg (by
      rintro (e | e)
      · exact hc (.inl e)
      · simp only [List.length_append] at e; omega)]
    rw [List.take_append_of_le_length (by omega), List.drop_append_of_le_length (by omega)]
theorem takeR_bytes {s : RS} (n : Int) (h : ByteL s.inp) : ByteL (takeR s n).2.inp ∧ ByteL (takeR s n).1 := by
  unfold takeR
  split
  · exact ⟨h, ByteL.nil⟩
  · exact ⟨fun x hx => h x (List.mem_of_mem_drop hx), fun x hx => h x (List.mem_of_mem_take hx)⟩
theorem numR_reads1 : Reads (numR · 1) (numB · 1) where
  ok s hb h := by
    obtain ⟨h1, h2, h3⟩ := takeR_ok (by decide) h
    refine ⟨h1, ?_⟩
    rw [h2]
    show _ = numB (foldB (takeR s 1).1) 1 ++ _
    rw [(foldB_1 (takeR_bytes 1 hb).2 (by omega)).1]
    rfl
  more s q _ h := by unfold numR; rw [takeR_more (by decide) q h]
  bytes s h := (takeR_bytes 1 h).1
theorem numR_reads2 : Reads (numR · 2) (numB · 2) where
  ok s hb h := by
    obtain ⟨h1, h2, h3⟩ := takeR_ok (by decide) h
    refine ⟨h1, ?_⟩
    rw [h2]
    show _ = numB (foldB (takeR s 2).1) 2 ++ _
    rw [(foldB_2 (takeR_bytes 2 hb).2 (by omega)).1]
    rfl
  more s q _ h := by unfold numR; rw [takeR_more (by decide) q h]
  bytes s h := (takeR_bytes 2 h).1
theorem numR_reads8 : Reads (numR · 8) (numB · 8) where
  ok s hb h := by
    obtain ⟨h1, h2, h3⟩ := takeR_ok (by decide) h
    refine ⟨h1, ?_⟩
    rw [h2]
    show _ = numB (foldB (takeR s 8).1) 8 ++ _
    rw [foldB_8 (takeR_bytes 8 hb).2 (by omega)]
    rfl
  more s q _ h := by unfold numR; rw [takeR_more (by decide) q h]
  bytes s h := (takeR_bytes 8 h).1
theorem numR_pos {s : RS} {k : Int} (hk : k = 1 ∨ k = 2) (hb : ByteL s.inp) : 0 ≤ (numR s k).1 := by
  have hbb := (takeR_bytes k hb).2
  unfold numR
  simp only
  rcases hsh : (takeR s k).2.sh with _ | _
  · obtain ⟨-, -, h3⟩ := takeR_ok (by omega) hsh
    rcases hk with rfl | rfl
    · exact (foldB_1 hbb (by omega)).2.1
    · exact (foldB_2 hbb (by omega)).2.1
  · have : (takeR s k).1 = [] := by
      unfold takeR at hsh ⊢
      split
      · rfl
      · rename_i hc
        rw [if_neg hc] at hsh
        cases hsh
    rw [this]
    decide
theorem numR_short {s : RS} (k : Int) (h : s.sh = true) : numR s k = (0, s) := by
  unfold numR
  rw [takeR_short k h]
  rfl
/-- two readings, one behind the other -/
theorem Reads.sh {α : Type} {f : RS → α × RS} {e : α → List Int} (h : Reads f e) {s : RS} (hb : ByteL s.inp) (hs : (f s).2.sh = false) : s.sh = false := (h.ok s hb hs).1
theorem funcsR_ok : ∀ (n : Nat) (s : RS) (p : Int), ByteL s.inp → (funcsR n s p).2.sh = false → s.sh = false ∧ s.inp = (funcsR n s p).1.flatMap encFn ++ (funcsR n s p).2.inp ∧ (funcsR n s p).1.length = n := by
  intro n
  induction n with
  | zero => intro s p _ h; exact ⟨h, rfl, rfl⟩
  | succ n ih =>
    intro s p hb h
    rcases hsh : s.sh with _ | _
    · simp only [funcsR] at h ⊢
      rw [if_neg (by simp [hsh])] at h ⊢
      have b1 := numR_reads1.bytes s hb
      have b2 := (takeR_bytes (numR s 1).1 b1).1
      have c2 := (takeR_bytes (numR s 1).1 b1).2
      have b3 := numR_reads2.bytes _ b2
      obtain ⟨h3, e3, l3⟩ := ih _ _ b3 h
      obtain ⟨h2, e2⟩ := numR_reads2.ok _ b2 h3
      have hp := numR_pos (k := 1) (.inl rfl) hb
      obtain ⟨h1, e1, l1⟩ := takeR_ok hp h2
      obtain ⟨h0, e0⟩ := numR_reads1.ok _ hb h1
      refine ⟨trivial, ?_, by simp [l3]⟩
      try simp only at e0 e1 e2 e3
      simp only [List.flatMap_cons, encFn, strOf_size, strL_of c2, l1]
      conv => lhs; rw [e0, e1, e2, e3]
      simp only [List.append_assoc]
    · simp only [funcsR] at h
      rw [if_pos hsh] at h
      simp only at h
      rw [hsh] at h
      cases h
theorem funcsR_more : ∀ (n : Nat) (s : RS) (p : Int) (q : List Int), ByteL s.inp → (funcsR n s p).2.sh = false → funcsR n ⟨s.inp ++ q, s.sh⟩ p = ((funcsR n s p).1, ⟨(funcsR n s p).2.inp ++ q, (funcsR n s p).2.sh⟩) := by
  intro n
  induction n with
  | zero => intro s p q _ h; rfl
  | succ n ih =>
    intro s p q hb h
    have hsh := (funcsR_ok (n + 1) s p hb h).1
    simp only [funcsR] at h ⊢
    rw [if_neg (by simp [hsh])] at h ⊢
    rw [if_neg (by simp [hsh])]
    have b1 := numR_reads1.bytes s hb
    have b2 := (takeR_bytes (numR s 1).1 b1).1
    have b3 := numR_reads2.bytes _ b2
    obtain ⟨h3, -, -⟩ := funcsR_ok n _ _ b3 h
    obtain ⟨h2, -⟩ := numR_reads2.ok _ b2 h3
    have hp := numR_pos (k := 1) (.inl rfl) hb
    obtain ⟨h1, -, -⟩ := takeR_ok hp h2
    have m1 := numR_reads1.more s q hb h1
    have m2 := takeR_more hp q h2
    have m3 := numR_reads2.more _ q b2 h3
    have m4 := ih _ (p + (numR (takeR (numR s 1).2 (numR s 1).1).2 2).1) q b3 h
    try simp only at m1 m2 m3 m4
    rw [hsh] at m1
    rw [hsh, m1]
    simp only
    rw [m2]
    simp only
    rw [m3]
    simp only
    rw [m4]
theorem funcsR_bytes : ∀ (n : Nat) (s : RS) (p : Int), ByteL s.inp → ByteL (funcsR n s p).2.inp := by
  intro n
  induction n with
  | zero => intro s p h; exact h
  | succ n ih =>
    intro s p h
    simp only [funcsR]
    split
    · exact h
    · exact ih _ _ (numR_reads2.bytes _ (takeR_bytes _ (numR_reads1.bytes s h)).1)
section
variable {α : Type} {f : RS → α × RS} {e : α → List Int}
/-- so often -/
def manyR (f : RS → α × RS) : Nat → RS → List α × RS
  | 0, s => ([], s)
  | n + 1, s => if s.sh = true then ([], s) else ((f s).1 :: (manyR f n (f s).2).1, (manyR f n (f s).2).2)
theorem manyR_ok (hf : Reads f e) : ∀ (n : Nat) (s : RS), ByteL s.inp → (manyR f n s).2.sh = false → s.sh = false ∧ s.inp = (manyR f n s).1.flatMap e ++ (manyR f n s).2.inp ∧ (manyR f n s).1.length = n := by
  intro n
  induction n with
  | zero => intro s _ h; exact ⟨h, rfl, rfl⟩
  | succ n ih =>
    intro s hb h
    rcases hsh : s.sh with _ | _
    · simp only [manyR] at h ⊢
      rw [if_neg (by simp [hsh])] at h ⊢
      obtain ⟨h3, e3, l3⟩ := ih _ (hf.bytes s hb) h
      obtain ⟨h0, e0⟩ := hf.ok _ hb h3
      refine ⟨trivial, ?_, by simp [l3]⟩
      simp only [List.flatMap_cons]
      conv => lhs; rw [e0, e3]
      simp only [List.append_assoc]
    · simp only [manyR] at h
      rw [if_pos hsh] at h
      simp only at h
      rw [hsh] at h
      cases h
theorem manyR_more (hf : Reads f e) : ∀ (n : Nat) (s : RS) (q : List Int), ByteL s.inp → (manyR f n s).2.sh = false → manyR f n ⟨s.inp ++ q, s.sh⟩ = ((manyR f n s).1, ⟨(manyR f n s).2.inp ++ q, (manyR f n s).2.sh⟩) := by
  intro n
  induction n with
  | zero => intro s q _ h; rfl
  | succ n ih =>
    intro s q hb h
    have hsh := (manyR_ok hf (n + 1) s hb h).1
    simp only [manyR] at h ⊢
    rw [if_neg (by simp [hsh])] at h ⊢
    rw [if_neg (by simp [hsh])]
    obtain ⟨h3, -, -⟩ := manyR_ok hf n _ (hf.bytes s hb) h
    have m1 := hf.more s q hb h3
    have m4 := ih _ q (hf.bytes s hb) h
    rw [m1]
    simp only
    rw [m4]
theorem manyR_bytes (hf : Reads f e) : ∀ (n : Nat) (s : RS), ByteL s.inp → ByteL (manyR f n s).2.inp := by
  intro n
  induction n with
  | zero => intro s h; exact h
  | succ n ih =>
    intro s h
    simp only [manyR]
    split
    · exact h
    · exact ih _ (hf.bytes s h)
end
theorem intsR_many (k : Int) : ∀ n s, intsR k n s = manyR (numR · k) n s := by
  intro n
  induction n with
  | zero => intro s; rfl
  | succ n ih => intro s; simp only [intsR, manyR, ih]
theorem tabsR_many : ∀ n s, tabsR n s = manyR tabR n s := by
  intro n
  induction n with
  | zero => intro s; rfl
  | succ n ih => intro s; simp only [tabsR, manyR, ih]
def lnR (s : RS) : (Int × Int) × RS := (((numR s 2).1, (numR (numR s 2).2 2).1), (numR (numR s 2).2 2).2)
theorem linesR_many : ∀ n s, linesR n s = manyR lnR n s := by
  intro n
  induction n with
  | zero => intro s; rfl
  | succ n ih => intro s; simp only [linesR, manyR, ih, lnR]
/-- how many, and then so many -/
theorem counted {α : Type} {f : RS → α × RS} {e : α → List Int} (hf : Reads f e) (k : Int) (hk : k = 1 ∨ k = 2) (hr : Reads (numR · k) (numB · k.toNat)) :
    Reads (fun s => manyR f (numR s k).1.toNat (numR s k).2) (fun l => numB l.length k.toNat ++ l.flatMap e) where
  ok s hb h := by
    obtain ⟨h1, e1, l1⟩ := manyR_ok hf _ _ (hr.bytes s hb) h
    obtain ⟨h0, e0⟩ := hr.ok s hb h1
    have hp := numR_pos hk hb
    refine ⟨h0, ?_⟩
    try simp only at e0 e1 l1 ⊢
    rw [l1, show (((numR s k).1.toNat : Nat) : Int) = (numR s k).1 by omega]
    conv => lhs; rw [e0, e1]
    simp only [List.append_assoc]
  more s q hb h := by
    obtain ⟨h1, -, -⟩ := manyR_ok hf _ _ (hr.bytes s hb) h
    have m1 := hr.more s q hb h1
    have m2 := manyR_more hf _ _ q (hr.bytes s hb) h
    try simp only at m1 m2 ⊢
    rw [m1]
    simp only
    rw [m2]
  bytes s h := manyR_bytes hf _ _ (hr.bytes s h)
theorem tabR_reads : Reads tabR encTab := by
  have h := counted numR_reads2 1 (.inl rfl) numR_reads1
  have e : tabR = fun s => manyR (numR · 2) (numR s 1).1.toNat (numR s 1).2 := by funext s; exact intsR_many 2 _ _
  rw [e]
  exact h
theorem lnR_reads : Reads lnR encLn where
  ok s hb h := by
    obtain ⟨h1, e1⟩ := numR_reads2.ok _ (numR_reads2.bytes s hb) h
    obtain ⟨h0, e0⟩ := numR_reads2.ok s hb h1
    refine ⟨h0, ?_⟩
    try simp only at e0 e1
    simp only [encLn, lnR]
    conv => lhs; rw [e0, e1]
    simp only [List.append_assoc]
  more s q hb h := by
    obtain ⟨h1, -⟩ := numR_reads2.ok _ (numR_reads2.bytes s hb) h
    have m1 := numR_reads2.more s q hb h1
    have m2 := numR_reads2.more _ q (numR_reads2.bytes s hb) h
    try simp only at m1 m2
    simp only [lnR]
    rw [m1]
    simp only
    rw [m2]
  bytes s h := numR_reads2.bytes _ (numR_reads2.bytes s h)
theorem textR_reads : Reads textR (fun l => numB l.length 2 ++ l) where
  ok s hb h := by
    have hp := numR_pos (k := 2) (.inr rfl) hb
    obtain ⟨h1, e1, l1⟩ := takeR_ok hp h
    obtain ⟨h0, e0⟩ := numR_reads2.ok s hb h1
    refine ⟨h0, ?_⟩
    try simp only at e0 e1
    simp only [textR, l1]
    conv => lhs; rw [e0, e1]
    simp only [List.append_assoc]
  more s q hb h := by
    have hp := numR_pos (k := 2) (.inr rfl) hb
    obtain ⟨h1, -, -⟩ := takeR_ok hp h
    have m1 := numR_reads2.more s q hb h1
    have m2 := takeR_more hp q h
    try simp only at m1 m2
    simp only [textR]
    rw [m1]
    simp only
    rw [m2]
  bytes s h := (takeR_bytes _ (numR_reads2.bytes s h)).1
theorem fnsR_reads : Reads fnsR (fun l => numB l.length 1 ++ l.flatMap encFn) where
  ok s hb h := by
    obtain ⟨h1, e1, l1⟩ := funcsR_ok _ _ _ (numR_reads1.bytes s hb) h
    obtain ⟨h0, e0⟩ := numR_reads1.ok s hb h1
    have hp := numR_pos (k := 1) (.inl rfl) hb
    refine ⟨h0, ?_⟩
    try simp only at e0 e1 l1
    simp only [fnsR]
    rw [l1, show (((numR s 1).1.toNat : Nat) : Int) = (numR s 1).1 by omega]
    conv => lhs; rw [e0, e1]
    simp only [List.append_assoc]
  more s q hb h := by
    obtain ⟨h1, -, -⟩ := funcsR_ok _ _ _ (numR_reads1.bytes s hb) h
    have m1 := numR_reads1.more s q hb h1
    have m2 := funcsR_more _ _ 0 q (numR_reads1.bytes s hb) h
    try simp only at m1 m2
    simp only [fnsR]
    rw [m1]
    simp only
    rw [m2]
  bytes s h := funcsR_bytes _ _ _ (numR_reads1.bytes s h)
theorem tbsR_reads : Reads tbsR (fun l => numB l.length 1 ++ l.flatMap encTab) := by
  have h := counted tabR_reads 1 (.inl rfl) numR_reads1
  have e : tbsR = fun s => manyR tabR (numR s 1).1.toNat (numR s 1).2 := by funext s; exact tabsR_many _ _
  rw [e]
  exact h
theorem dtaR_reads : Reads dtaR (fun l => numB l.length 1 ++ l.flatMap (numB · 8)) := by
  have h := counted numR_reads8 1 (.inl rfl) numR_reads1
  have e : dtaR = fun s => manyR (numR · 8) (numR s 1).1.toNat (numR s 1).2 := by funext s; exact intsR_many 8 _ _
  rw [e]
  exact h
theorem lnsR_reads : Reads lnsR (fun l => numB l.length 2 ++ l.flatMap encLn) := by
  have h := counted lnR_reads 2 (.inr rfl) numR_reads2
  have e : lnsR = fun s => manyR lnR (numR s 2).1.toNat (numR s 2).2 := by funext s; exact linesR_many _ _
  rw [e]
  exact h
theorem Reads.seq {α β : Type} {f : RS → α × RS} {g : RS → β × RS} {e : α → List Int} {e' : β → List Int} (hf : Reads f e) (hg : Reads g e') : Reads (fun s => (((f s).1, (g (f s).2).1), (g (f s).2).2)) (fun p => e p.1 ++ e' p.2) where
  ok s hb h := by
    obtain ⟨h1, e1⟩ := hg.ok _ (hf.bytes s hb) h
    obtain ⟨h0, e0⟩ := hf.ok s hb h1
    refine ⟨h0, ?_⟩
    rw [e0, e1, List.append_assoc]
  more s q hb h := by
    obtain ⟨h1, -⟩ := hg.ok _ (hf.bytes s hb) h
    have m1 := hf.more s q hb h1
    have m2 := hg.more _ q (hf.bytes s hb) h
    simp only
    rw [m1]
    simp only
    rw [m2]
  bytes s h := hg.bytes _ (hf.bytes s h)
theorem Reads.map {α β : Type} {f : RS → α × RS} {e : α → List Int} (hf : Reads f e) (h : α → β) (e' : β → List Int) (he : ∀ x, e' (h x) = e x) : Reads (fun s => (h (f s).1, (f s).2)) e' where
  ok s hb hs := by
    obtain ⟨h0, e0⟩ := hf.ok s hb hs
    exact ⟨h0, by rw [he]; exact e0⟩
  more s q hb hs := by
    simp only
    rw [hf.more s q hb hs]
  bytes s hb := hf.bytes s hb
theorem bodyR_reads : Reads bodyR encBody := by
  have h := ((((textR_reads.seq fnsR_reads).seq numR_reads1).seq tbsR_reads).seq dtaR_reads).seq lnsR_reads
  exact h.map (fun p => (⟨p.1.1.1.1.1, p.1.1.1.1.2, p.1.1.2, p.1.2, p.2, p.1.1.1.2⟩ : Img)) encBody (fun x => by simp only [encBody, List.append_assoc])
/-- what was decoded is encoded to the same bytes -/
theorem imgdec_enc {b : List Int} {m : Img} (hb : ByteL b) (h : decF b = (m, 0)) : checkE m = 0 ∧ encF m = b := by
  unfold decF at h
  split at h
  · cases h
  · split at h
    · cases h
    · rename_i hm
      split at h
      · cases h
      · rename_i hl
        split at h
        · cases h
        · rename_i hs
          split at h
          · cases h
          · rename_i hi
            split at h
            · rename_i hc
              injection h with _ h2
              exact absurd h2 hc
            · rename_i hc
              injection h with h1 _
              subst h1
              refine ⟨by simpa using hc, ?_⟩
              have hd : ByteL (b.drop 4) := fun x hx => hb x (List.mem_of_mem_drop hx)
              obtain ⟨-, e⟩ := bodyR_reads.ok ⟨b.drop 4, false⟩ hd (by simpa using hs)
              have hi2 : (bodyR ⟨b.drop 4, false⟩).2.inp = [] := by simpa using hi
              rw [hi2, List.append_nil] at e
              unfold encF
              rw [← e]
              have hm2 : b.take 4 = magicL.take b.length := by simpa using hm
              rw [List.take_of_length_le (l := magicL) (by unfold magicL; simp; omega)] at hm2
              rw [← hm2]
              exact List.take_append_drop 4 b
theorem dec_zero {b : List Int} (h : (decF b).2 ≠ 0) : (decF b).1 = Img.zero := by
  unfold decF at h ⊢
  split
  · rfl
  · split
    · rfl
    · split
      · rfl
      · split
        · rfl
        · split
          · rfl
          · split
            · rfl
            · rename_i h1 h2 h3 h4 h5 h6
              rw [if_neg h1, if_neg h2, if_neg h3, if_neg h4, if_neg h5, if_neg h6] at h
              exact absurd rfl h
/-! what is written is read back -/
theorem takeR_app (l r : List Int) : takeR ⟨l ++ r, false⟩ l.length = (l, ⟨r, false⟩) := by
  unfold takeR
  rw [if_neg (by simp; omega)]
  simp
theorem numR_app1 {n : Int} (h : 0 ≤ n ∧ n < 256) (r : List Int) : numR ⟨numB n 1 ++ r, false⟩ 1 = (n, ⟨r, false⟩) := by
  have := takeR_app (numB n 1) r
  rw [numB_len] at this
  unfold numR
  rw [show (1 : Int) = ((1 : Nat) : Int) from rfl, this, foldB_n1 h]
theorem numR_app2 {n : Int} (h : 0 ≤ n ∧ n < 65536) (r : List Int) : numR ⟨numB n 2 ++ r, false⟩ 2 = (n, ⟨r, false⟩) := by
  have := takeR_app (numB n 2) r
  rw [numB_len] at this
  unfold numR
  rw [show (2 : Int) = ((2 : Nat) : Int) from rfl, this, foldB_n2 h]
theorem numR_app8 {n : Int} (h : N64 n) (r : List Int) : numR ⟨numB n 8 ++ r, false⟩ 8 = (n, ⟨r, false⟩) := by
  have := takeR_app (numB n 8) r
  rw [numB_len] at this
  unfold numR
  rw [show (8 : Int) = ((8 : Nat) : Int) from rfl, this, foldB_n8 h]
theorem manyR_app {α : Type} {f : RS → α × RS} {e : α → List Int} : ∀ (l : List α) (r : List Int), (∀ x ∈ l, ∀ r, f ⟨e x ++ r, false⟩ = (x, ⟨r, false⟩)) → manyR f l.length ⟨l.flatMap e ++ r, false⟩ = (l, ⟨r, false⟩) := by
  intro l
  induction l with
  | nil => intro r _; rfl
  | cons x l ih =>
    intro r h
    simp only [List.length_cons, manyR, List.flatMap_cons, List.append_assoc]
    rw [if_neg (by simp), h x (by simp)]
    simp only
    rw [ih r (fun y hy => h y (by simp [hy]))]
/-- functions that stand one behind the other -/
def startsOk : Int → List FnD → Prop
  | _, [] => True
  | p, f :: r => f.start = p ∧ startsOk (p + f.size) r
theorem funcsR_app : ∀ (l : List FnD) (p : Int) (r : List Int), startsOk p l → (∀ f ∈ l, f.name.size ≤ 16 ∧ 0 ≤ f.size ∧ f.size < 65536) → funcsR l.length ⟨l.flatMap encFn ++ r, false⟩ p = (l, ⟨r, false⟩) := by
  intro l
  induction l with
  | nil => intro p r _ _; rfl
  | cons f l ih =>
    intro p r hs h
    obtain ⟨h1, h2, h3⟩ := h f (by simp)
    obtain ⟨s1, s2⟩ := hs
    simp only [List.length_cons, funcsR, List.flatMap_cons, List.append_assoc, encFn]
    rw [if_neg (by simp), numR_app1 (by omega)]
    simp only
    have := takeR_app (strL f.name) (numB f.size 2 ++ (l.flatMap encFn ++ r))
    rw [strL_len] at this
    rw [this]
    simp only
    rw [numR_app2 ⟨h2, h3⟩]
    simp only
    rw [ih _ r s2 (fun y hy => h y (by simp [hy])), strOf_L, ← s1]
/-- what may be written so that it comes back -/
structure Fits (m : Img) : Prop where
  tl : m.text.length ≤ 8000
  fl : m.funcs.length ≤ 40
  fs : startsOk 0 m.funcs
  fb : ∀ f ∈ m.funcs, f.name.size ≤ 16 ∧ 0 ≤ f.size ∧ f.size < 65536
  eb : 0 ≤ m.entry ∧ m.entry < 256
  bl : m.tables.length ≤ 20
  bb : ∀ t ∈ m.tables, t.length ≤ 20 ∧ ∀ x ∈ t, 0 ≤ x ∧ x < 65536
  dl : m.data.length ≤ 64
  db : ∀ x ∈ m.data, N64 x
  ll : m.lines.length ≤ 4000
  lb : ∀ l ∈ m.lines, (0 ≤ l.1 ∧ l.1 < 65536) ∧ 0 ≤ l.2 ∧ l.2 < 65536
theorem textR_app {l : List Int} (h : l.length ≤ 8000) (r : List Int) : textR ⟨numB l.length 2 ++ (l ++ r), false⟩ = (l, ⟨r, false⟩) := by
  unfold textR
  rw [numR_app2 (by omega)]
  simp only
  rw [takeR_app]
theorem fnsR_app {l : List FnD} (h : l.length ≤ 40) (hs : startsOk 0 l) (hb : ∀ f ∈ l, f.name.size ≤ 16 ∧ 0 ≤ f.size ∧ f.size < 65536) (r : List Int) : fnsR ⟨numB l.length 1 ++ (l.flatMap encFn ++ r), false⟩ = (l, ⟨r, false⟩) := by
  unfold fnsR
  rw [numR_app1 (by omega)]
  simp only [Int.toNat_natCast]
  rw [funcsR_app l 0 r hs hb]
theorem tabR_app {t : List Int} (h : t.length ≤ 20) (hb : ∀ x ∈ t, 0 ≤ x ∧ x < 65536) (r : List Int) : tabR ⟨encTab t ++ r, false⟩ = (t, ⟨r, false⟩) := by
  unfold tabR encTab
  rw [List.append_assoc, numR_app1 (by omega)]
  simp only [Int.toNat_natCast]
  rw [intsR_many]
  exact manyR_app (e := (numB · 2)) t r (fun x hx r => numR_app2 (hb x hx) r)
theorem tbsR_app {l : List (List Int)} (h : l.length ≤ 20) (hb : ∀ t ∈ l, t.length ≤ 20 ∧ ∀ x ∈ t, 0 ≤ x ∧ x < 65536) (r : List Int) : tbsR ⟨numB l.length 1 ++ (l.flatMap encTab ++ r), false⟩ = (l, ⟨r, false⟩) := by
  unfold tbsR
  rw [numR_app1 (by omega)]
  simp only [Int.toNat_natCast]
  rw [tabsR_many]
  exact manyR_app l r (fun x hx r => tabR_app (hb x hx).1 (hb x hx).2 r)
theorem dtaR_app {l : List Int} (h : l.length ≤ 64) (hb : ∀ x ∈ l, N64 x) (r : List Int) : dtaR ⟨numB l.length 1 ++ (l.flatMap (numB · 8) ++ r), false⟩ = (l, ⟨r, false⟩) := by
  unfold dtaR
  rw [numR_app1 (by omega)]
  simp only [Int.toNat_natCast]
  rw [intsR_many]
  exact manyR_app (e := (numB · 8)) l r (fun x hx r => numR_app8 (hb x hx) r)
theorem lnsR_app {l : List (Int × Int)} (h : l.length ≤ 4000) (hb : ∀ x ∈ l, (0 ≤ x.1 ∧ x.1 < 65536) ∧ 0 ≤ x.2 ∧ x.2 < 65536) (r : List Int) : lnsR ⟨numB l.length 2 ++ (l.flatMap encLn ++ r), false⟩ = (l, ⟨r, false⟩) := by
  unfold lnsR
  rw [numR_app2 (by omega)]
  simp only [Int.toNat_natCast]
  rw [linesR_many]
  refine manyR_app l r (fun x hx r => ?_)
  unfold lnR encLn
  rw [List.append_assoc, numR_app2 (hb x hx).1]
  simp only
  rw [numR_app2 (hb x hx).2]
theorem bodyR_app {m : Img} (h : Fits m) (r : List Int) : bodyR ⟨encBody m ++ r, false⟩ = (m, ⟨r, false⟩) := by
  unfold bodyR encBody
  simp only [List.append_assoc]
  simp only [textR_app h.tl, fnsR_app h.fl h.fs h.fb, numR_app1 h.eb, tbsR_app h.bl h.bb, dtaR_app h.dl h.db, lnsR_app h.ll h.lb]
theorem encBody_bytes {m : Img} (ht : ByteL m.text) : ByteL (encBody m) := by
  unfold encBody
  refine (numB_byte _ _).app (ht.app ((numB_byte _ _).app (ByteL.app (ByteL.flat fun f _ => ?_) ((numB_byte _ _).app ((numB_byte _ _).app (ByteL.app (ByteL.flat fun t _ => ?_) ((numB_byte _ _).app (ByteL.app (ByteL.flat fun x _ => numB_byte _ _) ((numB_byte _ _).app (ByteL.flat fun x _ => ?_))))))))))
  · exact ((numB_byte _ _).app (strL_bd _)).app (numB_byte _ _)
  · exact (numB_byte _ _).app (ByteL.flat fun x _ => numB_byte _ _)
  · exact (numB_byte _ _).app (numB_byte _ _)
theorem encF_take (m : Img) (r : List Int) : (encF m ++ r).take 4 = magicL ∧ (encF m ++ r).drop 4 = encBody m ++ r := ⟨rfl, rfl⟩
theorem enc_dec {m : Img} (h : Fits m) (hc : checkE m = 0) (hl : (encF m).length ≤ 100000) : decF (encF m) = (m, 0) := by
  unfold decF
  have h4 : 4 ≤ (encF m).length := by simp [encF, magicL]
  have hb := bodyR_app h []
  rw [List.append_nil] at hb
  rw [if_neg (by omega), if_neg (by rw [List.take_of_length_le (l := magicL) (by simp [magicL]; omega)]; simp [encF, magicL]), if_neg (by omega)]
  rw [show (encF m).drop 4 = encBody m from rfl, hb]
  simp [hc]
theorem enc_more {m : Img} (h : Fits m) (x : Int) (hl : (encF m).length + 1 ≤ 100000) : decF (encF m ++ [x]) = (Img.zero, 4) := by
  unfold decF
  have h4 : 4 ≤ (encF m).length := by simp [encF, magicL]
  have hb := bodyR_app h [x]
  have hlen : (encF m ++ [x]).length = (encF m).length + 1 := by simp
  rw [if_neg (by omega), if_neg (by rw [List.take_of_length_le (l := magicL) (by rw [hlen]; simp [magicL]; omega)]; simp [encF, magicL]), if_neg (by omega)]
  rw [show (encF m ++ [x]).drop 4 = encBody m ++ [x] from rfl, hb]
  simp
theorem enc_cut {m : Img} (h : Fits m) (ht : ByteL m.text) (hl : (encF m).length ≤ 100000) (k : Nat) (hk : k < (encF m).length) : decF ((encF m).take k) = (Img.zero, 5) := by
  unfold decF
  have hlen : ((encF m).take k).length = k := by simp; omega
  have hmag : (encF m).take 4 = magicL := by simp [encF, magicL]
  rw [if_neg (by omega), hlen, if_neg (by rw [List.take_take, Nat.min_comm, ← List.take_take, hmag]; simp)]
  by_cases h4 : k < 4
  · rw [if_pos h4]
  · rw [if_neg h4]
    rcases hs : (bodyR ⟨((encF m).take k).drop 4, false⟩).2.sh with _ | _
    · exfalso
      have hb0 : ByteL (encF m) := ByteL.app (by intro x hx; simp only [magicL, List.mem_cons, List.not_mem_nil, or_false] at hx; omega) (encBody_bytes ht)
      have hd : ByteL (((encF m).take k).drop 4) := fun x hx => hb0 x (List.mem_of_mem_take (List.mem_of_mem_drop hx))
      have hm := bodyR_reads.more ⟨((encF m).take k).drop 4, false⟩ ((encF m).drop k) hd hs
      have e : ((encF m).take k).drop 4 ++ (encF m).drop k = encBody m := by
        have := List.take_append_drop k (encF m)
        have h2 : ((encF m).take k ++ (encF m).drop k).drop 4 = ((encF m).take k).drop 4 ++ (encF m).drop k := List.drop_append_of_le_length (by omega)
        rw [← h2, this]
        rfl
      simp only at hm
      rw [e] at hm
      have hb := bodyR_app h []
      rw [List.append_nil] at hb
      rw [hb] at hm
      injection hm with _ h2
      injection h2 with h3 _
      have h4 := congrArg List.length h3
      simp only [List.length_nil, List.length_append, List.length_drop] at h4
      omega
    · simp
theorem funcsGo_fit (T : Int) : ∀ (l prev : List FnD) (p : Int), 0 ≤ p → T ≤ 8000 → funcsGo T prev p l = 0 → startsOk p l ∧ ∀ f ∈ l, f.name.size ≤ 16 ∧ 0 ≤ f.size ∧ f.size < 65536 := by
  intro l
  induction l with
  | nil => intro prev p _ _ _; exact ⟨trivial, fun f hf => by cases hf⟩
  | cons f l ih =>
    intro prev p hp hT h
    unfold funcsGo at h
    split at h
    · cases h
    · rename_i hn
      split at h
      · cases h
      · split at h
        · cases h
        · rename_i hc
          have h1 : f.start = p ∧ 1 ≤ f.size ∧ f.size ≤ T - p := by omega
          obtain ⟨i1, i2⟩ := ih _ _ (by omega) hT h
          refine ⟨⟨h1.1, i1⟩, fun g hg => ?_⟩
          rcases List.mem_cons.1 hg with rfl | hg
          · have hn2 : nameOk g.name = true := by simpa using hn
            unfold nameOk at hn2
            simp only [Bool.and_eq_true, decide_eq_true_eq] at hn2
            omega
          · exact i2 g hg
theorem linesGo_fit (T : Int) : ∀ (l : List (Int × Int)) (a : Int), -1 ≤ a → T ≤ 8000 → linesGo T a l = 0 → ∀ x ∈ l, (0 ≤ x.1 ∧ x.1 < 65536) ∧ 0 ≤ x.2 ∧ x.2 < 65536 := by
  intro l
  induction l with
  | nil => intro a _ _ _ x hx; cases hx
  | cons y l ih =>
    intro a ha hT h
    unfold linesGo at h
    split at h
    · cases h
    · split at h
      · cases h
      · intro x hx
        rcases List.mem_cons.1 hx with rfl | hx
        · omega
        · exact ih _ (by omega) hT h x hx
theorem tablesGo_fit (T : Int) (hT : T ≤ 8000) : ∀ l : List (List Int), tablesGo T l = 0 → ∀ t ∈ l, t.length ≤ 20 ∧ ∀ x ∈ t, 0 ≤ x ∧ x < 65536 := by
  intro l
  induction l with
  | nil => intro _ t ht; cases ht
  | cons y l ih =>
    intro h
    unfold tablesGo at h
    split at h
    · cases h
    · split at h
      · cases h
      · rename_i h1 h2
        intro t ht
        rcases List.mem_cons.1 ht with rfl | ht
        · refine ⟨by omega, fun x hx => ?_⟩
          have : oddAt T x = false := by
            rcases hb : oddAt T x with _ | _
            · rfl
            · exact absurd (List.any_eq_true.2 ⟨x, hx, hb⟩) h2
          unfold oddAt at this
          simp only [Bool.or_eq_false_iff, decide_eq_false_iff_not] at this
          omega
        · exact ih h t ht
/-- what is checked comes back -/
theorem check_fits {m : Img} (h : checkE m = 0) : Fits m := by
  unfold checkE at h
  split at h
  · cases h
  · rename_i h1
    split at h
    · rename_i h2
      exact absurd h h2
    · rename_i h2
      split at h
      · cases h
      · rename_i h3
        split at h
        · cases h
        · rename_i h4
          have h2' : funcsE m = 0 := by simpa using h2
          unfold funcsE at h2'
          split at h2'
          · cases h2'
          · rename_i h5
            obtain ⟨f1, f2⟩ := funcsGo_fit _ _ _ 0 (Int.le_refl _) (by omega) h2'
            unfold tailE at h
            split at h
            · rename_i h6
              unfold restE at h
              split at h
              · cases h
              · rename_i h7
                unfold linesE at h
                split at h
                · cases h
                · rename_i h8
                  refine ⟨by omega, by omega, f1, f2, by omega, by omega, tablesGo_fit _ (by omega) _ h6, by omega, fun x hx => ?_, by omega, linesGo_fit _ _ (-1) (by omega) (by omega) h⟩
                  have : oddN x = false := by
                    rcases hb : oddN x with _ | _
                    · rfl
                    · exact absurd (List.any_eq_true.2 ⟨x, hx, hb⟩) h7
                  unfold oddN at this
                  simp only [Bool.or_eq_false_iff, decide_eq_false_iff_not] at this
                  unfold N64
                  omega
            · rename_i h6
              exact absurd h h6
theorem flat_len_le {α : Type} {F : α → List Int} {c : Nat} : ∀ (l : List α), (∀ x ∈ l, (F x).length ≤ c) → (l.flatMap F).length ≤ l.length * c := by
  intro l
  induction l with
  | nil => intro _; simp
  | cons x l ih =>
    intro h
    have h1 := h x (by simp)
    have h2 := ih fun y hy => h y (by simp [hy])
    simp only [List.flatMap_cons, List.length_append, List.length_cons, Nat.add_mul]
    omega
theorem Fits.len {m : Img} (h : Fits m) : (encF m).length ≤ 30000 := by
  have h1 := flat_len_le (F := encFn) (c := 19) m.funcs fun f hf => by
    have := (h.fb f hf).1
    simp only [encFn, List.length_append, numB_len, strL_len]
    omega
  have h2 := flat_len_le (F := encTab) (c := 41) m.tables fun t ht => by
    have := (h.bb t ht).1
    have h3 := flat_len_le (F := (numB · 2)) (c := 2) t fun x _ => by simp [numB_len]
    simp only [encTab, List.length_append, numB_len]
    omega
  have h3 := flat_len_le (F := (numB · 8)) (c := 8) m.data fun x _ => by simp [numB_len]
  have h4 := flat_len_le (F := encLn) (c := 4) m.lines fun x _ => by simp [encLn, numB_len]
  have a1 := h.tl
  have a2 := h.fl
  have a3 := h.bl
  have a4 := h.dl
  have a5 := h.ll
  simp only [encF, encBody, magicL, List.length_append, numB_len, List.length_cons, List.length_nil]
  omega
end Go.Proofs.YtbdlmafhcgndeaaDoor
