/- isa.Check, walked. isa: nibbles, two, the closure that reads a number, Size. boltholekeep's picked and Plain, walked. Plain words: the bytes of an instruction, the instruction of bytes. A slice of bytes, read. isa.kind: the kind of a first byte. isa.Decode where it refuses. Plain law: what an instruction that may be is. Plain law: an instruction's bytes are the instruction. Plain law: what is decoded of bytes that were encoded. -/
import Derived.Test.YtcdlgjhdbmmomaaGreatDoorIsaC
import Derived.BigGuardPart
import Derived.Deep.DeepCutAuto
import Derived.Lib.Hide
namespace Go.Proofs.YtcdlgjhdbmmomaaGreatDoor
open Go.RowKit
set_option maxHeartbeats 4000000 in
set_option maxRecDepth 100000 in
theorem check_in (k d a b n : Int) (l : Bool) (w : World) (hT : Tabs w) (hb : 1 ≤ k ∧ k ≤ 24) : Calls Tryz.prog 122 #[.agg #[.int .i64 k, .int .i64 d, .int .i64 a, .int .i64 b, .int .i64 n, .bool l]] w fun e w' =>
 e = .returned (.int .i64 (if formBad k d a b n l then 4 else if !isReg d || !isReg a || !isReg b then 2 else if nOk k n l then 0 else 2)) ∧ Below w.heap.size w w' := by
 have ho : ∀ X, (w.alloc X).cell? ⟨1, k.toNat * 3, none⟩ = some (.int .u8 (opT k)) := fun X => (hT.alloc X).op k (by omega) (by omega)
 have hl : ∀ X, (w.alloc X).cell? ⟨1, k.toNat * 3 + 1, none⟩ = some (.int .u8 (longT k)) := fun X => (hT.alloc X).long k (by omega) (by omega)
 have hs : ∀ X, (w.alloc X).cell? ⟨1, k.toNat * 3 + 2, none⟩ = some (.int .i64 (shapeT k)) := fun X => (hT.alloc X).shape k (by omega) (by omega)
 have h1 : decide (k < 1) = false := by simp; omega
 have h2 : decide (24 < k) = false := by simp; omega
 generalize hR : (if formBad k d a b n l then (4 : Int) else if !isReg d || !isReg a || !isReg b then 2 else if nOk k n l then 0 else 2) = R; have HR : Hid (_ = R) := hR; clear hR
 go_enter Tryz.func122, Tryz.ntmps122
 go_upto_region 5 with (go_at_call 162; refine (operands_any _ _ _).mono ?_; rintro e w1 ⟨rfl, hb1⟩; obtain ⟨hc1, hf1⟩ := bcell hb1; have hz1 := hb1.size)
 clear ho hl hs; have hB1 : Below w.heap.size w w1 := (((Below.refl _ _).alloc lr' _).alloc (by simp) _).trans (hb1.mono (by simp; omega)); have g0 : w1.cell? ⟨w.heap.size, 0, none⟩ = some (.int .i64 k) := by rw [hc1 _ _ (by simp; omega)]; go_simp
 have g1 : w1.cell? ⟨w.heap.size, 1, none⟩ = some (.int .i64 d) := by rw [hc1 _ _ (by simp; omega)]; go_simp
 have g2 : w1.cell? ⟨w.heap.size, 2, none⟩ = some (.int .i64 a) := by rw [hc1 _ _ (by simp; omega)]; go_simp
 have g3 : w1.cell? ⟨w.heap.size, 3, none⟩ = some (.int .i64 b) := by rw [hc1 _ _ (by simp; omega)]; go_simp
 have g4 : w1.cell? ⟨w.heap.size, 4, none⟩ = some (.int .i64 n) := by rw [hc1 _ _ (by simp; omega)]; go_simp
 have g5 : w1.cell? ⟨w.heap.size, 5, none⟩ = some (.bool l) := by rw [hc1 _ _ (by simp; omega)]; go_simp
 have r1 : w1.cell? ⟨w.heap.size + 1, 1, none⟩ = some (.int .u8 (longT k)) := by rw [hc1 _ _ (by simp)]; go_simp
 have r2 : w1.cell? ⟨w.heap.size + 1, 2, none⟩ = some (.int .i64 (shapeT k)) := by rw [hc1 _ _ (by simp)]; go_simp
 clear hc1 hf1 hz1 hb1 hT h1 h2
 go_cut [0, 4, 5, 6, 7, 72] (fun _ _ _ _ _ s72 wx => s72 = .bool (formBad k d a b n l) ∧ w1 = wx)
 case first =>
  go_wp2
  all_goals
   go_meet
   case rel => exact ⟨by simp_all [formBad], rfl⟩
 case rest =>
  obtain ⟨rfl, rfl⟩ := hcut
  by_cases hf : formBad k d a b n l = true
  · rw [if_pos hf] at HR; have hf1 := hd' hf; rw [hf]; clear hf
    go_wp2
    go_ret
    exact ⟨by rw [← HR.out]; rfl, hB1⟩
  · rw [if_neg hf] at HR; rw [Bool.not_eq_true] at hf; rw [hf]; clear hf
    go_upto_region 7 with fail
    go_cut [0, 4, 5, 6, 7, 88] (fun _ _ _ _ _ s88 wx => s88 = .bool (!isReg d || !isReg a || !isReg b) ∧ w1 = wx)
    case first =>
     go_wp2_with (first | (go_at_call 163; refine (reg_any _ _).mono ?_; rintro e w2 ⟨rfl, rfl⟩))
     all_goals
      go_meet
      case rel => exact ⟨by simp_all, rfl⟩
    case rest =>
     obtain ⟨rfl, rfl⟩ := hcut; generalize hq : (!isReg d || !isReg a || !isReg b) = q at *; clear hq
     cases q
     · rw [if_neg (by simp)] at HR
       go_upto_region 11 with fail
       go_cut [0, 4, 5, 6, 7, 92] (fun _ _ _ _ _ s92 wx => s92 = .bool (shapeT k == 2 || shapeT k == 10 || l) ∧ w1 = wx)
       case first =>
        go_wp2
        all_goals
         go_meet
         case rel => exact ⟨by simp_all, rfl⟩
       case rest =>
        obtain ⟨rfl, rfl⟩ := hcut; unfold nOk at HR; generalize hq : (shapeT k == 2 || shapeT k == 10 || l) = q at *; clear hq; have HS := HR; clear HR
        go_wp2_with (first | (go_at_call 164; refine (far_any _ _).mono ?_; rintro e w2 ⟨rfl, rfl⟩) | (go_at_call 166; refine (near_any _ _).mono ?_; rintro e w2 ⟨rfl, rfl⟩) | (go_at_call 165; refine (inside_any _ _ _ _).mono ?_; rintro e w2 ⟨rfl, rfl⟩))
        all_goals
         go_ret
         refine ⟨?_, hB1⟩; rw [← HS.out]; simp_all
     · rw [if_pos rfl] at HR
       go_wp2
       go_ret
       exact ⟨by rw [← HR.out]; rfl, hB1⟩
theorem check_any (k d a b n : Int) (l : Bool) (w : World) (hT : Tabs w) : Calls Tryz.prog 122 #[.agg #[.int .i64 k, .int .i64 d, .int .i64 a, .int .i64 b, .int .i64 n, .bool l]] w fun e w' =>
 e = .returned (.int .i64 (chk k d a b n l)) ∧ Below w.heap.size w w' := by
 unfold chk
 by_cases h : k < 1 ∨ 24 < k
 · rw [if_pos h]; have h' : (decide (k < 1) || decide (24 < k)) = true := by simpa using h
   go_enter Tryz.func122, Tryz.ntmps122
   by_cases h0 : k < 1
   · go_wp2
     go_ret
     exact ⟨rfl, (Below.refl _ _).alloc lr' _⟩
   · have h3 : 24 < k := by omega
     go_wp2
     go_ret
     exact ⟨rfl, (Below.refl _ _).alloc lr' _⟩
 · rw [if_neg h]; exact check_in k d a b n l w hT (by omega)
structure Ins where
 k : Int
 d : Int
 a : Int
 b : Int
 n : Int
 l : Bool
def Ins.zero : Ins := ⟨0, 0, 0, 0, 0, false⟩
def Ins.cells (i : Ins) : Array Value := #[.int .i64 i.k, .int .i64 i.d, .int .i64 i.a, .int .i64 i.b, .int .i64 i.n, .bool i.l]
def Ins.chk (i : Ins) : Int := Proofs.YtcdlgjhdbmmomaaGreatDoor.chk i.k i.d i.a i.b i.n i.l
theorem nib_bits (x y : Int) (h1 : 0 ≤ x) (h2 : x < 8) (h3 : 0 ≤ y) (h4 : y < 8) : bits BinOp.or IntKind.i64 (x * 16) y % 256 = x * 16 + y := by
 have h : ∀ x : Fin 8, ∀ y : Fin 8, bits BinOp.or IntKind.i64 ((x.val : Int) * 16) (y.val : Int) % 256 = (x.val : Int) * 16 + (y.val : Int) := by decide +kernel
 have := h ⟨x.toNat, by omega⟩ ⟨y.toNat, by omega⟩; simpa [Int.toNat_of_nonneg h1, Int.toNat_of_nonneg h3] using this
theorem nibbles_any (x y : Int) (w : World) (h1 : 0 ≤ x) (h2 : x < 8) (h3 : 0 ≤ y) (h4 : y < 8) :
 Calls Tryz.prog 124 #[.int .i64 x, .int .i64 y] w fun e w' => e = .returned (.int .u8 (x * 16 + y)) ∧ w = w' := by
 have hn := hd' (nib_bits x y h1 h2 h3 h4)
 go_enter Tryz.func124, Tryz.ntmps124
 go_wp2
 go_ret
 refine ⟨?_, rfl⟩; rw [← hn.out]
 rfl
theorem two_any (x : Int) (w : World) : Calls Tryz.prog 123 #[.int .i64 x] w fun e w' =>
 e = .returned (.slice (some ⟨w.heap.size, 0, none⟩) 2 2) ∧ w' = w.alloc (.cells #[.int .u8 (x % 256), .int .u8 (x / 256 % 256)] 5) := by
 go_enter Tryz.func123, Tryz.ntmps123
 go_wp2
 go_ret
 exact ⟨rfl, rfl⟩
def num1 (b : Int) : Int := if b < 128 then b else b - 256
def num2 (b c : Int) : Int := if c < 128 then b + 256 * c else b + 256 * c - 65536
theorem num1_eq (b : Int) (h1 : 0 ≤ b) (h2 : b < 256) : wrap64 (IntKind.i8.wrap b) = num1 b := by
 have h : ∀ b : Fin 256, wrap64 (IntKind.i8.wrap (b.val : Int)) = num1 (b.val : Int) := by decide +kernel
 have := h ⟨b.toNat, by omega⟩; simpa [Int.toNat_of_nonneg h1] using this
theorem num1_any (b : Int) (cp : Nat) (p : Addr) (w : World) (hp : w.cell? p = some (.int .u8 b)) (hb : 0 ≤ b) (hb' : b < 256) :
 Calls Tryz.prog 129 #[.slice (some p) 1 cp] w fun e w' => e = .returned (.int .i64 (num1 b)) ∧ w = w' := by
 have hn := hd' (num1_eq b hb hb')
 go_enter Tryz.func129, Tryz.ntmps129
 go_wp2
 go_ret
 refine ⟨?_, rfl⟩; rw [← hn.out]
 rfl
theorem wraps_u16 (n : Int) (h₀ : 0 ≤ n) (h₁ : n < 2 ^ 16) : IntKind.u16.wrap n = n := by
 simp [IntKind.wrap, IntKind.bits, IntKind.signed]; omega
theorem or_comm' (k : IntKind) (x y : Int) : bits BinOp.or k x y = bits BinOp.or k y x := by simp [bits, BitVec.or_comm]
theorem num2_or (b c : Int) (h1 : 0 ≤ b) (h2 : b < 256) (h3 : 0 ≤ c) (h4 : c < 256) : bits BinOp.or IntKind.u16 b (c * 256) = b + 256 * c := by
 rw [or_comm', bits_join .u16 16 (by decide) wraps_u16 8 (c * 256) b (by omega) (by omega) (by omega) h1 (by omega) (by omega)]; omega
theorem num2_eq (b c : Int) (h1 : 0 ≤ b) (h2 : b < 256) (h3 : 0 ≤ c) (h4 : c < 256) : wrap64 (IntKind.i16.wrap (bits BinOp.or IntKind.u16 b (c * 256))) = num2 b c := by
 rw [num2_or b c h1 h2 h3 h4]; have hm : (b + 256 * c) % 65536 = b + 256 * c := by omega
 by_cases h : c < 128
 · have h' : ¬ (32768 ≤ b + 256 * c) := by omega
   simp [num2, wrap64, IntKind.wrap, IntKind.bits, IntKind.signed, hm, h, h']; omega
 · have h' : 32768 ≤ b + 256 * c := by omega
   simp [num2, wrap64, IntKind.wrap, IntKind.bits, IntKind.signed, hm, h, h']; omega
set_option maxHeartbeats 400000 in
theorem num2_any (b c : Int) (cp pb po : Nat) (w : World) (hp : w.cell? ⟨pb, po, none⟩ = some (.int .u8 b)) (hq : w.cell? ⟨pb, po + 1, none⟩ = some (.int .u8 c)) (hb : 0 ≤ b) (hb' : b < 256) (hc : 0 ≤ c) (hc' : c < 256) :
 Calls Tryz.prog 129 #[.slice (some ⟨pb, po, none⟩) 2 cp] w fun e w' => e = .returned (.int .i64 (num2 b c)) ∧ ∃ n, w' = w.drewN n := by
 have hn := hd' (num2_eq b c hb hb' hc hc')
 go_enter Tryz.func129, Tryz.ntmps129
 go_wp2
 go_quiet (fail)
 go_wp2
 go_ret
 refine ⟨?_, nq, rfl⟩; rw [← hn.out]
 rfl
def sizeK (k : Int) (l : Bool) : Int := sizeT (shapeT k) + if l then 1 else 0
theorem shapeT_bd (k : Int) (h1 : 1 ≤ k) (h2 : k ≤ 24) : 1 ≤ shapeT k ∧ shapeT k ≤ 11 := by
 have h : ∀ k : Fin 25, 1 ≤ k.val → 1 ≤ shapeT (k.val : Int) ∧ shapeT (k.val : Int) ≤ 11 := by decide +kernel
 have := h ⟨k.toNat, by omega⟩ (by simp; omega); simpa [Int.toNat_of_nonneg (show 0 ≤ k by omega)] using this
theorem sizeT_bd (s : Int) (h1 : 1 ≤ s) (h2 : s ≤ 11) : 1 ≤ sizeT s ∧ sizeT s ≤ 4 := by
 have h : ∀ s : Fin 12, 1 ≤ s.val → 1 ≤ sizeT (s.val : Int) ∧ sizeT (s.val : Int) ≤ 4 := by decide +kernel
 have := h ⟨s.toNat, by omega⟩ (by simp; omega); simpa [Int.toNat_of_nonneg (show 0 ≤ s by omega)] using this
theorem chk_kind {k d a b n : Int} {l : Bool} (h : chk k d a b n l = 0) : 1 ≤ k ∧ k ≤ 24 := by
 unfold chk at h
 split at h
 · cases h
 · omega
set_option maxHeartbeats 1000000 in
theorem size_any (k d a b n : Int) (l : Bool) (w : World) (hT : Tabs w) : Calls Tryz.prog 75 #[.agg #[.int .i64 k, .int .i64 d, .int .i64 a, .int .i64 b, .int .i64 n, .bool l]] w fun e w' =>
 e = .returned (.tuple #[.int .i64 (if chk k d a b n l = 0 then sizeK k l else 0), .int .i64 (chk k d a b n l)]) ∧ Below w.heap.size w w' := by
 by_cases hc : chk k d a b n l = 0
 · rw [if_pos hc]; have hk := chk_kind hc; have hsb := shapeT_bd k hk.1 hk.2; have hzb := sizeT_bd _ hsb.1 hsb.2; have hc0 := hd' hc; clear hc
   go_enter Tryz.func75, Tryz.ntmps75
   go_wp2_with fail
   refine (check_any k d a b n l _ (hT.alloc _)).mono ?_; rintro e w1 ⟨rfl, hb1⟩; rw [hc0.out]; have hT1 := (hT.alloc _).below hb1; obtain ⟨hc1, hf1⟩ := bcell hb1; have hB1 : Below w.heap.size w w1 := ((Below.refl _ _).alloc lr' _).trans (hb1.mono (by simp)); have g0 : w1.cell? ⟨w.heap.size, 0, none⟩ = some (.int .i64 k) := by rw [hc1 _ _ (by simp)]; go_simp
   have g5 : w1.cell? ⟨w.heap.size, 5, none⟩ = some (.bool l) := by rw [hc1 _ _ (by simp)]; go_simp
   have r2 := hT1.shape k (by omega) (by omega); have r3 := hT1.size (shapeT k) (by omega) (by omega); clear hc1 hf1 hb1 hT hT1
   cases l
   · go_wp2
     go_ret2
     exact ⟨by simp [sizeK, hc0.out], hB1⟩
   · go_wp2
     go_ret2
     exact ⟨by simp [sizeK, hc0.out], hB1⟩
 · rw [if_neg hc]; have hc0 : (chk k d a b n l != 0) = true := by simpa using hc
   have H0 := hd' hc0; clear hc hc0
   go_enter Tryz.func75, Tryz.ntmps75
   go_wp2_with fail
   refine (check_any k d a b n l _ (hT.alloc _)).mono ?_; rintro e w1 ⟨rfl, hb1⟩; have hB1 : Below w.heap.size w w1 := ((Below.refl _ _).alloc lr' _).trans (hb1.mono (by simp)); have hne := H0.out; clear hb1 hT
   go_wp2
   go_ret2
   exact ⟨rfl, hB1⟩
def pickL (n m : Int) : Int := (if n < 0 then -(n + 1) else n) % m
theorem pickL_bd (n m : Int) (h : 0 < m) : 0 ≤ pickL n m ∧ pickL n m < m := by
 unfold pickL; exact ⟨Int.emod_nonneg _ (by omega), Int.emod_lt_of_pos _ h⟩
theorem picked_any (n m : Int) (w : World) (h1 : -9223372036854775808 ≤ n) (h2 : n ≤ 9223372036854775807) (hm : 0 < m) (hm2 : m ≤ 9223372036854775807) :
 Calls Tryz.prog 22 #[.int .i64 n, .int .i64 m] w fun e w' => e = .returned (.int .i64 (pickL n m)) ∧ w = w' := by
 have hb := pickL_bd n m hm
 by_cases h : n < 0
 · have e1 := hd' (show pickL n m = (-(n + 1)) % m by unfold pickL; rw [if_pos h]); clear hb
   go_enter Tryz.func22, Tryz.ntmps22
   go_wp2
   go_ret
   refine ⟨?_, rfl⟩; rw [e1.out, ← Int.tmod_eq_emod_of_nonneg (by omega), Int.neg_tmod]
   rfl
 · have e1 := hd' (show pickL n m = n % m by unfold pickL; rw [if_neg h]); clear hb
   go_enter Tryz.func22, Tryz.ntmps22
   go_wp2
   go_ret
   refine ⟨?_, rfl⟩; rw [e1.out]
   rfl
def I64 (n : Int) : Prop := -9223372036854775808 ≤ n ∧ n ≤ 9223372036854775807
structure RawI where
 k : Int
 a : Int
 b : Int
 c : Int
def RawI.ok (r : RawI) : Prop := I64 r.k ∧ I64 r.a ∧ I64 r.b ∧ I64 r.c
def RawI.cells (r : RawI) : Array Value := #[.int .i64 r.k, .int .i64 r.a, .int .i64 r.b, .int .i64 r.c]
def plainI (r : RawI) : Ins :=
 let k := pickL r.k 20
 if k < 4 then ⟨5, pickL r.a 7, 0, 0, pickL r.c 40 - 10, false⟩
 else if k < 7 then ⟨6, pickL r.a 7, pickL r.b 7, 0, pickL r.c 12 - 3, false⟩
 else if k < 12 then ⟨7 + pickL r.c 7, pickL r.a 7, pickL r.b 7, pickL r.c 7, 0, false⟩
 else if k = 12 then ⟨14, pickL r.a 7, 0, 0, pickL r.c 6, false⟩
 else if k = 13 then ⟨15, 0, 0, pickL r.c 7, pickL r.c 6, false⟩
 else if k = 14 then ⟨16, pickL r.a 7, 0, 0, 0, false⟩
 else if k = 15 then ⟨4, 0, 0, 0, 0, false⟩
 else ⟨17, 0, pickL r.b 7, 0, 0, false⟩
set_option maxHeartbeats 4000000 in
set_option maxRecDepth 100000 in
theorem plain_any (r : RawI) (hr : r.ok) (w : World) : Calls Tryz.prog 74 #[.agg #[.int .i64 r.k, .int .i64 r.a, .int .i64 r.b, .int .i64 r.c]] w fun e w' =>
 e = .returned (.agg (plainI r).cells) ∧ Below w.heap.size w w' := by
 obtain ⟨⟨k1, k2⟩, ⟨a1, a2⟩, ⟨b1, b2⟩, ⟨c1, c2⟩⟩ := hr; have hk := pickL_bd r.k 20 (by decide); have ha := pickL_bd r.a 7 (by decide); have hb := pickL_bd r.b 7 (by decide); have hc := pickL_bd r.c 7 (by decide); have hc6 := pickL_bd r.c 6 (by decide); have hc12 := pickL_bd r.c 12 (by decide); have hc40 := pickL_bd r.c 40 (by decide); have hB : ∀ X Y, Below w.heap.size w ((w.alloc X).alloc Y) := fun _ _ => ((Below.refl _ _).alloc lr' _).alloc (by simp) _
 go_enter Tryz.func74, Tryz.ntmps74
 go_wp2_with (first | (go_at_call 22; refine (picked_any _ _ _ (by omega) (by omega) (by decide) (by decide)).mono ?_; rintro e w3 ⟨rfl, rfl⟩))
 all_goals
  refine bodyPost_ret (results_cell_row rfl _ _ (w.heap.size + 1) 52 _ (0, 0) _ rfl (heap_alloc2_new w _ _) Tryz.underlying52 rfl (by kernel_rfl)) rfl ⟨?_, hB _ _⟩; clear hB
  try simp only [beq_iff_eq, beq_eq_false_iff_ne, ne_eq] at *
  simp only [plainI]
  repeat (first | rw [if_pos (by omega)] | rw [if_neg (by omega)])
  rfl
def kindFrom (op : Int) : List Nat → Int × Bool
 | [] => (0, false)
 | k :: r => if 0 < k ∧ opT k = op then (k, false) else if 0 < k ∧ longT k ≠ 0 ∧ longT k = op then (k, true) else kindFrom op r
def kindOf (op : Int) : Int × Bool := kindFrom op (List.range 25)
def lastB (n : Int) (l : Bool) : List Int := if l then [n % 256, n / 256 % 256] else [n % 256]
def tailB (s d a b n : Int) (l : Bool) : List Int :=
 if s = 2 then [d, n % 256, n / 256 % 256] else if s = 3 then [d * 16 + a, n % 256] else if s = 4 then [d * 16 + a, b] else if s = 5 then [b * 16 + a, n % 256]
 else if s = 6 then [d] else if s = 7 then [a] else if s = 8 then (a * 16 + b) :: lastB n l else if s = 9 then lastB n l else if s = 10 then [n % 256, n / 256 % 256]
 else if s = 11 then [a, n % 256] else []
def opL (k : Int) (l : Bool) : Int := if l then longT k else opT k
def encB (k d a b n : Int) (l : Bool) : List Int := opL k l :: tailB (shapeT k) d a b n l
def insOf (k : Int) (l : Bool) (x y z : Int) : Ins :=
 let s := shapeT k
 if s = 2 then ⟨k, x, 0, 0, num2 y z, l⟩ else if s = 3 then ⟨k, x / 16, x % 16, 0, num1 y, l⟩ else if s = 4 then ⟨k, x / 16, x % 16, y, 0, l⟩
 else if s = 5 then ⟨k, 0, x % 16, x / 16, num1 y, l⟩ else if s = 6 then ⟨k, x, 0, 0, 0, l⟩ else if s = 7 then ⟨k, 0, x, 0, 0, l⟩
 else if s = 8 then ⟨k, 0, x / 16, x % 16, (if l then num2 y z else num1 y), l⟩ else if s = 9 then ⟨k, 0, 0, 0, (if l then num2 x y else num1 x), l⟩
 else if s = 10 then ⟨k, 0, 0, 0, num2 x y, l⟩ else if s = 11 then ⟨k, 0, x, 0, y, l⟩ else ⟨k, 0, 0, 0, 0, l⟩
def decB (L : List Int) (at_ : Int) : Ins × Int × Int :=
 if at_ < 0 ∨ (L.length : Int) ≤ at_ then (Ins.zero, 0, 2)
 else
  let q := kindOf (L.getD at_.toNat 0)
  if q.1 = 0 then (Ins.zero, 0, 3)
  else if (L.length : Int) < at_ + sizeK q.1 q.2 then (Ins.zero, 0, 5)
  else
   let i := insOf q.1 q.2 (L.getD (at_.toNat + 1) 0) (L.getD (at_.toNat + 2) 0) (L.getD (at_.toNat + 3) 0)
   if i.chk = 0 then (i, sizeK q.1 q.2, 0) else (Ins.zero, 0, 4)
theorem insOf_kl (k : Int) (l : Bool) (x y z : Int) : (insOf k l x y z).k = k ∧ (insOf k l x y z).l = l := by
 simp only [insOf]
 repeat' split
 all_goals exact ⟨rfl, rfl⟩
def RdB (w : World) (B : Nat) (A : Option Addr) (L : List Int) : Prop :=
 (∀ x ∈ L, 0 ≤ x ∧ x < 256) ∧ (L ≠ [] → ∃ b o, A = some ⟨b, o, none⟩ ∧ b < B ∧ ∀ j x, L[j]? = some x → w.cell? ⟨b, o + j, none⟩ = some (.int .u8 x))
theorem RdB.keep {w w' : World} {B : Nat} {A : Option Addr} {L : List Int} (h : RdB w B A L) (hk : ∀ b o, b < B → w'.cell? ⟨b, o, none⟩ = w.cell? ⟨b, o, none⟩) : RdB w' B A L :=
 ⟨h.1, fun hn => by obtain ⟨b, o, e, hb, hc⟩ := h.2 hn; exact ⟨b, o, e, hb, fun j x hx => (hk _ _ hb).trans (hc j x hx)⟩⟩
theorem RdB.below {w w' : World} {B : Nat} {A : Option Addr} {L : List Int} (h : RdB w B A L) (hb : Below B w w') : RdB w' B A L := h.keep fun _ _ hp => hb.cell hp
theorem RdB.more {w : World} {B B' : Nat} {A : Option Addr} {L : List Int} (h : RdB w B A L) (hB : B ≤ B') : RdB w B' A L :=
 ⟨h.1, fun hn => by obtain ⟨b, o, e, hb, hc⟩ := h.2 hn; exact ⟨b, o, e, by omega, hc⟩⟩
theorem below_drewN {B : Nat} {a w : World} (h : Below B a w) (n : Nat) : Below B a (w.drewN n) := ⟨h.os, h.tape, h.output, h.size, h.block⟩
theorem RdB.nil (w : World) (B : Nat) (A : Option Addr) : RdB w B A [] := ⟨by simp, fun h => absurd rfl h⟩
def decAns (I : Ins) (n : Int) : Value := if I.chk = 0 then .tuple #[.agg I.cells, .int .i64 n, .int .i64 0] else .tuple #[.agg Ins.zero.cells, .int .i64 0, .int .i64 4]
theorem run_loadVar_cells {P : Program} (w : World) (a : Addr) (ty : TypeId) (cs : List Value) (d : TypeDesc) (hg : ∀ j v, cs[j]? = some v → w.cell? (a.add j) = some v)
 (hu : P.underlying ty = some d) (hd : (match d with | .struct _ | .array _ _ => true | _ => false) = true) (hi : (P.info? ty).map (·.size) = some cs.length) :
 (loadVar ty a).run P w = .ok (.agg cs.toArray) w := by
 have hl : (loadCells a cs.length).run P w = .ok cs.toArray w := run_loadCells_list (P := P) w a cs hg
 cases hq : P.info? ty with
 | none => simp [hq] at hi
 | some i =>
  have hs : i.size = cs.length := by simpa [hq] using hi
  have hagg : (isAgg ty).run P w = .ok true w := by
   unfold isAgg; rw [Sem.run_bind, run_underlying hu w]
   cases d <;> simp_all
  simp [loadVar, Sem.run_bind, hagg, sizeOf, typeInfo, hq, hs, hl]
theorem wp_load_cells {P : Program} {o : Oper} {a : Act} {w : World} {K : Act → World → Prop} {Q : Exit → Act → World → Prop} (ty : TypeId) (x : Operand) (ho : o.op = .load ty x)
 (ad : Addr) (hx : a.eval x = .pointer (some ad)) (cs : List Value) (d : TypeDesc) (hg : ∀ j v, cs[j]? = some v → w.cell? (ad.add j) = some v)
 (hu : P.underlying ty = some d) (hd : (match d with | .struct _ | .array _ _ => true | _ => false) = true) (hi : (P.info? ty).map (·.size) = some cs.length)
 (h : K (a.put o.dst (.agg cs.toArray)) w) : o.wp P a w K Q := by
 unfold Oper.wp execOp; simp only [ho, hx, Instr.loadAt, Instr.sureAddr, Sem.run_bind, Sem.run_pure, Result.andThen_ok, run_loadVar_cells w ad ty cs d hg hu hd hi]; exact h
theorem wpList_load_cells {P : Program} {ops : Array Oper} {rest : List Oper} {o : Oper} {a : Act} {w : World} {Q : Exit → Act → World → Prop} (hgd : o.guard = none) (ty : TypeId) (x : Operand) (ho : o.op = .load ty x)
 (ad : Addr) (hx : a.eval x = .pointer (some ad)) (cs : List Value) (d : TypeDesc) (hg : ∀ j v, cs[j]? = some v → w.cell? (ad.add j) = some v)
 (hu : P.underlying ty = some d) (hd : (match d with | .struct _ | .array _ _ => true | _ => false) = true) (hi : (P.info? ty).map (·.size) = some cs.length)
 (h : wpList P ops Q rest (a.put o.dst (.agg cs.toArray)) w) : wpList P ops Q (o :: rest) a w :=
 wpList_plain hgd fun _ hK => wp_load_cells ty x ho ad hx cs d hg hu hd hi (hK _ _ h)
theorem addr0 (b j : Nat) : ((⟨b, 0, none⟩ : Addr).add j) = ⟨b, j, none⟩ := by unfold Addr.add; split <;> simp_all
theorem index_row (k : Nat) (h : k < 25) (w : World) : (Instr.index 187 (.agg rowsCells.toArray) (.int .i64 (k : Int))).run Tryz.prog w = .ok (.agg #[.int .u8 (opT k), .int .u8 (longT k), .int .i64 (shapeT k)]) w := match k, h with
 | 0, _ => by kernel_rfl
 | 1, _ => by kernel_rfl
 | 2, _ => by kernel_rfl
 | 3, _ => by kernel_rfl
 | 4, _ => by kernel_rfl
 | 5, _ => by kernel_rfl
 | 6, _ => by kernel_rfl
 | 7, _ => by kernel_rfl
 | 8, _ => by kernel_rfl
 | 9, _ => by kernel_rfl
 | 10, _ => by kernel_rfl
 | 11, _ => by kernel_rfl
 | 12, _ => by kernel_rfl
 | 13, _ => by kernel_rfl
 | 14, _ => by kernel_rfl
 | 15, _ => by kernel_rfl
 | 16, _ => by kernel_rfl
 | 17, _ => by kernel_rfl
 | 18, _ => by kernel_rfl
 | 19, _ => by kernel_rfl
 | 20, _ => by kernel_rfl
 | 21, _ => by kernel_rfl
 | 22, _ => by kernel_rfl
 | 23, _ => by kernel_rfl
 | 24, _ => by kernel_rfl
 | n + 25, h => absurd h (by omega)
theorem kindFrom_step (op : Int) (k : Nat) (h : k < 25) : kindFrom op (List.range' k (25 - k)) =
 if 0 < k ∧ opT k = op then ((k : Int), false) else if 0 < k ∧ longT k ≠ 0 ∧ longT k = op then ((k : Int), true) else kindFrom op (List.range' (k + 1) (25 - (k + 1))) := by
 rw [show 25 - k = (25 - (k + 1)) + 1 from by omega, List.range'_succ]
 rfl
set_option maxHeartbeats 2000000 in
set_option maxRecDepth 100000 in
theorem kind_any (op : Int) (w : World) (hT : Tabs w) : Calls Tryz.prog 128 #[.int .u8 op] w fun e w' =>
 e = .returned (.tuple #[.int .i64 (kindOf op).1, .bool (kindOf op).2]) ∧ Below w.heap.size w w' := by
 have hrows := hT.rows; clear hT; generalize hR : kindOf op = R; have HR : Hid (_ = R) := hR; clear hR
 go_enter Tryz.func128, Tryz.ntmps128
 go_wp2_with (refine wpList_load_cells rfl 187 _ rfl ⟨1, 0, none⟩ rfl rowsCells _ (fun j v hv => by rw [addr0]; exact hrows j v hv) Tryz.underlying187 rfl (by kernel_rfl) ?_)
 clear hrows
 go_loopw [7] (fun i wr => ∃ k : Nat, k ≤ 25 ∧ i = .int .i64 k ∧ Hid (kindFrom op (List.range' k (25 - k)) = R) ∧ Below w.heap.size w wr) (fun i _ => 25 - (intOf i).toNat)
 case atStart => exact ⟨0, by omega, rfl, by rw [← HR.out]; rfl, Below.refl _ _⟩
 case round =>
  obtain ⟨k, hk, rfl, hR, hb⟩ := hrel; have hz := hb.size
  by_cases hlt : k < 25
  · have hix := index_row k hlt; have hst := kindFrom_step op k hlt; have HS : Hid ((if 0 < k ∧ opT k = op then ((k : Int), false) else if 0 < k ∧ longT k ≠ 0 ∧ longT k = op then ((k : Int), true) else kindFrom op (List.range' (k + 1) (25 - (k + 1)))) = R) := hst ▸ hR; clear hst hR HR; generalize opT (k : Int) = o at *; generalize longT (k : Int) = lo at *; generalize shapeT (k : Int) = sh at *
    go_wp2
    · have hk0 : 0 < k := by assumption
      have ho : (o == op) = true := by assumption
      obtain rfl : ((k : Int), false) = R := by rw [← HS.out, if_pos ⟨hk0, by simpa using ho⟩]
      go_ret2
      exact ⟨rfl, hb.alloc hz _⟩
    · have hk0 : 0 < k := by assumption
      have ho : (o == op) = false := by assumption
      have hl : (lo == op) = true := by assumption
      have hl0 : ¬ lo = 0 := by assumption
      obtain rfl : ((k : Int), true) = R := by rw [← HS.out, if_neg (fun h => by simp [h.2] at ho), if_pos ⟨hk0, hl0, by simpa using hl⟩]
      go_ret2
      exact ⟨rfl, hb.alloc hz _⟩
    · have ho : (o == op) = false := by assumption
      have hl : (lo == op) = false := by assumption
      go_roundw
      case rel => exact ⟨k + 1, by omega, by go_num, by rw [if_neg (fun h => by simp [h.2] at ho), if_neg (fun h => by simp [h.2.2] at hl)] at HS; exact HS, hb.alloc hz _⟩
      case measure => simp [intOf]; omega
    · have ho : (o == op) = false := by assumption
      have hl : lo = 0 := by assumption
      go_roundw
      case rel => exact ⟨k + 1, by omega, by go_num, by rw [if_neg (fun h => by simp [h.2] at ho), if_neg (fun h => h.2.1 hl)] at HS; exact HS, hb.alloc hz _⟩
      case measure => simp [intOf]; omega
    · have hk0 : ¬ 0 < k := by assumption
      go_roundw
      case rel => exact ⟨k + 1, by omega, by go_num, by rw [if_neg (fun h => hk0 h.1), if_neg (fun h => hk0 h.1)] at HS; exact HS, hb.alloc hz _⟩
      case measure => simp [intOf]; omega
  · obtain rfl : k = 25 := by omega
    obtain rfl : ((0 : Int), false) = R := by rw [← hR.out]; rfl
    go_wp2
    go_ret2
    exact ⟨rfl, hb⟩
theorem kindOf_ok (op : Int) (h0 : 0 ≤ op) (h1 : op < 256) : (kindOf op).1 = 0 ∨ (1 ≤ (kindOf op).1 ∧ (kindOf op).1 ≤ 24 ∧ ((kindOf op).2 = true → shapeT (kindOf op).1 = 8 ∨ shapeT (kindOf op).1 = 9)) := by
 have h : ∀ op : Fin 256, (kindOf (op.val : Int)).1 = 0 ∨ (1 ≤ (kindOf (op.val : Int)).1 ∧ (kindOf (op.val : Int)).1 ≤ 24 ∧ ((kindOf (op.val : Int)).2 = true → shapeT (kindOf (op.val : Int)).1 = 8 ∨ shapeT (kindOf (op.val : Int)).1 = 9)) := by decide +kernel
 have := h ⟨op.toNat, by omega⟩; simpa [Int.toNat_of_nonneg h0] using this
def decV (r : Ins × Int × Int) : Value := .tuple #[.agg r.1.cells, .int .i64 r.2.1, .int .i64 r.2.2]
set_option maxHeartbeats 1000000 in
set_option maxRecDepth 100000 in
theorem decode_out (A : Option Addr) (len cap : Nat) (at_ : Int) (w : World) (h : at_ < 0 ∨ (len : Int) ≤ at_) (hL : len ≤ 140737488355328) : Calls Tryz.prog 83 #[.slice A len cap, .int .i64 at_] w fun e w' =>
 e = .returned (.tuple #[.agg #[.int .i64 0, .int .i64 0, .int .i64 0, .int .i64 0, .int .i64 0, .bool false], .int .i64 0, .int .i64 2]) ∧ Below w.heap.size w w' := by
 have hfin : ∀ X, Below w.heap.size w (w.alloc X) := fun X => (Below.refl _ _).alloc lr' _
 rcases h with h | h
 · go_enter Tryz.func83, Tryz.ntmps83
   go_wp2
   refine bodyPost_ret (v := .tuple #[.agg #[.int .i64 0, .int .i64 0, .int .i64 0, .int .i64 0, .int .i64 0, .bool false], .int .i64 0, .int .i64 2]) (by simp [results, Tryz.results83, go_sem]) rfl ⟨rfl, hfin _⟩
 · have h0 : ¬ at_ < 0 := by omega
   go_enter Tryz.func83, Tryz.ntmps83
   go_wp2
   refine bodyPost_ret (v := .tuple #[.agg #[.int .i64 0, .int .i64 0, .int .i64 0, .int .i64 0, .int .i64 0, .bool false], .int .i64 0, .int .i64 2]) (by simp [results, Tryz.results83, go_sem]) rfl ⟨rfl, hfin _⟩
set_option maxHeartbeats 1000000 in
set_option maxRecDepth 100000 in
theorem decode_kind (p tb tof cap len : Nat) (op : Int) (w : World) (hT : Tabs w) (_hL : len ≤ 140737488355328) (hb : tb < w.heap.size) (h0 : w.cell? ⟨tb, tof + p, none⟩ = some (.int .u8 op))
 (hp : p < len) (hk : (kindOf op).1 = 0) :
 Calls Tryz.prog 83 #[.slice (some ⟨tb, tof, none⟩) len cap, .int .i64 p] w fun e w' =>
 e = .returned (.tuple #[.agg #[.int .i64 0, .int .i64 0, .int .i64 0, .int .i64 0, .int .i64 0, .bool false], .int .i64 0, .int .i64 3]) ∧ Below w.heap.size w w' := by
 have hk1 := hd' hk; clear hk
 go_enter Tryz.func83, Tryz.ntmps83
 go_wp2_with fail
 refine (kind_any _ _ (hT.alloc _)).mono ?_; rintro e w1 ⟨rfl, hb1⟩; rw [hk1.out]; generalize (kindOf op).2 = l; have hB1 : Below w.heap.size w w1 := ((Below.refl _ _).alloc lr' _).trans (hb1.mono (by simp)); have hlt : w.heap.size < w1.heap.size := by have := hb1.size; simp at this; omega
 have z0 : ∀ j v, Ins.zero.cells[j]? = some v → w1.cell? ⟨w.heap.size, j, none⟩ = some v := fun j v hv => (hb1.cell (p := ⟨w.heap.size, j, none⟩) (by simp)).trans ((cell_of_row _ _ _ _ _ _ (heap_alloc_new w _)).trans hv)
 have zf : ∀ j, w1.frozen? ⟨w.heap.size, j, none⟩ = false := fun j => (hb1.frozen (p := ⟨w.heap.size, j, none⟩) (by simp)).trans (frozen_of_row _ _ _ _ _ (heap_alloc_new w _))
 have c0 := z0 0 _ rfl; have c1 := z0 1 _ rfl; have c2 := z0 2 _ rfl; have c3 := z0 3 _ rfl; have c4 := z0 4 _ rfl; have c5 := z0 5 _ rfl; clear z0 hb1 hT h0
 have hfin : ∀ v0 v1 v2 v3 v4 v5, Below w.heap.size w ((((((w1.setCell ⟨w.heap.size, 0, none⟩ v0).setCell ⟨w.heap.size, 1, none⟩ v1).setCell ⟨w.heap.size, 2, none⟩ v2).setCell ⟨w.heap.size, 3, none⟩ v3).setCell ⟨w.heap.size, 4, none⟩ v4).setCell ⟨w.heap.size, 5, none⟩ v5) := fun _ _ _ _ _ _ => (((((hB1.setCell lr' _).setCell lr' _).setCell lr' _).setCell lr' _).setCell lr' _).setCell lr' _
 go_wp2
 refine bodyPost_ret (v := .tuple #[.agg #[.int .i64 0, .int .i64 0, .int .i64 0, .int .i64 0, .int .i64 0, .bool false], .int .i64 0, .int .i64 3]) (by simp [results, Tryz.results83, go_sem, *]) rfl ⟨rfl, hfin _ _ _ _ _ _⟩
set_option maxHeartbeats 4000000 in
set_option maxRecDepth 100000 in
theorem decode_short (k : Int) (l : Bool) (p tb tof cap len : Nat) (op : Int) (w : World) (hT : Tabs w) (hL : len ≤ 140737488355328) (hb : tb < w.heap.size) (h0 : w.cell? ⟨tb, tof + p, none⟩ = some (.int .u8 op))
 (hp : p < len) (hk : kindOf op = (k, l)) (hk0 : 1 ≤ k ∧ k ≤ 24) (hn : len < p + sizeK k l) :
 Calls Tryz.prog 83 #[.slice (some ⟨tb, tof, none⟩) len cap, .int .i64 p] w fun e w' =>
 e = .returned (.tuple #[.agg #[.int .i64 0, .int .i64 0, .int .i64 0, .int .i64 0, .int .i64 0, .bool false], .int .i64 0, .int .i64 5]) ∧ Below w.heap.size w w' := by
 have hsb := shapeT_bd k hk0.1 hk0.2; have hzb := sizeT_bd _ hsb.1 hsb.2; have hk1 := hd' hk; clear hk
 go_enter Tryz.func83, Tryz.ntmps83
 go_wp2_with fail
 refine (kind_any _ _ (hT.alloc _)).mono ?_; rintro e w1 ⟨rfl, hb1⟩; rw [hk1.out]; have hT1 := (hT.alloc _).below hb1; have hB1 : Below w.heap.size w w1 := ((Below.refl _ _).alloc lr' _).trans (hb1.mono (by simp)); have hlt : w.heap.size < w1.heap.size := by have := hb1.size; simp at this; omega
 have r0 := hT1.op k (by omega) (by omega); have r1 := hT1.long k (by omega) (by omega); have r2 := hT1.shape k (by omega) (by omega); have r3 := hT1.size (shapeT k) (by omega) (by omega); have hgs := hT1.sizes_lt; have z0 : ∀ j v, Ins.zero.cells[j]? = some v → w1.cell? ⟨w.heap.size, j, none⟩ = some v := fun j v hv => (hb1.cell (p := ⟨w.heap.size, j, none⟩) (by simp)).trans ((cell_of_row _ _ _ _ _ _ (heap_alloc_new w _)).trans hv)
 have zf : ∀ j, w1.frozen? ⟨w.heap.size, j, none⟩ = false := fun j => (hb1.frozen (p := ⟨w.heap.size, j, none⟩) (by simp)).trans (frozen_of_row _ _ _ _ _ (heap_alloc_new w _))
 have c0 := z0 0 _ rfl; have c1 := z0 1 _ rfl; have c2 := z0 2 _ rfl; have c3 := z0 3 _ rfl; have c4 := z0 4 _ rfl; have c5 := z0 5 _ rfl; clear z0 hb1 hT hT1 h0; have hne1 : ((k == 0) = false) := by simp; omega
 have hfin : ∀ X v0 v1 v2 v3 v4 v5, Below w.heap.size w (((((((w1.setCell ⟨w.heap.size, 0, none⟩ v0).setCell ⟨w.heap.size, 1, none⟩ v1).setCell ⟨w.heap.size, 2, none⟩ v2).setCell ⟨w.heap.size, 3, none⟩ v3).setCell ⟨w.heap.size, 4, none⟩ v4).setCell ⟨w.heap.size, 5, none⟩ v5).alloc X) := fun _ _ _ _ _ _ _ => ((((((hB1.setCell lr' _).setCell lr' _).setCell lr' _).setCell lr' _).setCell lr' _).setCell lr' _).alloc (by simp [World.setCell]; omega) _
 unfold sizeK at hn
 cases l
 · have hn2 : (len : Int) < p + sizeT (shapeT k) := by simpa using hn
   clear hn
   go_wp2
   refine bodyPost_ret (v := .tuple #[.agg #[.int .i64 0, .int .i64 0, .int .i64 0, .int .i64 0, .int .i64 0, .bool false], .int .i64 0, .int .i64 5]) (by simp [results, Tryz.results83, go_sem, *]) rfl ⟨rfl, hfin _ _ _ _ _ _ _⟩
 · have hn2 : (len : Int) < p + (sizeT (shapeT k) + 1) := by simpa using hn
   clear hn
   go_wp2
   refine bodyPost_ret (v := .tuple #[.agg #[.int .i64 0, .int .i64 0, .int .i64 0, .int .i64 0, .int .i64 0, .bool false], .int .i64 0, .int .i64 5]) (by simp [results, Tryz.results83, go_sem, *]) rfl ⟨rfl, hfin _ _ _ _ _ _ _⟩
def Ins.regs (i : Ins) : Prop := (0 ≤ i.d ∧ i.d < 8) ∧ (0 ≤ i.a ∧ i.a < 8) ∧ (0 ≤ i.b ∧ i.b < 8)
theorem isReg_iff (n : Int) : isReg n = true ↔ 0 ≤ n ∧ n < 8 := by simp [isReg]
theorem inside_iff (n lo hi : Int) : inside n lo hi = true ↔ lo ≤ n ∧ n ≤ hi := by simp [inside]
theorem chk_zero {k d a b n : Int} {l : Bool} : chk k d a b n l = 0 ↔ (1 ≤ k ∧ k ≤ 24) ∧ formBad k d a b n l = false ∧ ((0 ≤ d ∧ d < 8) ∧ (0 ≤ a ∧ a < 8) ∧ (0 ≤ b ∧ b < 8)) ∧ nOk k n l = true := by
 unfold chk
 by_cases h1 : k < 1 ∨ 24 < k
 · rw [if_pos h1]; constructor
   · intro h; cases h
   · intro h; omega
 · rw [if_neg h1]
   by_cases h2 : formBad k d a b n l = true
   · rw [if_pos h2]; simp [h2]
   · rw [if_neg h2]; rw [Bool.not_eq_true] at h2
     by_cases h3 : (!isReg d || !isReg a || !isReg b) = true
     · rw [if_pos h3]; simp only [Bool.or_eq_true, Bool.not_eq_true', ← Bool.not_eq_true, isReg_iff] at h3
       constructor
       · intro h; cases h
       · intro h; omega
     · rw [if_neg h3]; simp only [Bool.or_eq_true, Bool.not_eq_true', ← Bool.not_eq_true, isReg_iff, not_or, Classical.not_not] at h3
       by_cases h4 : nOk k n l = true
       · rw [if_pos h4]; exact ⟨fun _ => ⟨by omega, h2, ⟨h3.1.1, h3.1.2, h3.2⟩, h4⟩, fun _ => rfl⟩
       · rw [if_neg h4]; simp [h4]
theorem ins_chk_zero {i : Ins} : i.chk = 0 ↔ (1 ≤ i.k ∧ i.k ≤ 24) ∧ formBad i.k i.d i.a i.b i.n i.l = false ∧ i.regs ∧ nOk i.k i.n i.l = true := chk_zero
theorem tab_three (k : Int) (h : 7 ≤ k ∧ k ≤ 13) : shapeT k = 4 ∧ longT k = 0 := by
 obtain ⟨n, rfl⟩ := Int.eq_ofNat_of_zero_le (show 0 ≤ k by omega); have : ∀ n : Fin 25, 7 ≤ n.val ∧ n.val ≤ 13 → shapeT (n.val : Int) = 4 ∧ longT (n.val : Int) = 0 := by decide +kernel
 exact this ⟨n, by omega⟩ (by simp; omega)
theorem tab_branch (k : Int) (h : 18 ≤ k ∧ k ≤ 21) : shapeT k = 8 ∧ longT k ≠ 0 := by
 obtain ⟨n, rfl⟩ := Int.eq_ofNat_of_zero_le (show 0 ≤ k by omega); have : ∀ n : Fin 25, 18 ≤ n.val ∧ n.val ≤ 21 → shapeT (n.val : Int) = 8 ∧ longT (n.val : Int) ≠ 0 := by decide +kernel
 exact this ⟨n, by omega⟩ (by simp; omega)
theorem tab_5 : shapeT 5 = 2 ∧ longT 5 = 0 := by decide
theorem tab_6 : shapeT 6 = 3 ∧ longT 6 = 0 := by decide
theorem tab_14 : shapeT 14 = 3 ∧ longT 14 = 0 := by decide
theorem tab_15 : shapeT 15 = 5 ∧ longT 15 = 0 := by decide
theorem tab_16 : shapeT 16 = 6 ∧ longT 16 = 0 := by decide
theorem tab_17 : shapeT 17 = 7 ∧ longT 17 = 0 := by decide
theorem tab_22 : shapeT 22 = 9 ∧ longT 22 ≠ 0 := by decide
theorem tab_23 : shapeT 23 = 10 ∧ longT 23 = 0 := by decide
theorem tab_4 : shapeT 4 = 1 ∧ longT 4 = 0 := by decide
theorem sizeK_bd {i : Ins} (h : i.chk = 0) : 1 ≤ sizeK i.k i.l ∧ sizeK i.k i.l ≤ 4 := by
 obtain ⟨hk, hf, -, -⟩ := ins_chk_zero.1 h
 have hl : i.l = true → longT i.k ≠ 0 := by
  intro h1 h2; simp [formBad, h1, h2] at hf
 obtain ⟨n, hn⟩ := Int.eq_ofNat_of_zero_le (show 0 ≤ i.k by omega); have h0 : ∀ n : Fin 25, 1 ≤ n.val → (1 ≤ sizeT (shapeT (n.val : Int)) ∧ sizeT (shapeT (n.val : Int)) ≤ 4 ∧ (longT (n.val : Int) ≠ 0 → sizeT (shapeT (n.val : Int)) ≤ 3)) := by decide +kernel
 have := h0 ⟨n, by omega⟩ (by simp; omega); simp only at this; rw [← hn] at this; unfold sizeK
 cases hh : i.l
 · simp; omega
 · have := hl hh; simp; omega
theorem fin25 {p : Int → Prop} (h : ∀ n : Fin 25, 1 ≤ n.val → p (n.val : Int)) (k : Int) (h1 : 1 ≤ k) (h2 : k ≤ 24) : p k := by
 obtain ⟨n, rfl⟩ := Int.eq_ofNat_of_zero_le (show 0 ≤ k by omega); exact h ⟨n, by omega⟩ (by simp; omega)
theorem kind_op (k : Int) (h1 : 1 ≤ k) (h2 : k ≤ 24) (l : Bool) (hl : l = true → longT k ≠ 0) : kindOf (opL k l) = (k, l) :=
 fin25 (p := fun k => ∀ l : Bool, (l = true → longT k ≠ 0) → kindOf (opL k l) = (k, l)) (by decide +kernel) k h1 h2 l hl
theorem long_shape (k : Int) (h1 : 1 ≤ k) (h2 : k ≤ 24) (h : longT k ≠ 0) : shapeT k = 8 ∨ shapeT k = 9 :=
 fin25 (p := fun k => longT k ≠ 0 → shapeT k = 8 ∨ shapeT k = 9) (by decide +kernel) k h1 h2 h
theorem op_bd (k : Int) (h1 : 1 ≤ k) (h2 : k ≤ 24) (l : Bool) : 0 ≤ opL k l ∧ opL k l < 112 :=
 fin25 (p := fun k => ∀ l : Bool, 0 ≤ opL k l ∧ opL k l < 112) (by decide +kernel) k h1 h2 l
theorem num1_of (n : Int) (h1 : -128 ≤ n) (h2 : n ≤ 127) : num1 (n % 256) = n := by unfold num1; split <;> omega
theorem num2_of (n : Int) (h1 : -32768 ≤ n) (h2 : n ≤ 32767) : num2 (n % 256) (n / 256 % 256) = n := by unfold num2; split <;> omega
def Ins.enc (i : Ins) : List Int := encB i.k i.d i.a i.b i.n i.l
theorem sizes_of : sizeT 1 = 1 ∧ sizeT 2 = 4 ∧ sizeT 3 = 3 ∧ sizeT 4 = 3 ∧ sizeT 5 = 3 ∧ sizeT 6 = 2 ∧ sizeT 7 = 2 ∧ sizeT 8 = 3 ∧ sizeT 9 = 2 ∧ sizeT 10 = 3 ∧ sizeT 11 = 3 := by decide
theorem ins_long {i : Ins} (h : i.chk = 0) (hl : i.l = true) : longT i.k ≠ 0 := by
 obtain ⟨-, hf, -, -⟩ := ins_chk_zero.1 h; intro h2; simp [formBad, hl, h2] at hf
theorem ins_shape {i : Ins} (h : i.chk = 0) : shapeT i.k = 1 ∨ shapeT i.k = 2 ∨ shapeT i.k = 3 ∨ shapeT i.k = 4 ∨ shapeT i.k = 5 ∨ shapeT i.k = 6 ∨ shapeT i.k = 7 ∨ shapeT i.k = 8 ∨ shapeT i.k = 9 ∨ shapeT i.k = 10 ∨ shapeT i.k = 11 := by
 obtain ⟨hk, -⟩ := ins_chk_zero.1 h; have := shapeT_bd i.k hk.1 hk.2; omega
theorem enc_len {i : Ins} (h : i.chk = 0) : (i.enc.length : Int) = sizeK i.k i.l := by
 obtain ⟨hk, -⟩ := ins_chk_zero.1 h; have hl : i.l = true → shapeT i.k = 8 ∨ shapeT i.k = 9 := fun hh => long_shape _ hk.1 hk.2 (ins_long h hh)
 obtain ⟨s1, s2, s3, s4, s5, s6, s7, s8, s9, s10, s11⟩ := sizes_of; unfold Ins.enc encB sizeK
 cases hb : i.l
 · rcases ins_shape h with hs | hs | hs | hs | hs | hs | hs | hs | hs | hs | hs <;> simp [hs, tailB, lastB, s1, s2, s3, s4, s5, s6, s7, s8, s9, s10, s11]
 · rcases hl hb with hs | hs <;> simp [hs, tailB, lastB, s8, s9]
theorem insOf_enc {i : Ins} (h : i.chk = 0) : insOf i.k i.l (i.enc.getD 1 0) (i.enc.getD 2 0) (i.enc.getD 3 0) = i := by
 obtain ⟨hk, hf, hr, hn⟩ := ins_chk_zero.1 h; have hl : i.l = true → shapeT i.k = 8 ∨ shapeT i.k = 9 := fun hh => long_shape _ hk.1 hk.2 (ins_long h hh)
 have hs := ins_shape h; unfold Ins.enc; obtain ⟨k, d, a, b, n, l⟩ := i; simp only at *; unfold Ins.regs at hr; simp only at hr; obtain ⟨hd, ha, hb⟩ := hr; have e1 : (d * 16 + a) / 16 = d ∧ (d * 16 + a) % 16 = a := by omega
 have e2 : (b * 16 + a) / 16 = b ∧ (b * 16 + a) % 16 = a := by omega
 have e3 : (a * 16 + b) / 16 = a ∧ (a * 16 + b) % 16 = b := by omega
 cases l
 · rcases hs with hs | hs | hs | hs | hs | hs | hs | hs | hs | hs | hs <;>
    simp [formBad, nOk, hs, hasD, hasA, hasB, hasN, inside] at hf hn <;> simp [insOf, encB, tailB, lastB, hs, e1, e2, e3, hf] <;> (try omega) <;> (try (first | exact num1_of _ (by omega) (by omega) | exact num2_of _ (by omega) (by omega)))
 · rcases hl rfl with hs | hs <;>
    simp [formBad, nOk, hs, hasD, hasA, hasB, hasN, inside] at hf hn <;> simp [insOf, encB, tailB, lastB, hs, e3, hf] <;> exact num2_of _ (by omega) (by omega)
theorem enc_bytes {i : Ins} (h : i.chk = 0) : ∀ x ∈ i.enc, 0 ≤ x ∧ x < 256 := by
 obtain ⟨hk, hf, hr, hn⟩ := ins_chk_zero.1 h; have hl : i.l = true → shapeT i.k = 8 ∨ shapeT i.k = 9 := fun hh => long_shape _ hk.1 hk.2 (ins_long h hh)
 have hs := ins_shape h; have ho := op_bd i.k hk.1 hk.2 i.l; obtain ⟨hd, ha, hb⟩ := hr; intro x hx; unfold Ins.enc encB at hx; simp only [List.mem_cons] at hx; rcases hx with rfl | hx
 · omega
 · rcases hs with hs | hs | hs | hs | hs | hs | hs | hs | hs | hs | hs <;> cases hb : i.l <;> simp [tailB, lastB, hs, hb] at hx <;> omega
theorem insOf_ext (k : Int) (l : Bool) (h1 : 1 ≤ k) (h2 : k ≤ 24) (hl : l = true → shapeT k = 8 ∨ shapeT k = 9) (x y z x' y' z' : Int) (hx : 2 ≤ sizeK k l → x = x') (hy : 3 ≤ sizeK k l → y = y') (hz : 4 ≤ sizeK k l → z = z') :
 insOf k l x y z = insOf k l x' y' z' := by
 have hb := shapeT_bd k h1 h2; have hs : shapeT k = 1 ∨ shapeT k = 2 ∨ shapeT k = 3 ∨ shapeT k = 4 ∨ shapeT k = 5 ∨ shapeT k = 6 ∨ shapeT k = 7 ∨ shapeT k = 8 ∨ shapeT k = 9 ∨ shapeT k = 10 ∨ shapeT k = 11 := by omega
 obtain ⟨s1, s2, s3, s4, s5, s6, s7, s8, s9, s10, s11⟩ := sizes_of
 cases l
 · rcases hs with hs | hs | hs | hs | hs | hs | hs | hs | hs | hs | hs <;> simp [insOf, hs, sizeK, s1, s2, s3, s4, s5, s6, s7, s8, s9, s10, s11] at hx hy hz ⊢ <;> simp [*]
 · rcases hl rfl with hs | hs <;> simp [insOf, hs, sizeK, s8, s9] at hx hy hz ⊢ <;> simp [*]
theorem getD_mid (pre m post : List Int) (j : Nat) (h : j < m.length) : (pre ++ m ++ post).getD (pre.length + j) 0 = m.getD j 0 := by
 have : ¬ pre.length + j < pre.length := by omega
 simp [List.getD, List.getElem?_append, h, this]
theorem ins_hl {i : Ins} (h : i.chk = 0) : i.l = true → shapeT i.k = 8 ∨ shapeT i.k = 9 := fun hh => long_shape _ (ins_chk_zero.1 h).1.1 (ins_chk_zero.1 h).1.2 (ins_long h hh)
theorem enc_pos {i : Ins} (h : i.chk = 0) : 0 < i.enc.length ∧ i.enc.length ≤ 4 := by
 have h1 := enc_len h; have h2 := sizeK_bd h; omega
theorem enc_head {i : Ins} (_h : i.chk = 0) : i.enc.getD 0 0 = opL i.k i.l := rfl
theorem dec_enc (pre post : List Int) {i : Ins} (h : i.chk = 0) : decB (pre ++ i.enc ++ post) pre.length = (i, (i.enc.length : Int), 0) := by
 obtain ⟨hk, -, -, -⟩ := ins_chk_zero.1 h; have hz := enc_len h; have hp := enc_pos h; have e0 := getD_mid pre i.enc post 0 hp.1; have hle : pre.length + i.enc.length ≤ (pre ++ i.enc ++ post).length := by simp
 unfold decB; rw [if_neg (by omega)]; simp only [Int.toNat_natCast]; rw [show pre.length = pre.length + 0 from rfl, e0, enc_head h, kind_op i.k hk.1 hk.2 i.l (ins_long h)]; simp only [Nat.add_zero]; rw [if_neg (by omega), if_neg (by omega)]
 have hI : insOf i.k i.l ((pre ++ i.enc ++ post).getD (pre.length + 1) 0) ((pre ++ i.enc ++ post).getD (pre.length + 2) 0) ((pre ++ i.enc ++ post).getD (pre.length + 3) 0) = i := by
  conv => rhs; rw [← insOf_enc h]
  exact insOf_ext i.k i.l hk.1 hk.2 (ins_hl h) _ _ _ _ _ _ (fun q => getD_mid _ _ _ _ (by omega)) (fun q => getD_mid _ _ _ _ (by omega)) (fun q => getD_mid _ _ _ _ (by omega))
 rw [hI, if_pos h, hz]
end Go.Proofs.YtcdlgjhdbmmomaaGreatDoor
