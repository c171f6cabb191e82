/- The given statement on ImageBack, proved: an image's bytes are decoded to the image; cut, or with a byte more, they are refused. No condition of its own. -/
import Derived.Test.YtdliienkbpdnbaaDoorLawS
import Derived.Test.YtdliienkbpdnbaaDoorPgmG
import Derived.Test.YtdliienkbpdnbaaDoorAsmG
import Derived.Test.YtdliienkbpdnbaaDoorEncX
import Derived.Test.YtdliienkbpdnbaaDoorDecX
import Derived.Test.YtdliienkbpdnbaaDoorCpy
import Derived.Test.YtdliienkbpdnbaaDoorSame
import Derived.OwnWalk
import Derived.Deep.DeepCutAuto
import Derived.WalkLawsBesides
namespace Go.Proofs.YtdliienkbpdnbaaDoor
open Go.ChangeShapes Go.WideShapes Go.ChangeAt Go.RowKit Go.Joins
open Go.ChangeMaps (open_string)
theorem own_nilB {w : World} {b n c : Nat} {e : TypeId} {A : Option Addr} {nb : List Int} {xs : List Value} (h : w.ownsRow b e 1 (.slice A n c) n xs) (e1 : A = none) (hn : nb.length = n) : nb = [] := by
  subst e1
  rcases h.2 with ⟨_, e2⟩ | ⟨g, cap, cur, hv, -⟩
  · exact List.eq_nil_of_length_eq_zero (by rw [hn]; exact e2)
  · cases hv
set_option maxHeartbeats 8000000 in
set_option maxRecDepth 100000 in
theorem imageBack_walk (l : List RawI) (A : Option Addr) (c : Nat) (cut tail : Int) (hcut : N64 cut) (htail : 0 ≤ tail ∧ tail < 256) (w : World) (hT : Tabs w) (hR : RdR w w.heap.size A l) (hl : l.length ≤ 140737488355328) (hc : l.length ≤ c) :
    Calls Tryd.prog 4 #[.slice A l.length c, .int .i64 cut, .int .u8 tail] w fun e w' => e = .returned (.bool true) ∧ Below w.heap.size w w' := by
  have HPG := Lib.hid (program_any l A c w hT hR hc hl)
  obtain ⟨ll, hll⟩ : ∃ z, l.length = z := ⟨_, rfl⟩
  rw [hll] at HPG ⊢
  have HCUT := Lib.hid hcut
  have HTL := Lib.hid htail
  clear hT hR hl hc hll hcut htail
  go_enter Tryd.func4, Tryd.ntmps4
  go_wp2_with fail
  refine HPG.out.mono ?_
  rintro e wp ⟨hb1, ⟨tA, tc, fA, fc, bA, bc, dA, dc, lA, lc⟩, m, rfl, hown, hok, hpg⟩
  have hrd := hown.rd
  have hck := hpg.check
  have hF := check_fits hck
  have HRD := Lib.hid hrd
  have HOK := Lib.hid hok
  have HCK := Lib.hid hck
  have HB1 := Lib.hid hb1
  have HF := Lib.hid hF
  clear hb1 hown hok hpg HPG hck hrd hF
  have HCP : Hid (∀ W, Below wp.heap.size wp W → Calls Tryd.prog 15 #[.agg (m.val ⟨tA, tc, fA, fc, bA, bc, dA, dc, lA, lc⟩)] W (CopyPost W m)) := Lib.hid fun W h => copy_any m _ W ((HRD.out.below h).more h.size) HOK.out
    ⟨by have := HF.out.tl; omega, by have := HF.out.fl; omega, by have := HF.out.bl; omega, by have := HF.out.dl; omega, by have := HF.out.ll; omega, fun t ht => by have := (HF.out.bb t ht).1; omega⟩
  have HEN : Hid (∀ W, Below wp.heap.size wp W → Calls Tryd.prog 16 #[.agg (m.val ⟨tA, tc, fA, fc, bA, bc, dA, dc, lA, lc⟩)] W (IEncPost W m)) := Lib.hid fun W h => imgEncode_any m _ W ((HRD.out.below h).more h.size) HOK.out
  have HCH : Hid (∀ W, Below wp.heap.size wp W → Calls Tryd.prog 20 #[.agg (m.val ⟨tA, tc, fA, fc, bA, bc, dA, dc, lA, lc⟩)] W fun e w' => e = .returned (.int .i64 0) ∧ Below W.heap.size W w') := Lib.hid fun W h => by
    have := imgCheck_any m _ W ((HRD.out.below h).more h.size) HOK.out
    rw [HCK.out] at this
    exact this
  have HSM : Hid (∀ W (v2 : ImgV), Below wp.heap.size wp W → ImgRd W W.heap.size m v2 → Calls Tryd.prog 21 #[.agg (m.val ⟨tA, tc, fA, fc, bA, bc, dA, dc, lA, lc⟩), .agg (m.val v2)] W fun e w' => e = .returned (.bool true) ∧ Below W.heap.size W w') := Lib.hid fun W v2 h hi => same_image m _ v2 W ((HRD.out.below h).more h.size) HOK.out hi
  have HSM2 : Hid (∀ W (v2 : ImgV), Below wp.heap.size wp W → ImgRd W W.heap.size m v2 → ImgOk m v2 → Calls Tryd.prog 21 #[.agg (m.val v2), .agg (m.val ⟨tA, tc, fA, fc, bA, bc, dA, dc, lA, lc⟩)] W fun e w' => e = .returned (.bool true) ∧ Below W.heap.size W w') := Lib.hid fun W v2 h hi ho => same_image m v2 _ W hi ho ((HRD.out.below h).more h.size)
  unfold Img.val at *
  simp only at *
  obtain ⟨T, hT⟩ : ∃ T, m.text.length = T := ⟨_, rfl⟩
  obtain ⟨NF, hNF⟩ : ∃ T, m.funcs.length = T := ⟨_, rfl⟩
  obtain ⟨NB, hNB⟩ : ∃ T, m.tables.length = T := ⟨_, rfl⟩
  obtain ⟨ND, hND⟩ : ∃ T, m.data.length = T := ⟨_, rfl⟩
  obtain ⟨NL, hNL⟩ : ∃ T, m.lines.length = T := ⟨_, rfl⟩
  obtain ⟨EN, hEN⟩ : ∃ T, m.entry = T := ⟨_, rfl⟩
  obtain ⟨EL, hEL⟩ : ∃ T, (encF m).length = T := ⟨_, rfl⟩
  simp only [hT, hNF, hNB, hND, hNL, hEN] at HCP HEN HCH HSM HSM2 ⊢
  have hEL4 : 4 ≤ EL := by rw [← hEL]; simp [encF, magicL]
  have hEL3 : EL ≤ 30000 := by rw [← hEL]; exact HF.out.len
  have HBE : Hid (ByteL (encF m)) := Lib.hid (ByteL.app (by intro x hx; simp only [magicL, List.mem_cons, List.not_mem_nil, or_false] at hx; omega) (encBody_bytes HOK.out.tb))
  have HN := Lib.hid (And.intro hT (And.intro hNF (And.intro hNB (And.intro hND (And.intro hNL (And.intro hEN hEL))))))
  clear hT hNF hNB hND hNL hEN hEL
  go_upto_region 2 with fail
  obtain ⟨W3, hW3⟩ : ∃ z, wp.alloc (.cells #[.slice tA T tc, .slice fA NF fc, .slice bA NB bc, .slice dA ND dc, .slice lA NL lc, .int .i64 EN] 29) = z := ⟨_, rfl⟩
  rw [hW3]
  have hm3 : Blk W3 wp.heap.size 29 [.slice tA T tc, .slice fA NF fc, .slice bA NB bc, .slice dA ND dc, .slice lA NL lc, .int .i64 EN] := by rw [← hW3]; exact Blk.new _ _ _
  have hb3 : Below wp.heap.size wp W3 := by rw [← hW3]; exact (Below.refl _ _).alloc (Nat.le_refl _) _
  have HM3 := Lib.hid hm3
  have HB3 := Lib.hid hb3
  have m0 := hm3.cell 0 rfl
  have m1 := hm3.cell 1 rfl
  have m2 := hm3.cell 2 rfl
  have m3 := hm3.cell 3 rfl
  have m4 := hm3.cell 4 rfl
  have m5 := hm3.cell 5 rfl
  have ml := hm3.lt
  clear hm3 hb3 hW3
  go_wp2_with fail
  refine (HEN.out W3 HB3.out).mono ?_
  rintro e w5 ⟨hb5, -, h5⟩
  obtain ⟨A5, c5, rfl, ho5⟩ := h5 HCK.out
  rw [HN.out.2.2.2.2.2.2] at ho5 ⊢
  obtain ⟨r5, hc5, -⟩ := own_rdgD ho5
  have hn5 : A5 = none → encF m = [] := fun e => own_nilB ho5 e HN.out.2.2.2.2.2.2
  have HR5 := Lib.hid r5
  have HN5 := Lib.hid hn5
  have HB5 := Lib.hid hb5
  have HD1 : Hid (∀ W, Below w5.heap.size w5 W → Calls Tryd.prog 17 #[.slice A5 EL c5] W fun e w' => Below W.heap.size W w' ∧ ∃ v : ImgV, e = .returned (.tuple #[.agg (m.val v), .int .i64 0]) ∧ ImgRd w' w'.heap.size m v ∧ ImgOk m v) := Lib.hid fun W h => by
    have := imgDecode_any (encF m) A5 EL c5 W HN.out.2.2.2.2.2.2 HBE.out HN5.out hc5 ((HR5.out.below h).more h.size) (by omega)
    unfold DecPost at this
    rw [enc_dec HF.out HCK.out (by rw [HN.out.2.2.2.2.2.2]; omega)] at this
    exact this
  clear hb5 h5 ho5 r5 hn5 m0 m1 m2 m3 m4 m5 ml HEN
  unfold Img.val at HD1
  simp only [HN.out.1, HN.out.2.1, HN.out.2.2.1, HN.out.2.2.2.1, HN.out.2.2.2.2.1, HN.out.2.2.2.2.2.1] at HD1
  go_wp2_with fail
  refine (HD1.out w5 (Below.refl _ _)).mono ?_
  rintro e w6 ⟨hb6, ⟨ta, tk, fa, fk, ba, bk, da, dk, la, lk⟩, rfl, hi6, ho6⟩
  have HI6 := Lib.hid hi6
  have HO6 := Lib.hid ho6
  have HB6 := Lib.hid hb6
  simp only
  clear hi6 ho6 hb6 HD1
  go_upto_region 4 with fail
  obtain ⟨Y, hY⟩ : ∃ z, w6.heap.size = z := ⟨_, rfl⟩
  obtain ⟨W7, hW7⟩ : ∃ z, w6.alloc (.cells #[.slice ta T tk, .slice fa NF fk, .slice ba NB bk, .slice da ND dk, .slice la NL lk, .int .i64 EN] 29) = z := ⟨_, rfl⟩
  have hal7 : Below w6.heap.size w6 W7 := by rw [← hW7]; exact (Below.refl _ _).alloc (Nat.le_refl _) _
  have hy7 : Blk W7 Y 29 [.slice ta T tk, .slice fa NF fk, .slice ba NB bk, .slice da ND dk, .slice la NL lk, .int .i64 EN] := by rw [← hW7, ← hY]; exact Blk.new _ _ _
  rw [hW7, hY]
  have HY7 := Lib.hid hy7
  have HI7 := Lib.hid ((HI6.out.below hal7).more hal7.size)
  have HB57 : Hid (Below w5.heap.size w5 W7) := Lib.hid (HB6.out.trans (hal7.mono HB6.out.size))
  clear hal7 hy7 hW7 hY HI6 HB6
  have hkb := pickL_bd cut (EL : Int) (by omega)
  obtain ⟨k, hk⟩ : ∃ k : Nat, pickL cut (EL : Int) = (k : Int) := ⟨(pickL cut (EL : Int)).toNat, by omega⟩
  have HPK := Lib.hid (fun W => picked_any cut (EL : Int) W HCUT.out.1 HCUT.out.2 (by omega) (by omega))
  rw [hk] at hkb HPK
  have hkE : k < EL := by omega
  have hkI : (k : Int) ≤ (EL : Int) := by omega
  have hkc : (k : Int) ≤ (c5 : Int) := by omega
  have h1E : (1 : Int) ≤ (EL : Int) := by omega
  have HDC : Hid (∀ W, Below w5.heap.size w5 W → Calls Tryd.prog 17 #[.slice A5 k c5] W fun e w' => Below W.heap.size W w' ∧ ∃ v : ImgV, e = .returned (.tuple #[.agg (Img.zero.val v), .int .i64 5])) := Lib.hid fun W h => by
    have hz : intsV .u8 ((encF m).take k) = (intsV .u8 (encF m)).take k := by simp [intsV]
    have := imgDecode_any ((encF m).take k) A5 k c5 W (by rw [List.length_take, HN.out.2.2.2.2.2.2]; omega) (fun x hx => HBE.out x (List.mem_of_mem_take hx)) (fun e => by rw [HN5.out e]; simp) (by omega) (by rw [hz]; exact ((HR5.out.take k).below h).more h.size) (by omega)
    unfold DecPost at this
    rw [enc_cut HF.out HOK.out.tb (by rw [HN.out.2.2.2.2.2.2]; omega) k (by rw [HN.out.2.2.2.2.2.2]; exact hkE)] at this
    exact this.mono fun e w' ⟨q1, v, q2, _⟩ => ⟨q1, v, q2⟩
  clear hk hkb
  unfold Img.val Img.zero at HDC
  simp only [List.length_nil] at HDC
  go_wp2_with fail
  refine (HPK.out _).mono ?_
  rintro e w8 ⟨rfl, rfl⟩
  go_wp2_with fail
  refine (HDC.out _ HB57.out).mono ?_
  rintro e w9 ⟨hb9, ⟨ya, yk, za, zk, xa, xk, va, vk, ua, uk⟩, rfl⟩
  simp only
  have HB9 := Lib.hid hb9
  have hz5 := HB57.out.size
  have hz7 := hb9.size
  clear hb9 HDC HPK
  go_upto_region 5 with fail
  obtain ⟨W10, hW10⟩ : ∃ z, w9.alloc (.cells #[.slice ya 0 yk, .slice za 0 zk, .slice xa 0 xk, .slice va 0 vk, .slice ua 0 uk, .int .i64 0] 29) = z := ⟨_, rfl⟩
  have hb10 : Below w5.heap.size w5 W10 := by rw [← hW10]; exact (HB57.out.trans (HB9.out.mono hz5)).alloc (by omega) _
  have hb710 : Below W7.heap.size W7 W10 := by rw [← hW10]; exact HB9.out.alloc hz7 _
  rw [hW10]
  have HB10 := Lib.hid hb10
  have HB710 := Lib.hid hb710
  clear hW10 hb10 hb710 HB9
  go_wp2_with fail
  refine (clone_u8 (encF m) A5 EL c5 W10 HN.out.2.2.2.2.2.2 (fun e => by have := HN5.out e; have h2 := HN.out.2.2.2.2.2.2; rw [this] at h2; exact h2.symm) (by omega) ((HR5.out.below HB10.out).more HB10.out.size)).mono ?_
  rintro e w11 ⟨A11, c11, rfl, hb11, ho11⟩
  have HB11 := Lib.hid hb11
  have HO11 := Lib.hid ho11
  have hz11 := hb11.size
  clear hb11 ho11
  have htw : IntKind.u8.wrap tail = tail := by rw [IntKind.wrap_u8]; have := HTL.out; omega
  go_wp2_with (first | (at_builtin; refine app_one rfl _ _ 23 5 1 1 _ Tryd.underlying23 infoU8' rfl (by decide) rfl W10.heap.size _ EL _ rfl (World.ownsRow.alloc HO11.out _) w11.heap.size 1 rfl [.int .u8 tail] 5 (0, 0) (heap_alloc_new w11 _) rfl (by simp [Value.oneCell']) (by omega) (by omega) (by simp; omega) (w11.heap.size + 1) (by simp) ?a1))
  case a1 =>
    intro g12 c12 w12 ho12 hg12 hat12 hlt12
    have hal1 : Below w11.heap.size w11 (w11.alloc (.cells #[.int .u8 tail] 5)) := (Below.refl _ _).alloc (Nat.le_refl _) _
    have hoA := World.ownsRow.alloc HO11.out (.cells #[.int .u8 tail] 5)
    have hb12 : Below W10.heap.size W10 w12 := HB11.out.trans ((hal1.mono hz11).trans (gb_belowU hg12 (fun q e => (World.ownsRow.lt hoA q e).1) (by simp; omega)))
    obtain ⟨r12, hc12, -⟩ := own_rdgD ho12
    have hap : intsV .u8 (encF m) ++ [.int .u8 tail] = intsV .u8 (encF m ++ [tail]) := by simp [intsV]
    rw [hap] at r12
    have HD2 : Hid (Calls Tryd.prog 17 #[.slice (some ⟨g12, 0, none⟩) (EL + 1) c12] w12 fun e w' => Below w12.heap.size w12 w' ∧ ∃ v : ImgV, e = .returned (.tuple #[.agg (Img.zero.val v), .int .i64 4])) := Lib.hid (by
      have := imgDecode_any (encF m ++ [tail]) (some ⟨g12, 0, none⟩) (EL + 1) c12 w12 (by rw [List.length_append, HN.out.2.2.2.2.2.2]; rfl) (HBE.out.app (by intro x hx; simp only [List.mem_singleton] at hx; subst hx; exact HTL.out)) (fun e => by cases e) hc12 r12 (by omega)
      unfold DecPost at this
      rw [enc_more HF.out tail (by rw [HN.out.2.2.2.2.2.2]; omega)] at this
      exact this.mono fun e w' ⟨q1, v, q2, _⟩ => ⟨q1, v, q2⟩)
    have HB12 := Lib.hid hb12
    clear ho12 hg12 hat12 hal1 hoA hb12 r12 hap HO11 HB11
    unfold Img.val Img.zero at HD2
    simp only [List.length_nil] at HD2
    go_wp2_with fail
    refine HD2.out.mono ?_
    rintro e w13 ⟨hb13, ⟨ya2, yk2, za2, zk2, xa2, xk2, va2, vk2, ua2, uk2⟩, rfl⟩
    simp only
    have HB13 := Lib.hid hb13
    clear hb13 HD2
    go_upto_region 6 with fail
    obtain ⟨W14, hW14⟩ : ∃ z, w13.alloc (.cells #[.slice ya2 0 yk2, .slice za2 0 zk2, .slice xa2 0 xk2, .slice va2 0 vk2, .slice ua2 0 uk2, .int .i64 0] 29) = z := ⟨_, rfl⟩
    have hb14 : Below W7.heap.size W7 W14 := by
      rw [← hW14]
      exact (HB710.out.trans ((HB12.out.trans (HB13.out.mono HB12.out.size)).mono HB710.out.size)).alloc (by have := HB710.out.size; have := HB12.out.size; have := HB13.out.size; omega) _
    rw [hW14]
    have hbp : Below wp.heap.size wp W14 := HB3.out.trans ((HB5.out.trans ((HB57.out.trans (hb14.mono HB57.out.size)).mono HB5.out.size)).mono HB3.out.size)
    have hm14 := (HM3.out.keep (HB5.out.trans (HB57.out.mono HB5.out.size))).keep hb14
    have hy14 := HY7.out.keep hb14
    have hi14 := (HI7.out.below hb14).more hb14.size
    have HBP := Lib.hid hbp
    have HM14 := Lib.hid hm14
    have HY14 := Lib.hid hy14
    have HI14 := Lib.hid hi14
    clear hW14 hb14 hbp HB710 HB12 HB13 HB10 HB57 HI7 HY7 HM3 hi14
    have m0 := hm14.cell 0 rfl
    have m1 := hm14.cell 1 rfl
    have m2 := hm14.cell 2 rfl
    have m3 := hm14.cell 3 rfl
    have m4 := hm14.cell 4 rfl
    have m5 := hm14.cell 5 rfl
    have ml := hm14.lt
    have y0 := hy14.cell 0 rfl
    have y1 := hy14.cell 1 rfl
    have y2 := hy14.cell 2 rfl
    have y3 := hy14.cell 3 rfl
    have y4 := hy14.cell 4 rfl
    have y5 := hy14.cell 5 rfl
    have yl := hy14.lt
    clear hm14 hy14
    have HL20 : Hid (∀ t ∈ m.tables, t.length ≤ 140737488355328) := Lib.hid fun t ht => by have := (HF.out.bb t ht).1; omega
    have HBW : Hid (∀ W, Below wp.heap.size wp W → Below w.heap.size w W) := Lib.hid fun W h => HB1.out.trans (h.mono HB1.out.size)
    --@R6
    refine wp_region_W (fun w' => w'.cell? ⟨wp.heap.size, 0, none⟩ = some (.slice tA T tc) ∧ w'.cell? ⟨wp.heap.size, 1, none⟩ = some (.slice fA NF fc) ∧ w'.cell? ⟨wp.heap.size, 2, none⟩ = some (.slice bA NB bc) ∧ w'.cell? ⟨wp.heap.size, 3, none⟩ = some (.slice dA ND dc) ∧ w'.cell? ⟨wp.heap.size, 4, none⟩ = some (.slice lA NL lc) ∧ w'.cell? ⟨wp.heap.size, 5, none⟩ = some (.int .i64 EN) ∧ w'.cell? ⟨Y, 0, none⟩ = some (.slice ta T tk) ∧ w'.cell? ⟨Y, 1, none⟩ = some (.slice fa NF fk) ∧ w'.cell? ⟨Y, 2, none⟩ = some (.slice ba NB bk) ∧ w'.cell? ⟨Y, 3, none⟩ = some (.slice da ND dk) ∧ w'.cell? ⟨Y, 4, none⟩ = some (.slice la NL lk) ∧ w'.cell? ⟨Y, 5, none⟩ = some (.int .i64 EN)) 31 (by kernel_rfl) (by (try dsimp only); go_keep) (fun hHeld => ?_)
    refine wpW_take 0 (v := ?_) rfl (by kernel_rfl) (by kernel_rfl) (by kernel_rfl) (by kernel_rfl) (fun _ _ _ h => h) (Or.inl ⟨by rfl, ?_⟩) hHeld ?_
    rotate_left
    · intro w hSw
      try dsimp only at hSw
      go_simp
      try with_reducible rfl
    try simp only [Act.put, List.setIfInBounds_toArray, List.set_cons_zero, List.set_cons_succ]
    refine wpW_take 1 (v := ?_) rfl (by kernel_rfl) (by kernel_rfl) (by kernel_rfl) (by kernel_rfl) (fun _ _ _ h => h) (Or.inl ⟨by rfl, ?_⟩) hHeld ?_
    rotate_left
    · intro w hSw
      try dsimp only at hSw
      go_simp
      try with_reducible rfl
    try simp only [Act.put, List.setIfInBounds_toArray, List.set_cons_zero, List.set_cons_succ]
    refine wpW_take 2 (v := ?_) rfl (by kernel_rfl) (by kernel_rfl) (by kernel_rfl) (by kernel_rfl) (fun _ _ _ h => h) (Or.inl ⟨by rfl, ?_⟩) hHeld ?_
    rotate_left
    · intro w hSw
      try dsimp only at hSw
      go_simp
      try with_reducible rfl
    try simp only [Act.put, List.setIfInBounds_toArray, List.set_cons_zero, List.set_cons_succ]
    refine wpW_take 3 (v := ?_) rfl (by kernel_rfl) (by kernel_rfl) (by kernel_rfl) (by kernel_rfl) (fun _ _ _ h => h) (Or.inl ⟨by rfl, ?_⟩) hHeld ?_
    rotate_left
    · intro w hSw
      try dsimp only at hSw
      go_simp
      try with_reducible rfl
    try simp only [Act.put, List.setIfInBounds_toArray, List.set_cons_zero, List.set_cons_succ]
    refine wpW_take 4 (v := ?_) rfl (by kernel_rfl) (by kernel_rfl) (by kernel_rfl) (by kernel_rfl) (fun _ _ _ h => h) (Or.inl ⟨by rfl, ?_⟩) hHeld ?_
    rotate_left
    · intro w hSw
      try dsimp only at hSw
      go_simp
      try with_reducible rfl
    try simp only [Act.put, List.setIfInBounds_toArray, List.set_cons_zero, List.set_cons_succ]
    refine wpW_take 5 (v := ?_) rfl (by kernel_rfl) (by kernel_rfl) (by kernel_rfl) (by kernel_rfl) (fun _ _ _ h => h) (Or.inl ⟨by rfl, ?_⟩) hHeld ?_
    rotate_left
    · intro w hSw
      try dsimp only at hSw
      go_simp
      try with_reducible rfl
    try simp only [Act.put, List.setIfInBounds_toArray, List.set_cons_zero, List.set_cons_succ]
    refine wpW_take 6 (v := ?_) rfl (by kernel_rfl) (by kernel_rfl) (by kernel_rfl) (by kernel_rfl) (fun _ _ _ h => h) (Or.inl ⟨by rfl, ?_⟩) hHeld ?_
    rotate_left
    · intro w hSw
      try dsimp only at hSw
      go_simp
      try with_reducible rfl
    try simp only [Act.put, List.setIfInBounds_toArray, List.set_cons_zero, List.set_cons_succ]
    refine wpW_take 7 (v := ?_) rfl (by kernel_rfl) (by kernel_rfl) (by kernel_rfl) (by kernel_rfl) (fun _ _ _ h => h) (Or.inl ⟨by rfl, ?_⟩) hHeld ?_
    rotate_left
    · intro w hSw
      try dsimp only at hSw
      go_simp
      try with_reducible rfl
    try simp only [Act.put, List.setIfInBounds_toArray, List.set_cons_zero, List.set_cons_succ]
    refine wpW_take 8 (v := ?_) rfl (by kernel_rfl) (by kernel_rfl) (by kernel_rfl) (by kernel_rfl) (fun _ _ _ h => h) (Or.inl ⟨by rfl, ?_⟩) hHeld ?_
    rotate_left
    · intro w hSw
      try dsimp only at hSw
      go_simp
      try with_reducible rfl
    try simp only [Act.put, List.setIfInBounds_toArray, List.set_cons_zero, List.set_cons_succ]
    refine wpW_take 9 (v := ?_) rfl (by kernel_rfl) (by kernel_rfl) (by kernel_rfl) (by kernel_rfl) (fun _ _ _ h => h) (Or.inl ⟨by rfl, ?_⟩) hHeld ?_
    rotate_left
    · intro w hSw
      try dsimp only at hSw
      go_simp
      try with_reducible rfl
    try simp only [Act.put, List.setIfInBounds_toArray, List.set_cons_zero, List.set_cons_succ]
    refine wpW_take 10 (v := ?_) rfl (by kernel_rfl) (by kernel_rfl) (by kernel_rfl) (by kernel_rfl) (fun _ _ _ h => h) (Or.inl ⟨by rfl, ?_⟩) hHeld ?_
    rotate_left
    · intro w hSw
      try dsimp only at hSw
      go_simp
      try with_reducible rfl
    try simp only [Act.put, List.setIfInBounds_toArray, List.set_cons_zero, List.set_cons_succ]
    refine wpW_take 11 (v := ?_) rfl (by kernel_rfl) (by kernel_rfl) (by kernel_rfl) (by kernel_rfl) (fun _ _ _ h => h) (Or.inl ⟨by rfl, ?_⟩) hHeld ?_
    rotate_left
    · intro w hSw
      try dsimp only at hSw
      go_simp
      try with_reducible rfl
    try simp only [Act.put, List.setIfInBounds_toArray, List.set_cons_zero, List.set_cons_succ]
    refine wpW_take 12 (v := ?_) rfl (by kernel_rfl) (by kernel_rfl) (by kernel_rfl) (by kernel_rfl) (fun _ _ _ h => h) (Or.inl ⟨by rfl, ?_⟩) hHeld ?_
    rotate_left
    · intro w hSw
      try dsimp only at hSw
      go_simp
      try with_reducible rfl
    try simp only [Act.put, List.setIfInBounds_toArray, List.set_cons_zero, List.set_cons_succ]
    refine wpW_take 13 (v := ?_) rfl (by kernel_rfl) (by kernel_rfl) (by kernel_rfl) (by kernel_rfl) (fun _ _ _ h => h) (Or.inl ⟨by rfl, ?_⟩) hHeld ?_
    rotate_left
    · intro w hSw
      try dsimp only at hSw
      go_simp
      try with_reducible rfl
    try simp only [Act.put, List.setIfInBounds_toArray, List.set_cons_zero, List.set_cons_succ]
    refine wpW_take 14 (v := ?_) rfl (by kernel_rfl) (by kernel_rfl) (by kernel_rfl) (by kernel_rfl) (fun _ _ _ h => h) (Or.inl ⟨by rfl, ?_⟩) hHeld ?_
    rotate_left
    · intro w hSw
      try dsimp only at hSw
      go_simp
      try with_reducible rfl
    try simp only [Act.put, List.setIfInBounds_toArray, List.set_cons_zero, List.set_cons_succ]
    refine wpW_take 15 (v := ?_) rfl (by kernel_rfl) (by kernel_rfl) (by kernel_rfl) (by kernel_rfl) (fun _ _ _ h => h) (Or.inl ⟨by rfl, ?_⟩) hHeld ?_
    rotate_left
    · intro w hSw
      try dsimp only at hSw
      go_simp
      try with_reducible rfl
    try simp only [Act.put, List.setIfInBounds_toArray, List.set_cons_zero, List.set_cons_succ]
    refine wpW_one 16 rfl (by kernel_rfl) (fun K hK => ?_)
    go_simp
    refine (HCH.out W14.drew HBP.out.drew).mono ?_
    rintro e w16 ⟨rfl, hb16⟩
    have hm16 := HM14.out.drew.keep hb16
    have hy16 := HY14.out.drew.keep hb16
    have hbp16 := HBP.out.drew.trans (hb16.mono HBP.out.drew.size)
    have hb16b : Below W14.heap.size W14 w16 := (Below.refl W14.heap.size W14).drew.trans hb16
    have hi16 := (HI14.out.below hb16b).more hb16b.size
    have p16_0 := hm16.cell 0 rfl
    have p16_1 := hm16.cell 1 rfl
    have p16_2 := hm16.cell 2 rfl
    have p16_3 := hm16.cell 3 rfl
    have p16_4 := hm16.cell 4 rfl
    have p16_5 := hm16.cell 5 rfl
    have q16_0 := hy16.cell 0 rfl
    have q16_1 := hy16.cell 1 rfl
    have q16_2 := hy16.cell 2 rfl
    have q16_3 := hy16.cell 3 rfl
    have q16_4 := hy16.cell 4 rfl
    have q16_5 := hy16.cell 5 rfl
    refine hK.out _ _ (by (try dsimp only); exact ⟨p16_0, p16_1, p16_2, p16_3, p16_4, p16_5, q16_0, q16_1, q16_2, q16_3, q16_4, q16_5⟩) (fun hHeld => ?_)
    clear hK K
    try simp only [Act.put, List.setIfInBounds_toArray, List.set_cons_zero, List.set_cons_succ]
    refine wpW_take 17 (v := ?_) rfl (by kernel_rfl) (by kernel_rfl) (by kernel_rfl) (by kernel_rfl) (fun _ _ _ h => h) (Or.inl ⟨by rfl, ?_⟩) hHeld ?_
    rotate_left
    · intro w hSw
      try dsimp only at hSw
      go_simp
      try with_reducible rfl
    try simp only [Act.put, List.setIfInBounds_toArray, List.set_cons_zero, List.set_cons_succ]
    refine wpW_take 18 (v := ?_) rfl (by kernel_rfl) (by kernel_rfl) (by kernel_rfl) (by kernel_rfl) (fun _ _ _ h => h) (Or.inl ⟨by rfl, ?_⟩) hHeld ?_
    rotate_left
    · intro w hSw
      try dsimp only at hSw
      go_simp
      try with_reducible rfl
    try simp only [Act.put, List.setIfInBounds_toArray, List.set_cons_zero, List.set_cons_succ]
    refine wpW_take 19 (v := ?_) rfl (by kernel_rfl) (by kernel_rfl) (by kernel_rfl) (by kernel_rfl) (fun _ _ _ h => h) (Or.inl ⟨by rfl, ?_⟩) hHeld ?_
    rotate_left
    · intro w hSw
      try dsimp only at hSw
      go_simp
      try with_reducible rfl
    try simp only [Act.put, List.setIfInBounds_toArray, List.set_cons_zero, List.set_cons_succ]
    refine wpW_take 20 (v := ?_) rfl (by kernel_rfl) (by kernel_rfl) (by kernel_rfl) (by kernel_rfl) (fun _ _ _ h => h) (Or.inl ⟨by rfl, ?_⟩) hHeld ?_
    rotate_left
    · intro w hSw
      try dsimp only at hSw
      go_simp
      try with_reducible rfl
    try simp only [Act.put, List.setIfInBounds_toArray, List.set_cons_zero, List.set_cons_succ]
    refine wpW_take 21 (v := ?_) rfl (by kernel_rfl) (by kernel_rfl) (by kernel_rfl) (by kernel_rfl) (fun _ _ _ h => h) (Or.inl ⟨by rfl, ?_⟩) hHeld ?_
    rotate_left
    · intro w hSw
      try dsimp only at hSw
      go_simp
      try with_reducible rfl
    try simp only [Act.put, List.setIfInBounds_toArray, List.set_cons_zero, List.set_cons_succ]
    refine wpW_one 22 rfl (by kernel_rfl) (fun K hK => ?_)
    go_simp
    refine (HSM.out w16 ⟨ta, tk, fa, fk, ba, bk, da, dk, la, lk⟩ hbp16 hi16).mono ?_
    rintro e w22 ⟨rfl, hb22⟩
    have hm22 := hm16.keep hb22
    have hy22 := hy16.keep hb22
    have hbp22 := hbp16.trans (hb22.mono hbp16.size)
    have p22_0 := hm22.cell 0 rfl
    have p22_1 := hm22.cell 1 rfl
    have p22_2 := hm22.cell 2 rfl
    have p22_3 := hm22.cell 3 rfl
    have p22_4 := hm22.cell 4 rfl
    have p22_5 := hm22.cell 5 rfl
    have q22_0 := hy22.cell 0 rfl
    have q22_1 := hy22.cell 1 rfl
    have q22_2 := hy22.cell 2 rfl
    have q22_3 := hy22.cell 3 rfl
    have q22_4 := hy22.cell 4 rfl
    have q22_5 := hy22.cell 5 rfl
    refine hK.out _ _ (by (try dsimp only); exact ⟨p22_0, p22_1, p22_2, p22_3, p22_4, p22_5, q22_0, q22_1, q22_2, q22_3, q22_4, q22_5⟩) (fun hHeld => ?_)
    clear hK K
    try simp only [Act.put, List.setIfInBounds_toArray, List.set_cons_zero, List.set_cons_succ]
    refine wpW_take 23 (v := ?_) rfl (by kernel_rfl) (by kernel_rfl) (by kernel_rfl) (by kernel_rfl) (fun _ _ _ h => h) (Or.inl ⟨by rfl, ?_⟩) hHeld ?_
    rotate_left
    · intro w hSw
      try dsimp only at hSw
      go_simp
      try with_reducible rfl
    try simp only [Act.put, List.setIfInBounds_toArray, List.set_cons_zero, List.set_cons_succ]
    refine wpW_take 24 (v := ?_) rfl (by kernel_rfl) (by kernel_rfl) (by kernel_rfl) (by kernel_rfl) (fun _ _ _ h => h) (Or.inl ⟨by rfl, ?_⟩) hHeld ?_
    rotate_left
    · intro w hSw
      try dsimp only at hSw
      go_simp
      try with_reducible rfl
    try simp only [Act.put, List.setIfInBounds_toArray, List.set_cons_zero, List.set_cons_succ]
    refine wpW_take 25 (v := ?_) rfl (by kernel_rfl) (by kernel_rfl) (by kernel_rfl) (by kernel_rfl) (fun _ _ _ h => h) (Or.inl ⟨by rfl, ?_⟩) hHeld ?_
    rotate_left
    · intro w hSw
      try dsimp only at hSw
      go_simp
      try with_reducible rfl
    try simp only [Act.put, List.setIfInBounds_toArray, List.set_cons_zero, List.set_cons_succ]
    refine wpW_take 27 (v := ?_) rfl (by kernel_rfl) (by kernel_rfl) (by kernel_rfl) (by kernel_rfl) (fun _ _ _ h => h) (Or.inl ⟨by rfl, ?_⟩) hHeld ?_
    rotate_left
    · intro w hSw
      try dsimp only at hSw
      go_simp
      try with_reducible rfl
    try simp only [Act.put, List.setIfInBounds_toArray, List.set_cons_zero, List.set_cons_succ]
    refine wpW_one 26 rfl (by kernel_rfl) (fun K hK => ?_)
    go_simp
    refine (HCP.out w22 hbp22).mono ?_
    rintro e w26 ⟨hb26, ⟨ca, ck, ga, gk, ha, hk, ja, jk, na, nk⟩, HH, rfl, hoc⟩
    have hm26 := hm22.keep hb26
    have hy26 := hy22.keep hb26
    have hbp26 := hbp22.trans (hb26.mono hbp22.size)
    have hrc := hoc.rd HL20.out
    have hoc2 := hoc.ok HOK.out
    unfold Img.val
    simp only [HN.out.1, HN.out.2.1, HN.out.2.2.1, HN.out.2.2.2.1, HN.out.2.2.2.2.1, HN.out.2.2.2.2.2.1]
    have p26_0 := hm26.cell 0 rfl
    have p26_1 := hm26.cell 1 rfl
    have p26_2 := hm26.cell 2 rfl
    have p26_3 := hm26.cell 3 rfl
    have p26_4 := hm26.cell 4 rfl
    have p26_5 := hm26.cell 5 rfl
    have q26_0 := hy26.cell 0 rfl
    have q26_1 := hy26.cell 1 rfl
    have q26_2 := hy26.cell 2 rfl
    have q26_3 := hy26.cell 3 rfl
    have q26_4 := hy26.cell 4 rfl
    have q26_5 := hy26.cell 5 rfl
    refine hK.out _ _ (by (try dsimp only); exact ⟨p26_0, p26_1, p26_2, p26_3, p26_4, p26_5, q26_0, q26_1, q26_2, q26_3, q26_4, q26_5⟩) (fun hHeld => ?_)
    clear hK K
    try simp only [Act.put, List.setIfInBounds_toArray, List.set_cons_zero, List.set_cons_succ]
    refine wpW_one 28 rfl (by kernel_rfl) (fun K hK => ?_)
    go_simp
    refine (HSM2.out w26 ⟨ca, ck, ga, gk, ha, hk, ja, jk, na, nk⟩ hbp26 hrc hoc2).mono ?_
    rintro e w28 ⟨rfl, hb28⟩
    have hm28 := hm26.keep hb28
    have hy28 := hy26.keep hb28
    have p28_0 := hm28.cell 0 rfl
    have p28_1 := hm28.cell 1 rfl
    have p28_2 := hm28.cell 2 rfl
    have p28_3 := hm28.cell 3 rfl
    have p28_4 := hm28.cell 4 rfl
    have p28_5 := hm28.cell 5 rfl
    have q28_0 := hy28.cell 0 rfl
    have q28_1 := hy28.cell 1 rfl
    have q28_2 := hy28.cell 2 rfl
    have q28_3 := hy28.cell 3 rfl
    have q28_4 := hy28.cell 4 rfl
    have q28_5 := hy28.cell 5 rfl
    refine hK.out _ _ (by (try dsimp only); exact ⟨p28_0, p28_1, p28_2, p28_3, p28_4, p28_5, q28_0, q28_1, q28_2, q28_3, q28_4, q28_5⟩) (fun hHeld => ?_)
    clear hK K
    try simp only [Act.put, List.setIfInBounds_toArray, List.set_cons_zero, List.set_cons_succ]
    refine wpW_take 29 (v := ?_) rfl (by kernel_rfl) (by kernel_rfl) (by kernel_rfl) (by kernel_rfl) (fun _ _ _ h => h) (Or.inl ⟨by rfl, ?_⟩) hHeld ?_
    rotate_left
    · intro w hSw
      try dsimp only at hSw
      go_simp
      try with_reducible rfl
    try simp only [Act.put, List.setIfInBounds_toArray, List.set_cons_zero, List.set_cons_succ]
    refine wpW_take 30 (v := ?_) rfl (by kernel_rfl) (by kernel_rfl) (by kernel_rfl) (by kernel_rfl) (fun _ _ _ h => h) (Or.inl ⟨by rfl, ?_⟩) hHeld ?_
    rotate_left
    · intro w hSw
      try dsimp only at hSw
      go_simp
      try with_reducible rfl
    try simp only [Act.put, List.setIfInBounds_toArray, List.set_cons_zero, List.set_cons_succ]
    refine wpW_done (by kernel_rfl) ?_ _
    go_wp2
    go_ret
    exact ⟨by simp, HBW.out _ (hbp26.trans (hb28.mono hbp26.size))⟩
set_option maxRecDepth 100000 in
theorem imageBack_contract (H : Type) (enc : TypeId × Value → H) (W : World) (base : Nat) (args : Array Value) (ds gs : List (DataW H)) (before : List MemPlace)
    (hval : ∀ (j : Nat) t v, Tryd.f4.params[j]? = some t → args[j]? = some v → Value.okWide Tryd.prog W .any base t v)
    (hW : DataW.Whole enc Tryd.prog Tryd.f4.params.toList Rows.imageBackSpec.vars false W args.toList ds gs before) (hL : laidMetH Tryd.prog Rows.imageBackRow.laid W)
    (hz : (DataW.weightsEach Tryd.prog (Tryd.f4.params.toList ++ (OpenSpec.ofChange Rows.imageBackSpec).bare.plain.varTypes Tryd.prog) (ds ++ gs)).all (· ≤ reachBytes) = true) :
    Calls Tryd.prog 4 args W fun e W' => ∃ v, e = .returned v ∧ Rows.imageBackSpec.post enc Tryd.prog Tryd.f4 false true false false W args v W' := by
  have hT : Tabs W := tabs_of_laid5 hL
  have hW0 := hW
  obtain ⟨p, q, hA0, hV, rfl, hfz, hnd⟩ := hW
  have hA : DataW.TrodAll enc Tryd.prog W 0 (fun _ => true) true Tryd.f4.params.toList args.toList ds p := hA0
  rw [Tryd.params4] at hA hval
  obtain ⟨v0, vs0, d0, ds0, p0, q0, hargs, rfl, rfl, h0, r0⟩ := trodAll_cons hA
  obtain ⟨v1, vs1, d1, ds1, p1, q1, rfl, rfl, rfl, h1, r1⟩ := trodAll_cons r0
  obtain ⟨v2, vs2, d2, ds2, p2, q2, rfl, rfl, rfl, h2, r2⟩ := trodAll_cons r1
  obtain ⟨rfl, rfl, rfl⟩ := trodAll_nil r2
  obtain rfl : args = #[v0, v1, v2] := by cases args; simp_all
  obtain ⟨rfl, rfl⟩ := trodVars_none hV
  clear hA0
  obtain ⟨A, cap, L, rfl, hcap, hcm, hR, hd⟩ := open_raws (hval 0 22 v0 rfl rfl) h0
  obtain ⟨n, rfl, rfl, rfl, wn⟩ := open_int Tryd.underlying3 (hval 1 3 v1 rfl rfl) h1
  obtain ⟨tl, rfl, rfl, rfl, wt⟩ := open_int Tryd.underlying5 (hval 2 5 v2 rfl rfl) h2
  have htl : 0 ≤ tl ∧ tl < 256 := by have := bounds_u8 wt; omega
  have hL : L.length ≤ 140737488355328 := by
    rcases hd with ⟨-, rfl, -⟩ | ⟨elems, spare, rfl, hl⟩
    · exact Nat.zero_le _
    · have h1 := sized_slice hz (j := 0) (t := 22) (by rw [Tryd.params4]; rfl) rfl Tryd.underlying22
      have h2 : Tryd.prog.bytesOf 146 = 32 := by kernel_rfl
      have h3 := reachBytes_lt
      rw [h2, hl] at h1
      omega
  refine (imageBack_walk L A cap n tl (i64_of_wf wn) htl W hT hR hL hcap).mono fun e W' ⟨he, hb⟩ => ?_
  subst he
  exact ⟨_, rfl, law_post hW0 rfl rfl (by kernel_rfl) (by kernel_rfl) hb⟩
set_option maxRecDepth 100000 in
theorem imageBack_met (os : Os) : laidMet Tryd.prog Rows.imageBackRow.laid ((laidWorld5 os).forCall (fun _ _ => 0) ⟨#[], #[.slice none 0 0, .int .i64 0, .int .u8 0], []⟩).memory :=
  laidMet_of_run' 8 (by kernel_rfl) (by kernel_rfl)
set_option maxRecDepth 100000 in
theorem imageBack_reads (os : Os) {H : Type} (enc : TypeId × Value → H) : ∃ places, DataW.whole enc Tryd.prog ((laidWorld5 os).forCall (fun _ _ => 0) ⟨#[], #[.slice none 0 0, .int .i64 0, .int .u8 0], []⟩).memory Tryd.f4.params.toList Rows.imageBackSpec.vars false (#[.slice none 0 0, .int .i64 0, .int .u8 0] : Array Value).toList 8 = some ([.nil, .lit (.int .i64 0), .lit (.int .u8 0)], [], places) :=
  ⟨[], by kernel_rfl⟩
set_option maxRecDepth 100000 in
theorem imageBack_lifted (os : Os) (started : os.Started) (H : Type) (enc : TypeId × Value → H) (F : Stop.Interp) :
    ReturnsInHanded {} Tryd.checked os 4 .any ((OpenSpec.ofChange Rows.imageBackSpec).preRow enc Tryd.prog Tryd.f4 Rows.imageBackRow.domain false Rows.imageBackRow.laid) (((OpenSpec.ofChange Rows.imageBackSpec).at F).post enc Tryd.prog Tryd.f4 false true false false) := by
  obtain ⟨places, hx⟩ := imageBack_reads os enc
  refine returnsInHanded_of_row (C := Tryd.checked) (s := OpenSpec.ofChange Rows.imageBackSpec) ownP started (by kernel_rfl) Tryd.func4
    (witness_row_at (enc := enc) (C := Tryd.checked) false (laidWorld5 os) #[.slice none 0 0, .int .i64 0, .int .u8 0] rfl (by kernel_rfl) (by kernel_rfl) (by kernel_rfl)
      (OpenSpec.preRow_of_cond 8 hx (by kernel_rfl) (fun k hk => by cases hk) (by kernel_rfl) (imageBack_met os))) ?_
  intro W base args ds gs before hval hW _ _ hreach hL _ _
  exact imageBack_contract H enc W base args ds gs before hval hW hL hreach
set_option maxRecDepth 100000 in
theorem imageBack_said : Rows.ImageBackSaid :=
  OpenClaim.holds_of_cond 4 Tryd.f4 rfl rfl rfl rfl rfl rfl rfl ⟨rfl, rfl, rfl, rfl, rfl⟩ rfl rfl rfl rfl rfl (by kernel_rfl) Tryd.func4 (by kernel_rfl)
    (of_decide_eq_true (by kernel_rfl)) (by unfold Func.isWrapper; first | (rw [if_pos (by decide +kernel)]; kernel_rfl) | (rw [if_neg (by decide +kernel)]; exact ⟨rfl, rfl⟩))
    (fun os started H enc _ F => by rw [OpenClaim.pre_eq_preRow]; exact imageBack_lifted os started H enc F)
set_option maxRecDepth 100000 in
theorem imageBack_plain (f : FuncId) (fn : Func) (hf : Tryd.pinned.checked.prog.funcNamed "bolthole/boltholekeep.ImageBack" = some f) (hfn : Tryd.pinned.checked.prog.funcs[f]? = some fn) :
    ∀ (j : Nat) t, fn.params[j]? = some t → Tryd.pinned.checked.prog.wantsStandIn t = false := by
  obtain rfl : f = 4 := Option.some.inj ((show Tryd.prog.funcNamed "bolthole/boltholekeep.ImageBack" = some 4 by kernel_rfl).symm.trans hf) |>.symm
  obtain rfl : fn = Tryd.f4 := (Option.some.inj (Tryd.func4.symm.trans hfn)).symm
  intro j t ht
  have hall : ∀ t ∈ Tryd.f4.params, Tryd.prog.wantsStandIn t = false := by
    rw [Tryd.params4]
    intro t ht
    simp only [List.mem_toArray, List.mem_cons, List.not_mem_nil, or_false] at ht
    rcases ht with rfl | rfl | rfl
    all_goals kernel_rfl
  exact hall t (Array.mem_of_getElem? ht)
set_option maxRecDepth 100000 in
theorem imageBack_card : Rows.ImageBackCardSaid :=
  Claim7.holds_tied_plain_at .later [] _ _ _ _ imageBack_said (fun _ h => by cases h) (by kernel_rfl) (fun _ h => by cases h) imageBack_row_tie rfl ⟨rfl, rfl⟩ (by kernel_rfl) rfl (fun f fn hf hfn => ⟨by kernel_rfl, imageBack_plain f fn hf hfn⟩) (by kernel_rfl)
end Go.Proofs.YtdliienkbpdnbaaDoor
