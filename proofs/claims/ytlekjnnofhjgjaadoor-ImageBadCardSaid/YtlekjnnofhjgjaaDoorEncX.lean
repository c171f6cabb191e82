/- image.Encode, walked. -/
import Derived.Test.YtlekjnnofhjgjaaDoorEncW
import Derived.Lib.SlBytesConst
namespace Go.Proofs.YtlekjnnofhjgjaaDoor
open Go.RowKit
def IEncPost (w : World) (m : Img) (e : Ending) (w' : World) : Prop :=
  Below w.heap.size w w' ∧ (checkE m ≠ 0 → e = .returned (.tuple #[.slice none 0 0, .int .i64 (checkE m)])) ∧ (checkE m = 0 → ∃ A c, e = .returned (.tuple #[.slice A (encF m).length c, .int .i64 0]) ∧ w'.ownsRow w.heap.size 5 1 (.slice A (encF m).length c) (encF m).length (intsV .u8 (encF m)))
theorem encF_ne (m : Img) : encF m ≠ [] := by simp [encF, magicL]
theorem magic_wr {w : World} (B : Nat) (hB : B ≤ w.heap.size) : WrF ((w.alloc (.cells #[.int .u8 98, .int .u8 104, .int .u8 49, .int .u8 10] 5 (4, 5))).alloc (.cells #[.slice (some ⟨w.heap.size, 0, none⟩) 4 4] 131)) B (w.heap.size + 1) magicL := by
  refine ⟨some ⟨w.heap.size, 0, none⟩, 4, Blk.new2 w _ _ _, OwnU.alloc (.inr ⟨w.heap.size, (4, 5), rfl, rfl, hB, heap_alloc_new w _⟩) _, by omega, by simp [Value.ownBlock]⟩
def r10 (m : Img) : List Int := m.lines.flatMap encLn
def r9 (m : Img) : List Int := numB m.lines.length 2 ++ r10 m
def r8 (m : Img) : List Int := m.data.flatMap (numB · 8) ++ r9 m
def r7 (m : Img) : List Int := numB m.data.length 1 ++ r8 m
def r6 (m : Img) : List Int := m.tables.flatMap encTab ++ r7 m
def r5 (m : Img) : List Int := numB m.tables.length 1 ++ r6 m
def r4 (m : Img) : List Int := numB m.entry 1 ++ r5 m
def r3 (m : Img) : List Int := m.funcs.flatMap encFn ++ r4 m
def r2 (m : Img) : List Int := numB m.funcs.length 1 ++ r3 m
def r1 (m : Img) : List Int := m.text ++ r2 m
theorem check_pos {m : Img} (h : checkE m = 0) : 1 ≤ m.text.length := by
  unfold checkE at h
  split at h
  · cases h
  · split at h
    · rename_i h2
      exact absurd h h2
    · rename_i h2
      split at h
      · cases h
      · rename_i h3
        have h2' : funcsE m = 0 := by simpa using h2
        unfold funcsE at h2'
        split at h2'
        · cases h2'
        · rcases hf : m.funcs with _ | ⟨f, l⟩
          · rw [hf] at h3
            simp only [List.length_nil] at h3
            omega
          · rw [hf] at h2'
            unfold funcsGo at h2'
            split at h2'
            · cases h2'
            · split at h2'
              · cases h2'
              · split at h2'
                · cases h2'
                · omega
theorem rd_u {w : World} {b : Nat} {tA : Option Addr} {L : List Int} (h : RdG w b tA (intsV .u8 L)) (hL : L ≠ []) : ∃ g o, tA = some ⟨g, o, none⟩ ∧ g < b ∧ ∀ j u, (intsV .u8 L)[j]? = some u → w.cell? ⟨g, o + j, none⟩ = some u :=
  h (fun e => hL (List.map_eq_nil_iff.1 e))
set_option maxHeartbeats 8000000 in
set_option maxRecDepth 100000 in
theorem imgEncode_any (m : Img) (v : ImgV) (w : World) (hI : ImgRd w w.heap.size m v) (hO : ImgOk m v) : Calls Tryd.prog 26 #[.agg (m.val v)] w (IEncPost w m) := by
  have hCH := fun (W : World) (h : Below w.heap.size w W) => imgCheck_any m v W ((hI.below h).more h.size) hO
  unfold Img.val at hCH ⊢
  obtain ⟨R, hR⟩ : ∃ R, checkE m = R := ⟨_, rfl⟩
  have HCH := Lib.hid hCH
  have HR := Lib.hid hR
  have HI := Lib.hid hI
  have HO := Lib.hid hO
  rw [hR] at hCH
  clear hI hO hR
  have HCH := Lib.hid hCH
  clear hCH
  obtain ⟨T, hT⟩ : ∃ T, m.text.length = T := ⟨_, rfl⟩
  obtain ⟨NF, hNF⟩ : ∃ T, m.funcs.length = T := ⟨_, rfl⟩
  obtain ⟨NB, hNB⟩ : ∃ T, m.tables.length = T := ⟨_, rfl⟩
  obtain ⟨ND, hND⟩ : ∃ T, m.data.length = T := ⟨_, rfl⟩
  obtain ⟨NL, hNL⟩ : ∃ T, m.lines.length = T := ⟨_, rfl⟩
  obtain ⟨EN, hEN⟩ : ∃ T, m.entry = T := ⟨_, rfl⟩
  simp only [hT, hNF, hNB, hND, hNL, hEN] at HCH ⊢
  have HN := Lib.hid (And.intro hT (And.intro hNF (And.intro hNB (And.intro hND (And.intro hNL hEN)))))
  clear hT hNF hNB hND hNL hEN
  obtain ⟨tA, tc, fA, fc, bA, bc, dA, dc, lA, lc⟩ := v
  simp only at HCH ⊢
  go_enter Tryd.func26, Tryd.ntmps26
  go_wp2_with fail
  obtain ⟨W1, hW1⟩ : ∃ W1, w.alloc (.cells #[.slice tA T tc, .slice fA NF fc, .slice bA NB bc, .slice dA ND dc, .slice lA NL lc, .int .i64 EN] 31) = W1 := ⟨_, rfl⟩
  rw [hW1]
  have hB1 : Below w.heap.size w W1 := by rw [← hW1]; exact (Below.refl _ _).alloc (Nat.le_refl _) _
  refine (HCH.out W1 hB1).mono ?_
  have hb1X : Blk W1 w.heap.size 31 [.slice tA T tc, .slice fA NF fc, .slice bA NB bc, .slice dA ND dc, .slice lA NL lc, .int .i64 EN] := by rw [← hW1]; exact Blk.new w _ _
  have hB0 : w.heap.size < W1.heap.size := hb1X.lt
  have HX1 := Lib.hid hb1X
  have HB1 := Lib.hid hB1
  have HI1 : Hid (ImgRd W1 w.heap.size m ⟨tA, tc, fA, fc, bA, bc, dA, dc, lA, lc⟩) := Lib.hid (HI.out.below hB1)
  clear hb1X hB1 hW1 HI
  rintro e w2 ⟨rfl, hb2⟩
  have HB2 : Hid (Below W1.heap.size W1 w2) := Lib.hid hb2
  have hs2 := hb2.size
  clear hb2
  by_cases hR0 : R = 0
  case neg =>
    have q1 : (R != 0) = true := by simpa using hR0
    have HR0 := Lib.hid hR0
    clear hR0
    go_wp2
    go_ret2
    exact ⟨HB1.out.trans (HB2.out.mono (by omega)), fun _ => by rw [HR.out]; rfl, fun h => absurd (HR.out.symm.trans h) HR0.out⟩
  subst hR0
  have HF : Hid (Fits m) := Lib.hid (check_fits HR.out)
  have HT0 : 1 ≤ T := by have := check_pos HR.out; have := HN.out.1; omega
  have htl : T ≤ 8000 := by have := HF.out.tl; have := HN.out.1; omega
  have hfl : NF ≤ 40 := by have := HF.out.fl; have := HN.out.2.1; omega
  have hbl : NB ≤ 20 := by have := HF.out.bl; have := HN.out.2.2.1; omega
  have hdl : ND ≤ 64 := by have := HF.out.dl; have := HN.out.2.2.2.1; omega
  have hll : NL ≤ 4000 := by have := HF.out.ll; have := HN.out.2.2.2.2.1; omega
  clear HCH
  have x0 : w2.cell? ⟨w.heap.size, 0, none⟩ = some (.slice tA T tc) := (HX1.out.below HB2.out hB0).cell 0 rfl
  have xl : w.heap.size < w2.heap.size := by omega
  have hcv := fun (w : World) (C : Array Value) (n c : Nat) => Lib.run_convert_bytes_const (P := Tryd.prog) w 23 5 C n c Tryd.underlying23 Tryd.underlying5
  go_wp2_with fail
  clear hcv
  obtain ⟨W3, hW3⟩ : ∃ W3, (w2.alloc (.cells #[.int .u8 98, .int .u8 104, .int .u8 49, .int .u8 10] 5 (4, 5))).alloc (.cells #[.slice (some ⟨w2.heap.size, 0, none⟩) 4 4] 131) = W3 := ⟨_, rfl⟩
  rw [hW3]
  obtain ⟨B, hBe⟩ : ∃ z, W1.heap.size = z := ⟨_, rfl⟩
  rw [hBe] at HB2 hB0 hs2
  have hS0 := magic_wr (w := w2) B hs2
  rw [hW3] at hS0
  have hS1 : Below B W1 W3 := by rw [← hW3]; exact (HB2.out.alloc hs2 _).alloc (by simp; omega) _
  obtain ⟨X, hX⟩ : ∃ z, w2.heap.size + 1 = z := ⟨_, rfl⟩
  rw [hX] at hS0 ⊢
  have HS0 := Lib.hid hS0
  have HS1 := Lib.hid hS1
  have hXB : B ≤ X := by omega
  have HBX : Hid (∀ (R : List Int) (wr : World), EncSt W1 B X m R wr → Blk wr w.heap.size 31 [.slice tA T tc, .slice fA NF fc, .slice bA NB bc, .slice dA ND dc, .slice lA NL lc, .int .i64 EN]) := Lib.hid fun R wr h => HX1.out.below h.1 hB0
  have HMG : Hid (magicL ++ (numB (T : Int) 2 ++ r1 m) = encF m) := Lib.hid (by rw [← HN.out.1]; rfl)
  clear hS0 hS1 hW3 hX x0 xl
  refine (num_stepF HF.out (T : Int) 2 (by decide) (by decide) HS1.out HS0.out HMG.out).mono ?_
  rintro e wr ⟨rfl, hst, -⟩
  clear HS0 HS1 HB2 hs2 HMG
  have HS2 := Lib.hid hst
  clear hst
  have hbx := HBX.out _ _ HS2.out
  have x0 := hbx.cell 0 rfl
  have x1 := hbx.cell 1 rfl
  have xl := hbx.lt
  clear hbx
  --@REST
  go_upto_region 6 with fail
  obtain ⟨hbA, L, ⟨A, c, k1, k2, k3, k4⟩, hE⟩ := HS2.out
  obtain ⟨N1, hN1⟩ : ∃ z, L.length = z := ⟨_, rfl⟩
  have hl1 : N1 ≤ 30000 := by have := HF.out.len; rw [← hE] at this; simp only [List.length_append] at this; omega
  obtain ⟨tb, tf, htA, htb, hRt⟩ := rd_u ((HI1.out.text.below (hbA.mono (by omega)))) (fun e => by have := HN.out.1; rw [e] at this; simp only [List.length_nil] at this; omega)
  simp only at htA
  subst htA
  have HFIN : Hid (∀ (g2 c2 : Nat) (w2 : World), w2.ownsRow B 5 1 (.slice (some ⟨g2, 0, none⟩) (N1 + T) c2) (N1 + T) (intsV .u8 (L ++ m.text)) → wr.drew.grownBy w2 (Value.slice A N1 c).ownBlock → EncSt W1 B X m (r2 m) (w2.setCell ⟨X, 0, none⟩ (.slice (some ⟨g2, 0, none⟩) (N1 + T) c2))) := Lib.hid fun g2 c2 w2 ho hg => by
    subst hN1
    exact (enc_push hbA k1 (.inl k2) k3 k4 hE (by rw [List.length_append, HN.out.1]) ho hg).1
  rw [hN1] at k1 k2 k4
  have y0 := k1.cell 0 rfl
  have yf := k1.free 0
  have yl := k1.lt
  have HK1 := Lib.hid k1
  have HK2 := Lib.hid k2
  have HK4 := Lib.hid k4
  have HRT := Lib.hid hRt
  have HN1 := Lib.hid hN1
  have hB2 : B ≤ wr.heap.size := by omega
  clear k1 k2 k4 hRt hN1 hbA hE
  go_cut [] (fun wx => Hid (EncSt W1 B X m (r2 m) wx))
  case first =>
    go_region_law ((first | (have ho1 : OwnU wr.drew B A c L := (.inl (by rw [HN1.out]; exact HK2.out)); have hbb : B ≤ wr.drew.heap.size := hB2; refine step_app_u rfl _ _ rfl B A c N1 L HN1.out rfl ho1 tb tf T tc rfl m.text HN.out.1 HRT.out HT0 (by omega) hbb wr.heap.size rfl ?_; intro g2 c2 w2 ho2 hgr2 hat2 hlt2; have hx2 : Blk w2 X 131 [.slice A N1 c] := Blk.gb (w := wr.drew) HK1.out hgr2 HK4.out; have x20 := hx2.cell 0 rfl; have x2f := hx2.free 0; have x2l := hx2.lt; have HO2 := Lib.hid ho2; have HG2 := Lib.hid hgr2; clear hx2 ho2 hgr2 hat2 ho1 hbb)))
    all_goals (go_wp2; go_meet)
    all_goals exact HFIN.out _ _ _ HO2.out HG2.out
  case rest =>
    rename World => wx
    have HS3 : Hid (EncSt W1 B X m (numB (NF : Int) 1 ++ r3 m) wx) := Lib.hid (by have h := hcut.out; unfold r2 at h; rw [HN.out.2.1] at h; exact h)
    clear HFIN HK1 HK2 HK4 HRT HN1 y0 yf yl x0 x1 xl hcut
    have hbx := HBX.out _ _ HS3.out
    have x1 := hbx.cell 1 rfl
    have xl := hbx.lt
    clear hbx
    go_wp2_with fail
    refine (num_step HF.out (NF : Int) 1 (by decide) (by decide) HS3.out).mono ?_
    rintro e wr ⟨rfl, hst, hko⟩
    clear HS3 x1 xl hko HS2
    have HS4 : Hid (EncSt W1 B X m (m.funcs.flatMap encFn ++ r4 m) wr) := Lib.hid hst
    clear hst
    have hbx := HBX.out _ _ HS4.out
    have x1 := hbx.cell 1 rfl
    have xl := hbx.lt
    clear hbx
    go_wp2_with fail
    clear x1 xl
    go_loopg [48] NF (fun gk s48 wr => ∃ k : Nat, k ≤ NF ∧ s48 = .int .i64 (k : Int) ∧ Hid (EncSt W1 B X m ((m.funcs.drop k).flatMap encFn ++ r4 m) wr) ∧ NF - k ≤ gk)
    case atStart => exact ⟨0, Nat.zero_le _, rfl, HS4, Nat.le_refl _⟩
    case round =>
      clear HS4
      obtain ⟨k, hk, rfl, HS, hgk⟩ := hrel
      by_cases hlt : k < NF
      · have hx : m.funcs[k]? = some (m.funcs[k]'(by have := HN.out.2.1; omega)) := List.getElem?_eq_getElem _
        have hdr : m.funcs.drop k = m.funcs[k]'(by have := HN.out.2.1; omega) :: m.funcs.drop (k + 1) := List.drop_eq_getElem_cons _
        obtain ⟨f, hf⟩ : ∃ f, m.funcs[k]'(by have := HN.out.2.1; omega) = f := ⟨_, rfl⟩
        rw [hf] at hx hdr
        have hfm := HF.out.fb f (List.mem_of_getElem? hx)
        have hb0 := HS.out.1
        obtain ⟨fb, fo, hA, hfb, c0, c1, c2⟩ := (HI1.out.funcs.below (hb0.mono (by omega))).at3 hx
        simp only at hA c0 c1 c2
        obtain ⟨nm, st, sz⟩ := f
        simp only at hfm c0 c1 c2
        subst hA
        have hSz := hb0.size
        have HS1 : Hid (EncSt W1 B X m (numB (nm.size : Int) 1 ++ (strL nm ++ (numB sz 2 ++ ((m.funcs.drop (k + 1)).flatMap encFn ++ r4 m)))) wr) := Lib.hid (by
          have h := HS.out
          rw [hdr] at h
          simp only [List.flatMap_cons, encFn, List.append_assoc] at h
          exact h)
        have hfl : fb < wr.heap.size := by omega
        have HFM := Lib.hid hfm
        clear hx hdr hf HS hfm hb0
        go_upto_region 11 with fail
        obtain ⟨wa, hwa⟩ : ∃ z, wr.alloc (.cells #[.string nm, .int .i64 st, .int .i64 sz] 25) = z := ⟨_, rfl⟩
        have HF1 : Hid (Blk wa wr.heap.size 25 [.string nm, .int .i64 st, .int .i64 sz]) := Lib.hid (by rw [← hwa]; exact Blk.new _ _ _)
        have HSA : Hid (EncSt W1 B X m (numB (nm.size : Int) 1 ++ (strL nm ++ (numB sz 2 ++ ((m.funcs.drop (k + 1)).flatMap encFn ++ r4 m)))) wa) := Lib.hid (by rw [← hwa]; exact HS1.out.keep ((Below.refl _ _).alloc (Nat.le_refl _) _))
        rw [hwa]
        obtain ⟨Y, hY⟩ : ∃ z, wr.heap.size = z := ⟨_, rfl⟩
        rw [hY] at HF1 ⊢
        clear hwa HS1 c0 c1 c2
        have f0 := HF1.out.cell 0 rfl
        have fl := HF1.out.lt
        obtain ⟨z1, hz1⟩ : ∃ z, nm.size = z := ⟨_, rfl⟩
        rw [hz1] at HSA HFM
        have HZ1 := Lib.hid hz1
        have hz1' : nm.size = z1 := hz1
        go_wp2_with fail
        refine (num_step HF.out (z1 : Int) 1 (by decide) (by decide) HSA.out).mono ?_
        rintro e wr ⟨rfl, hst, hko⟩
        have hz16 : z1 ≤ 16 := HFM.out.1
        have HF2 : Hid (Blk wr Y 25 [.string nm, .int .i64 st, .int .i64 sz]) := Lib.hid (hko _ _ _ _ HF1.out (by decide) (by decide))
        have HSB := Lib.hid hst
        clear hst hko HSA HF1 f0 fl hz1 hz1'
        have f0 := HF2.out.cell 0 rfl
        have f2 := HF2.out.cell 2 rfl
        have fl := HF2.out.lt
        go_upto_region 12 with fail
        obtain ⟨hbA, L, ⟨A, c, k1, k2, k3, k4⟩, hE⟩ := HSB.out
        obtain ⟨N1, hN1⟩ : ∃ z, L.length = z := ⟨_, rfl⟩
        have hl1 : N1 ≤ 30000 := by have := HF.out.len; rw [← hE] at this; simp only [List.length_append] at this; omega
        have HFIN2 : Hid (∀ (A2 : Option Addr) (c2 : Nat) (w2 : World), w2.ownsRow B 5 1 (.slice A2 (N1 + z1) c2) (N1 + z1) (intsV .u8 (L ++ strL nm)) → wr.drew.grownBy w2 (Value.slice A N1 c).ownBlock → EncSt W1 B X m (numB sz 2 ++ ((m.funcs.drop (k + 1)).flatMap encFn ++ r4 m)) (w2.setCell ⟨X, 0, none⟩ (.slice A2 (N1 + z1) c2)) ∧ Blk (w2.setCell ⟨X, 0, none⟩ (.slice A2 (N1 + z1) c2)) Y 25 [.string nm, .int .i64 st, .int .i64 sz]) := Lib.hid fun A2 c2 w2 ho hg => by
          subst hN1
          obtain ⟨r1, r2⟩ := enc_push hbA k1 (.inl k2) k3 k4 hE (by rw [List.length_append, strL_len, HZ1.out]) ho hg
          exact ⟨r1, r2 _ _ _ _ HF2.out (by decide) (by decide)⟩
        rw [hN1] at k1 k2 k4
        have y0 := k1.cell 0 rfl
        have yf := k1.free 0
        have yl := k1.lt
        have HK1 := Lib.hid k1
        have HK2 := Lib.hid k2
        have HK4 := Lib.hid k4
        have hB2 : B ≤ wr.heap.size := by omega
        clear k1 k2 k4 hN1 hbA hE
        go_cut [] (fun wx => Hid (EncSt W1 B X m (numB sz 2 ++ ((m.funcs.drop (k + 1)).flatMap encFn ++ r4 m)) wx ∧ Blk wx Y 25 [.string nm, .int .i64 st, .int .i64 sz]))
        case first =>
          go_region_law ((first | (have ho1 : wr.drew.ownsRow B 5 1 (.slice A N1 c) N1 (intsV .u8 L) := HK2.out; have hbb : B ≤ wr.drew.heap.size := hB2; refine step_app_str rfl _ _ rfl B A c N1 L rfl ho1 nm rfl z1 HZ1.out (by omega) hbb ?_; intro A2 c2 w2 ho2 hgr2; have hx2 : Blk w2 X 131 [.slice A N1 c] := Blk.gb (w := wr.drew) HK1.out hgr2 HK4.out; have x20 := hx2.cell 0 rfl; have x2f := hx2.free 0; have x2l := hx2.lt; have HO2 := Lib.hid ho2; have HG2 := Lib.hid hgr2; clear hx2 ho2 hgr2 ho1 hbb)))
          all_goals (go_wp2; go_meet)
          all_goals exact HFIN2.out _ _ _ HO2.out HG2.out
        case rest =>
          clear HFIN2 HK1 HK2 HK4 y0 yf yl f0 f2 fl HSB HF2
          have f2 := hcut.out.2.cell 2 rfl
          have fl := hcut.out.2.lt
          go_wp2_with fail
          refine (num_step HF.out sz 2 (by decide) (by decide) hcut.out.1).mono ?_
          rintro e wr ⟨rfl, hst, hko⟩
          have HSC := Lib.hid hst
          clear hst hko f2 fl hcut
          go_wp2_with fail
          go_roundg (NF - (k + 1))
          case measure => omega
          case rel => exact ⟨k + 1, by omega, by go_num, HSC, Nat.le_refl _⟩
      · obtain rfl : k = NF := by omega
        have HS5 : Hid (EncSt W1 B X m (numB EN 1 ++ r5 m) wr) := Lib.hid (by
          have h := HS.out
          rw [List.drop_of_length_le (by have := HN.out.2.1; omega)] at h
          have e : r4 m = numB EN 1 ++ r5 m := by unfold r4; rw [HN.out.2.2.2.2.2]
          rw [e] at h
          exact h)
        clear HS
        have hbx := HBX.out _ _ HS5.out
        have x5 := hbx.cell 5 rfl
        have xl := hbx.lt
        clear hbx
        go_wp2_with fail
        refine (num_step HF.out EN 1 (by decide) (by decide) HS5.out).mono ?_
        rintro e wr ⟨rfl, hst, hko⟩
        clear HS5 x5 xl hko
        have HS6 : Hid (EncSt W1 B X m (numB (NB : Int) 1 ++ r6 m) wr) := Lib.hid (by unfold r5 at hst; rw [HN.out.2.2.1] at hst; exact hst)
        clear hst
        have hbx := HBX.out _ _ HS6.out
        have x2 := hbx.cell 2 rfl
        have xl := hbx.lt
        clear hbx
        go_wp2_with fail
        refine (num_step HF.out (NB : Int) 1 (by decide) (by decide) HS6.out).mono ?_
        rintro e wr ⟨rfl, hst, hko⟩
        clear HS6 x2 xl hko
        have HS7 : Hid (EncSt W1 B X m (m.tables.flatMap encTab ++ r7 m) wr) := Lib.hid hst
        clear hst
        have hbx := HBX.out _ _ HS7.out
        have x2 := hbx.cell 2 rfl
        have xl := hbx.lt
        clear hbx
        go_wp2_with fail
        clear x2 xl
        obtain ⟨vs, htl, hrv, htv⟩ := HI1.out.tables
        simp only at hrv
        have HTV := Lib.hid (And.intro htl (And.intro hrv htv))
        clear htl hrv htv
        go_loopg [84] NB (fun gk s84 wr => ∃ k : Nat, k ≤ NB ∧ s84 = .int .i64 (k : Int) ∧ Hid (EncSt W1 B X m ((m.tables.drop k).flatMap encTab ++ r7 m) wr) ∧ NB - k ≤ gk)
        case atStart => exact ⟨0, Nat.zero_le _, rfl, HS7, Nat.le_refl _⟩
        case round =>
          clear HS7
          obtain ⟨k, hk, rfl, HS, hgk⟩ := hrel
          by_cases hlt : k < NB
          · have hx : m.tables[k]? = some (m.tables[k]'(by have := HN.out.2.2.1; omega)) := List.getElem?_eq_getElem _
            have hdr : m.tables.drop k = m.tables[k]'(by have := HN.out.2.2.1; omega) :: m.tables.drop (k + 1) := List.drop_eq_getElem_cons _
            obtain ⟨t, hf⟩ : ∃ f, m.tables[k]'(by have := HN.out.2.2.1; omega) = f := ⟨_, rfl⟩
            rw [hf] at hx hdr
            have hfm := HF.out.bb t (List.mem_of_getElem? hx)
            have hb0 := HS.out.1
            obtain ⟨a, ca, hva, hca, -, -, hrt⟩ := HTV.out.2.2 k t hx
            obtain ⟨fb, fo, hA, hfb, c0⟩ := (HTV.out.2.1.below (hb0.mono (by omega))).at hva
            obtain ⟨TL, hTL⟩ : ∃ z, t.length = z := ⟨_, rfl⟩
            rw [hTL] at c0 hfm
            subst hA
            have hSz := hb0.size
            have HS1 : Hid (EncSt W1 B X m (numB (TL : Int) 1 ++ (t.flatMap (numB · 2) ++ ((m.tables.drop (k + 1)).flatMap encTab ++ r7 m))) wr) := Lib.hid (by
              have h := HS.out
              rw [hdr] at h
              simp only [List.flatMap_cons, encTab, List.append_assoc, hTL] at h
              exact h)
            have hfl2 : fb < wr.heap.size := by omega
            have HFM := Lib.hid hfm
            have HRT2 := Lib.hid hrt
            have HTL := Lib.hid hTL
            have htl20 : TL ≤ 20 := hfm.1
            clear hx hdr hf HS hfm hb0 hrt hva hTL
            go_wp2_with fail
            refine (num_step HF.out (TL : Int) 1 (by decide) (by decide) HS1.out).mono ?_
            rintro e wr ⟨rfl, hst, hko⟩
            have HS8 := Lib.hid hst
            clear hst hko HS1 c0
            go_wp2_with fail
            go_loopg [94] TL (fun gk2 s94 wr => ∃ j : Nat, j ≤ TL ∧ s94 = .int .i64 (j : Int) ∧ Hid (EncSt W1 B X m ((t.drop j).flatMap (numB · 2) ++ ((m.tables.drop (k + 1)).flatMap encTab ++ r7 m)) wr) ∧ TL - j ≤ gk2)
            case atStart => exact ⟨0, Nat.zero_le _, rfl, HS8, Nat.le_refl _⟩
            case round =>
              clear HS8
              obtain ⟨j, hj, rfl, HSJ, hgk2⟩ := hrel
              by_cases hlt2 : j < TL
              · have hx : t[j]? = some (t[j]'(by have := HTL.out; omega)) := List.getElem?_eq_getElem _
                have hdr : t.drop j = t[j]'(by have := HTL.out; omega) :: t.drop (j + 1) := List.drop_eq_getElem_cons _
                obtain ⟨y, hf⟩ : ∃ f, t[j]'(by have := HTL.out; omega) = f := ⟨_, rfl⟩
                rw [hf] at hx hdr
                have hb0 := HSJ.out.1
                obtain ⟨gb, go, hA, hgb, d0⟩ := (HRT2.out.below (hb0.mono (by omega))).at (intsV_at .i64 hx)
                subst hA
                have hSz2 := hb0.size
                have HSK : Hid (EncSt W1 B X m (numB y 2 ++ ((t.drop (j + 1)).flatMap (numB · 2) ++ ((m.tables.drop (k + 1)).flatMap encTab ++ r7 m))) wr) := Lib.hid (by
                  have h := HSJ.out
                  rw [hdr] at h
                  simp only [List.flatMap_cons, List.append_assoc] at h
                  exact h)
                have hfl3 : gb < wr.heap.size := by omega
                clear hx hdr hf HSJ hb0
                go_wp2_with fail
                refine (num_step HF.out y 2 (by decide) (by decide) HSK.out).mono ?_
                rintro e wr ⟨rfl, hst, hko⟩
                have HSL := Lib.hid hst
                clear hst hko HSK d0
                go_wp2_with fail
                go_roundg (TL - (j + 1))
                case measure => omega
                case rel => exact ⟨j + 1, by omega, by go_num, HSL, Nat.le_refl _⟩
              · obtain rfl : j = TL := by omega
                have HSM : Hid (EncSt W1 B X m ((m.tables.drop (k + 1)).flatMap encTab ++ r7 m) wr) := Lib.hid (by
                  have h := HSJ.out
                  rw [List.drop_of_length_le (by have := HTL.out; omega)] at h
                  exact h)
                clear HSJ
                go_wp2_with fail
                go_roundg (NB - (k + 1))
                case measure => omega
                case rel => exact ⟨k + 1, by omega, by go_num, HSM, Nat.le_refl _⟩
          · obtain rfl : k = NB := by omega
            have HS9 : Hid (EncSt W1 B X m (numB (ND : Int) 1 ++ r8 m) wr) := Lib.hid (by
              have h := HS.out
              rw [List.drop_of_length_le (by have := HN.out.2.2.1; omega)] at h
              have e : r7 m = numB (ND : Int) 1 ++ r8 m := by unfold r7; rw [HN.out.2.2.2.1]
              rw [e] at h
              exact h)
            clear HS
            have hbx := HBX.out _ _ HS9.out
            have x3 := hbx.cell 3 rfl
            have xl := hbx.lt
            clear hbx
            go_wp2_with fail
            refine (num_step HF.out (ND : Int) 1 (by decide) (by decide) HS9.out).mono ?_
            rintro e wr ⟨rfl, hst, hko⟩
            clear HS9 x3 xl hko
            have HSa : Hid (EncSt W1 B X m (m.data.flatMap (numB · 8) ++ r9 m) wr) := Lib.hid hst
            clear hst
            have hbx := HBX.out _ _ HSa.out
            have x3 := hbx.cell 3 rfl
            have xl := hbx.lt
            clear hbx
            go_wp2_with fail
            clear x3 xl
            go_loopg [111] ND (fun gk s111 wr => ∃ k : Nat, k ≤ ND ∧ s111 = .int .i64 (k : Int) ∧ Hid (EncSt W1 B X m ((m.data.drop k).flatMap (numB · 8) ++ r9 m) wr) ∧ ND - k ≤ gk)
            case atStart => exact ⟨0, Nat.zero_le _, rfl, HSa, Nat.le_refl _⟩
            case round =>
              clear HSa
              obtain ⟨k, hk, rfl, HS, hgk⟩ := hrel
              by_cases hlt : k < ND
              · have hx : m.data[k]? = some (m.data[k]'(by have := HN.out.2.2.2.1; omega)) := List.getElem?_eq_getElem _
                have hdr : m.data.drop k = m.data[k]'(by have := HN.out.2.2.2.1; omega) :: m.data.drop (k + 1) := List.drop_eq_getElem_cons _
                obtain ⟨y, hf⟩ : ∃ f, m.data[k]'(by have := HN.out.2.2.2.1; omega) = f := ⟨_, rfl⟩
                rw [hf] at hx hdr
                have hb0 := HS.out.1
                obtain ⟨gb, go, hA, hgb, d0⟩ := (HI1.out.data.below (hb0.mono (by omega))).at (intsV_at .i64 hx)
                simp only at hA
                subst hA
                have hSz2 := hb0.size
                have HSK : Hid (EncSt W1 B X m (numB y 8 ++ ((m.data.drop (k + 1)).flatMap (numB · 8) ++ r9 m)) wr) := Lib.hid (by
                  have h := HS.out
                  rw [hdr] at h
                  simp only [List.flatMap_cons, List.append_assoc] at h
                  exact h)
                have hfl3 : gb < wr.heap.size := by omega
                clear hx hdr hf HS hb0
                go_wp2_with fail
                refine (num_step HF.out y 8 (by decide) (by decide) HSK.out).mono ?_
                rintro e wr ⟨rfl, hst, hko⟩
                have HSL := Lib.hid hst
                clear hst hko HSK d0
                go_wp2_with fail
                go_roundg (ND - (k + 1))
                case measure => omega
                case rel => exact ⟨k + 1, by omega, by go_num, HSL, Nat.le_refl _⟩
              · obtain rfl : k = ND := by omega
                have HSb : Hid (EncSt W1 B X m (numB (NL : Int) 2 ++ r10 m) wr) := Lib.hid (by
                  have h := HS.out
                  rw [List.drop_of_length_le (by have := HN.out.2.2.2.1; omega)] at h
                  have e : r9 m = numB (NL : Int) 2 ++ r10 m := by unfold r9; rw [HN.out.2.2.2.2.1]
                  rw [e] at h
                  exact h)
                clear HS
                have hbx := HBX.out _ _ HSb.out
                have x4 := hbx.cell 4 rfl
                have xl := hbx.lt
                clear hbx
                go_wp2_with fail
                refine (num_step HF.out (NL : Int) 2 (by decide) (by decide) HSb.out).mono ?_
                rintro e wr ⟨rfl, hst, hko⟩
                clear HSb x4 xl hko
                have HSc : Hid (EncSt W1 B X m (m.lines.flatMap encLn ++ []) wr) := Lib.hid (by rw [List.append_nil]; exact hst)
                clear hst
                have hbx := HBX.out _ _ HSc.out
                have x4 := hbx.cell 4 rfl
                have xl := hbx.lt
                clear hbx
                go_wp2_with fail
                clear x4 xl
                go_loopg [127] NL (fun gk s127 wr => ∃ k : Nat, k ≤ NL ∧ s127 = .int .i64 (k : Int) ∧ Hid (EncSt W1 B X m ((m.lines.drop k).flatMap encLn ++ []) wr) ∧ NL - k ≤ gk)
                case atStart => exact ⟨0, Nat.zero_le _, rfl, HSc, Nat.le_refl _⟩
                case round =>
                  clear HSc
                  obtain ⟨k, hk, rfl, HS, hgk⟩ := hrel
                  by_cases hlt : k < NL
                  · have hx : m.lines[k]? = some (m.lines[k]'(by have := HN.out.2.2.2.2.1; omega)) := List.getElem?_eq_getElem _
                    have hdr : m.lines.drop k = m.lines[k]'(by have := HN.out.2.2.2.2.1; omega) :: m.lines.drop (k + 1) := List.drop_eq_getElem_cons _
                    obtain ⟨f, hf⟩ : ∃ f, m.lines[k]'(by have := HN.out.2.2.2.2.1; omega) = f := ⟨_, rfl⟩
                    rw [hf] at hx hdr
                    have hb0 := HS.out.1
                    obtain ⟨fb, fo, hA, hfb, c0, c1⟩ := (HI1.out.lines.below (hb0.mono (by omega))).at2 hx
                    simp only at hA c0 c1
                    obtain ⟨la, ln⟩ := f
                    simp only at c0 c1
                    subst hA
                    have hSz := hb0.size
                    have HS1 : Hid (EncSt W1 B X m (numB la 2 ++ (numB ln 2 ++ ((m.lines.drop (k + 1)).flatMap encLn ++ []))) wr) := Lib.hid (by
                      have h := HS.out
                      rw [hdr] at h
                      simp only [List.flatMap_cons, encLn, List.append_assoc] at h
                      exact h)
                    have hfl : fb < wr.heap.size := by omega
                    clear hx hdr hf HS hb0
                    go_upto_region 37 with fail
                    obtain ⟨wa, hwa⟩ : ∃ z, wr.alloc (.cells #[.int .i64 la, .int .i64 ln] 63) = z := ⟨_, rfl⟩
                    have HF1 : Hid (Blk wa wr.heap.size 63 [.int .i64 la, .int .i64 ln]) := Lib.hid (by rw [← hwa]; exact Blk.new _ _ _)
                    have HSA : Hid (EncSt W1 B X m (numB la 2 ++ (numB ln 2 ++ ((m.lines.drop (k + 1)).flatMap encLn ++ []))) wa) := Lib.hid (by rw [← hwa]; exact HS1.out.keep ((Below.refl _ _).alloc (Nat.le_refl _) _))
                    rw [hwa]
                    obtain ⟨Y, hY⟩ : ∃ z, wr.heap.size = z := ⟨_, rfl⟩
                    rw [hY] at HF1 ⊢
                    clear hwa HS1 c0 c1
                    have f0 := HF1.out.cell 0 rfl
                    have fl := HF1.out.lt
                    go_wp2_with fail
                    refine (num_step HF.out la 2 (by decide) (by decide) HSA.out).mono ?_
                    rintro e wr ⟨rfl, hst, hko⟩
                    have HF2 : Hid (Blk wr Y 63 [.int .i64 la, .int .i64 ln]) := Lib.hid (hko _ _ _ _ HF1.out (by decide) (by decide))
                    have HSB := Lib.hid hst
                    clear hst hko HSA HF1 f0 fl
                    have f1 := HF2.out.cell 1 rfl
                    have fl := HF2.out.lt
                    go_wp2_with fail
                    refine (num_step HF.out ln 2 (by decide) (by decide) HSB.out).mono ?_
                    rintro e wr ⟨rfl, hst, hko⟩
                    have HSC := Lib.hid hst
                    clear hst hko HSB HF2 f1 fl
                    go_wp2_with fail
                    go_roundg (NL - (k + 1))
                    case measure => omega
                    case rel => exact ⟨k + 1, by omega, by go_num, HSC, Nat.le_refl _⟩
                  · obtain rfl : k = NL := by omega
                    obtain ⟨hbA, L, ⟨A, c, k1, k2, k3, k4⟩, hE⟩ := HS.out
                    rw [List.drop_of_length_le (by have := HN.out.2.2.2.2.1; omega)] at hE
                    simp only [List.flatMap_nil, List.append_nil] at hE
                    rw [hE] at k1 k2
                    obtain ⟨N1, hN1⟩ : ∃ z, (encF m).length = z := ⟨_, rfl⟩
                    rw [hN1] at k1 k2
                    have y0 := k1.cell 0 rfl
                    have yl := k1.lt
                    have HK2 := Lib.hid k2
                    have HBA := Lib.hid hbA
                    have HN1 := Lib.hid hN1
                    clear k1 k2 k4 hbA hE hN1 HS
                    go_wp2_with fail
                    go_ret2
                    exact ⟨HB1.out.trans (HBA.out.mono (by omega)), fun h => absurd HR.out h, fun _ => ⟨A, c, by rw [HN1.out]; rfl, by rw [HN1.out]; exact own_more HK2.out (by omega)⟩⟩
end Go.Proofs.YtlekjnnofhjgjaaDoor
