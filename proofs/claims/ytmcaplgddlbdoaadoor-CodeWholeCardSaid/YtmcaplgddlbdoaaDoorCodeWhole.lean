/- The given statement on CodeWhole, proved: code that is put together is taken apart, instruction by instruction. No condition of its own. -/
import Derived.Test.YtmcaplgddlbdoaaDoorLawS
import Derived.Test.YtmcaplgddlbdoaaDoorApp
import Derived.Test.YtmcaplgddlbdoaaDoorIsaJ
import Derived.Test.YtmcaplgddlbdoaaDoorPlainC
import Derived.WalkLawsBesides
import Derived.Deep.LoopGhost
import Derived.Outline
namespace Go.Proofs.YtmcaplgddlbdoaaDoor
open Go.ChangeShapes Go.WideShapes Go.ChangeAt Go.RowKit Go.Joins
open Go.ChangeMaps (open_string)
/-- the instructions of raw things; their bytes; their cells -/
def codeI (l : Bool) (rs : List RawI) : List Ins := rs.map fun r => anyI r l
def codeB (is : List Ins) : List Int := is.flatMap Ins.enc
def cellsI (is : List Ins) : List Value := is.flatMap fun i => [.int .i64 i.k, .int .i64 i.d, .int .i64 i.a, .int .i64 i.b, .int .i64 i.n, .bool i.l]
theorem cellsI_len (is : List Ins) : (cellsI is).length = is.length * 6 := by
  induction is with
  | nil => rfl
  | cons i r ih => simp [cellsI] at ih ⊢; omega
theorem codeB_le (is : List Ins) (h : ∀ i ∈ is, i.chk = 0) : (codeB is).length ≤ is.length * 4 := by
  induction is with
  | nil => simp [codeB]
  | cons i r ih =>
    have h1 := enc_pos (h i (by simp))
    have h2 := ih fun j hj => h j (by simp [hj])
    simp [codeB] at h2 ⊢
    omega
theorem codeI_ok (l : Bool) (rs : List RawI) : ∀ i ∈ codeI l rs, i.chk = 0 := by
  intro i hi
  simp only [codeI, List.mem_map] at hi
  obtain ⟨r, _, rfl⟩ := hi
  exact anyI_ok r l

theorem cellsI_at : ∀ (is : List Ins) (j : Nat) (i : Ins), is[j]? = some i → ∀ q v, [Value.int .i64 i.k, .int .i64 i.d, .int .i64 i.a, .int .i64 i.b, .int .i64 i.n, .bool i.l][q]? = some v → (cellsI is)[j * 6 + q]? = some v
  | [], _, _, h, _, _, _ => by simp at h
  | i :: r, 0, _, h, q, v, hv => by
    cases h
    have hq : q < 6 := by
      have := (List.getElem?_eq_some_iff.1 hv).1
      simpa using this
    show (_ ++ cellsI r)[0 * 6 + q]? = some v
    rw [Nat.zero_mul, Nat.zero_add, List.getElem?_append_left (by simpa using hq)]
    exact hv
  | i :: r, j + 1, i', h, q, v, hv => by
    have ih := cellsI_at r j i' (by simpa using h) q v hv
    show (_ ++ cellsI r)[(j + 1) * 6 + q]? = some v
    rw [List.getElem?_append_right (by simp; omega), show (j + 1) * 6 + q - [Value.int .i64 i.k, .int .i64 i.d, .int .i64 i.a, .int .i64 i.b, .int .i64 i.n, .bool i.l].length = j * 6 + q by simp; omega]
    exact ih
/-- a row of the call's own that holds instructions, read -/
theorem own_ins {w : World} {base : Nat} {v : Value} {k : Nat} {is : List Ins} (h : w.ownsRow base 25 6 v k (cellsI is)) (hk : is.length = k) {j : Nat} {i : Ins} (hj : is[j]? = some i) :
    ∃ g c, v = .slice (some ⟨g, 0, none⟩) k c ∧ k ≤ c ∧ base ≤ g ∧ g < w.heap.size ∧ ∀ q u, [Value.int .i64 i.k, .int .i64 i.d, .int .i64 i.a, .int .i64 i.b, .int .i64 i.n, .bool i.l][q]? = some u → w.cell? ⟨g, j * 6 + q, none⟩ = some u := by
  have hjl : j < is.length := (List.getElem?_eq_some_iff.1 hj).1
  rcases h.2 with ⟨_, h0⟩ | ⟨g, c, cur, hv, hb, hg, hkc, _, hcs, htk⟩
  · omega
  · refine ⟨g, c, hv, hkc, hb, (Array.getElem?_eq_some_iff.1 hg).1, fun q u hu => ?_⟩
    have hq : q < 6 := by
      have := (List.getElem?_eq_some_iff.1 hu).1
      simpa using this
    have h1 := cellsI_at is j i hj q u hu
    rw [← htk, List.getElem?_take, if_pos (by omega)] at h1
    rw [cell_of_row w g _ _ _ _ hg]
    simpa using h1
/-- what the second loop knows at each round's head -/
def CwRel2 (wx : World) (is : List Ins) (v11 v52 : Value) (wr : World) : Prop :=
  ∃ j : Nat, j ≤ is.length ∧ v52 = .int .i64 j ∧ v11 = .int .i64 (codeB (is.take j)).length ∧ Below wx.heap.size wx wr
theorem codeB_split (is : List Ins) (j : Nat) (i : Ins) (h : is[j]? = some i) : codeB is = codeB (is.take j) ++ i.enc ++ codeB (is.drop (j + 1)) := by
  obtain ⟨hj, rfl⟩ := List.getElem?_eq_some_iff.1 h
  have : is = is.take j ++ (is[j] :: is.drop (j + 1)) := by rw [List.getElem_cons_drop, List.take_append_drop]
  have h2 := congrArg codeB this
  rw [h2]
  unfold codeB
  rw [List.flatMap_append, List.flatMap_cons, List.append_assoc]
theorem codeB_take (is : List Ins) (j : Nat) (i : Ins) (h : is[j]? = some i) : codeB (is.take (j + 1)) = codeB (is.take j) ++ i.enc := by
  rw [List.take_add_one, h]
  simp [codeB]
/-- what the first loop has made after so many rounds -/
def CwRel (w : World) (l : Bool) (rs : List RawI) (v5 v6 v7 : Value) (wr : World) : Prop :=
  ∃ k : Nat, k ≤ rs.length ∧ k ≤ 40 ∧ v7 = .int .i64 k ∧ Below w.heap.size w wr ∧ OwnB wr w.heap.size v5 (codeB (codeI l (rs.take k))) ∧
    wr.ownsRow w.heap.size 25 6 v6 k (cellsI (codeI l (rs.take k))) ∧ (v6.ownBlock = none ∨ v6.ownBlock ≠ v5.ownBlock)
set_option maxHeartbeats 4000000 in
set_option maxRecDepth 100000 in
theorem codeWhole_walk (rs : List RawI) (A : Option Addr) (cap : Nat) (l : Bool) (w : World) (hT : Tabs w) (hR : RdR w w.heap.size A rs) (hL : rs.length ≤ 140737488355328) : Calls Tryd.prog 7 #[.slice A rs.length cap, .bool l] w fun e w' =>
    e = .returned (.bool true) ∧ Below w.heap.size w w' := by
  obtain ⟨i0, hi, hz0, hz1, hz2⟩ := info_parts infoI
  have HR := Lib.hid hR
  have HT := Lib.hid hT
  have HL := Lib.hid hL
  clear hR hT
  go_enter Tryd.func7, Tryd.ntmps7
  go_wp2
  go_loopw [5, 6, 7] (fun v5 v6 v7 wr => CwRel w l rs v5 v6 v7 wr) (fun _ _ v7 _ => 41 - (intOf v7).toNat)
  case atStart => exact ⟨0, Nat.zero_le _, Nat.zero_le _, rfl, Below.refl _ _, by unfold OwnB; exact ⟨rfl, .inl ⟨rfl, rfl⟩⟩, ⟨rfl, .inl ⟨rfl, rfl⟩⟩, .inl rfl⟩
  case round =>
    obtain ⟨k, hk1, hk2, rfl, hB, hO5, hO6, hsep⟩ := hrel
    by_cases hlt : k < rs.length ∧ k < 40
    · obtain ⟨hlt, h40⟩ := hlt
      have HO5 := Lib.hid hO5
      have HO6 := Lib.hid hO6
      have HS := Lib.hid hsep
      have hR := HR.out
      obtain ⟨rb, ro, rfl, hrb, hrc⟩ := hR.2 (by intro e; rw [e] at hlt; simp at hlt)
      have hrk : rs[k]? = some rs[k] := List.getElem?_eq_getElem hlt
      obtain ⟨c0, c1, c2, c3⟩ := hrc k _ hrk
      have hok := hR.1 _ (List.getElem_mem hlt)
      have HK := Lib.hid hrk
      have d0 := (hB.cell (p := ⟨rb, ro + k * 4, none⟩) hrb).trans c0
      have d1 := (hB.cell (p := ⟨rb, ro + k * 4 + 1, none⟩) hrb).trans c1
      have d2 := (hB.cell (p := ⟨rb, ro + k * 4 + 2, none⟩) hrb).trans c2
      have d3 := (hB.cell (p := ⟨rb, ro + k * 4 + 3, none⟩) hrb).trans c3
      have hkl : (k : Int) < rs.length := by omega
      have hk40 : (k : Int) < 40 := by omega
      obtain ⟨r, hr⟩ : ∃ r, rs[k] = r := ⟨_, rfl⟩
      rw [hr] at HK hok d0 d1 d2 d3
      clear hO5 hO6 hsep hR hrc hrk c0 c1 c2 c3 hr
      have hic := anyI_ok r l
      have any0 : ∀ w1, Calls Tryd.prog 10 #[.agg #[.int .i64 r.k, .int .i64 r.a, .int .i64 r.b, .int .i64 r.c], .bool l] w1 fun e w' => e = .returned (.agg (anyI r l).cells) ∧ Below w1.heap.size w1 w' := fun w1 => any_any r l hok w1
      obtain ⟨I, hI⟩ : ∃ I, anyI r l = I := ⟨_, rfl⟩
      rw [hI] at hic any0
      have HI := Lib.hid hI
      have HC := Lib.hid hic
      have A0 := Lib.hid any0
      clear hI hic any0 hok
      have hep := enc_pos HC.out
      obtain ⟨n, hn⟩ : ∃ n, I.enc.length = n := ⟨_, rfl⟩
      rw [hn] at hep
      have HN := Lib.hid hn
      clear hn
      go_wp2_with fail
      refine (A0.out _).mono ?_
      rintro e w1 ⟨rfl, hb1⟩
      unfold Ins.cells
      have hB1 := hB.trans (hb1.mono hB.size)
      have HO5' := Lib.hid (own_keep HO5.out hb1)
      have HO6' := Lib.hid (own_keep HO6.out hb1)
      have hs1 := hb1.size
      have hq5 : ∀ q, u5.ownBlock = some q → w.heap.size ≤ q ∧ q < w1.heap.size := fun q hq => ⟨(World.ownsRow.lt HO5'.out q hq).1, (World.ownsRow.lt HO5'.out q hq).2⟩
      have hq6 : ∀ q, u6.ownBlock = some q → w.heap.size ≤ q ∧ q < w1.heap.size := fun q hq => ⟨(World.ownsRow.lt HO6'.out q hq).1, (World.ownsRow.lt HO6'.out q hq).2⟩
      have Q5 := Lib.hid hq5
      have Q6 := Lib.hid hq6
      clear d0 d1 d2 d3 hb1 hB HO5 HO6 hq5 hq6
      go_wp2_with fail
      refine (encode_any I _ ((HT.out.below hB1).alloc _) HC.out).mono ?_
      rintro e w2 ⟨g, cp, rfl, hcp, hg, hgz, hb2, hcell, -⟩
      rw [HN.out] at hcp ⊢
      have hx2 : w2.heap[w1.heap.size]? = some (.cells #[.int .i64 I.k, .int .i64 I.d, .int .i64 I.a, .int .i64 I.b, .int .i64 I.n, .bool I.l] 25 (0, 0)) := (hb2.block _ (by simp)).trans (heap_alloc_new w1 _)
      have hb12 : Below w1.heap.size w1 w2 := ((Below.refl _ _).alloc (Nat.le_refl _) _).trans (hb2.mono (by simp))
      have hB2 := hB1.trans (hb12.mono hB1.size)
      have HO5 := Lib.hid (own_keep HO5'.out hb12)
      have HO6 := Lib.hid (own_keep HO6'.out hb12)
      have hg1 : w1.heap.size < g := by simp at hg; omega
      have HE := Lib.hid hcell
      have hx2' := Lib.hid hx2
      have hlen : (codeB (codeI l (rs.take k))).length + n ≤ 140737488355328 := by
        have h1 := codeB_le _ (codeI_ok l (rs.take k))
        have h2 : (codeI l (rs.take k)).length ≤ k := by simp [codeI]; omega
        omega
      have hbs := hB2.size
      have hs2 : w1.heap.size < w2.heap.size := by omega
      clear hb2 hb12 hB1 HO5' HO6' hcell hg hx2
      go_wp2_with (first | (refine app_bytes_lies rfl _ _ rfl w.heap.size _ _ I.enc rfl HO5.out g n cp rfl HN.out (by omega) HE.out hlen hbs ?a1))
      case a1 =>
        rintro g5 c5 w3 ho5 hgr3 hat3 hlt3
        have hB3 : Below w.heap.size w w3 := hB2.grown hgr3 hbs (fun q hq => (Q5.out q hq).1)
        have hx3 : w3.heap[w1.heap.size]? = some (.cells #[.int .i64 I.k, .int .i64 I.d, .int .i64 I.a, .int .i64 I.b, .int .i64 I.n, .bool I.l] 25 (0, 0)) := (hgr3.block _ hs2 (fun e => by have := (Q5.out _ e.symm).2; omega)).trans hx2'.out
        have ho6 := own_other HO6.out hgr3 HS.out
        have x0 : w3.cell? ⟨w1.heap.size, 0, none⟩ = some (.int .i64 I.k) := cell_of_row w3 _ 0 _ _ _ hx3
        have x1 : w3.cell? ⟨w1.heap.size, 1, none⟩ = some (.int .i64 I.d) := cell_of_row w3 _ 1 _ _ _ hx3
        have x2 : w3.cell? ⟨w1.heap.size, 2, none⟩ = some (.int .i64 I.a) := cell_of_row w3 _ 2 _ _ _ hx3
        have x3 : w3.cell? ⟨w1.heap.size, 3, none⟩ = some (.int .i64 I.b) := cell_of_row w3 _ 3 _ _ _ hx3
        have x4 : w3.cell? ⟨w1.heap.size, 4, none⟩ = some (.int .i64 I.n) := cell_of_row w3 _ 4 _ _ _ hx3
        have x5 : w3.cell? ⟨w1.heap.size, 5, none⟩ = some (.bool I.l) := cell_of_row w3 _ 5 _ _ _ hx3
        have hat3' := Lib.hid hat3
        have HO5a := Lib.hid ho5
        have HO6a := Lib.hid ho6
        have hs3 := hgr3.size
        have hbs3 : w.heap.size ≤ w3.heap.size + 1 := by omega
        have hkk : k ≤ 1000000000000 := by omega
        clear hat3 ho5 ho6 hx3 hgr3 HO5 HO6 hx2'
        go_wp2_with (first | (refine app_ins_lies rfl _ _ rfl w.heap.size _ k _ rfl (HO6a.out.alloc _) w3.heap.size 1 rfl _ _ _ _ _ _ _ (heap_alloc_new w3 _) (by simp [Value.oneCell']) hkk (by simp; omega) ?a2))
        case a2 =>
          rintro g6 c6 w4 ho6 hgr4 hat4 hlt4
          have hat3 := hat3'.out
          have hsep := HS.out
          have hne : ∀ q, u6.ownBlock = some q → q ≠ g5 := fun q hq e => by
            subst e
            rcases hat3 with h | h
            · rcases hsep with h2 | h2
              · rw [h2] at hq; cases hq
              · exact h2 (hq.trans h.symm)
            · have := (Q6.out q hq).2; omega
          have hcode : codeI l (rs.take (k + 1)) = codeI l (rs.take k) ++ [I] := by
            unfold codeI
            rw [List.take_add_one, HK.out]
            simp [HI.out]
          have hb4 : Below w.heap.size w w4 := (hB3.alloc (by omega) _).grown hgr4 (by simp; omega) (fun q hq => (Q6.out q hq).1)
          have hob : OwnB w4 w.heap.size (.slice (some ⟨g5, 0, none⟩) ((codeB (codeI l (rs.take k))).length + I.enc.length) c5) (codeB (codeI l (rs.take (k + 1)))) := by
            have h1 := own_other (HO5a.out.alloc _) hgr4 (.inr (fun e => hne g5 e.symm rfl))
            have h2 : codeB (codeI l (rs.take (k + 1))) = codeB (codeI l (rs.take k)) ++ I.enc := by rw [hcode]; simp [codeB]
            unfold OwnB
            rw [h2]
            rw [List.length_append] at h1 ⊢
            exact h1
          have hoi : w4.ownsRow w.heap.size 25 6 (.slice (some ⟨g6, 0, none⟩) (k + 1) c6) (k + 1) (cellsI (codeI l (rs.take (k + 1)))) := by
            have h2 : cellsI (codeI l (rs.take (k + 1))) = cellsI (codeI l (rs.take k)) ++ [.int .i64 I.k, .int .i64 I.d, .int .i64 I.a, .int .i64 I.b, .int .i64 I.n, .bool I.l] := by rw [hcode]; simp [cellsI]
            rw [h2]
            exact ho6
          have hs56 : g6 ≠ g5 := fun e => by
            subst e
            rcases hat4 with h | h
            · exact hne g6 h rfl
            · have h' : g6 = w3.heap.size + 1 := by simpa using h
              omega
          have hrel : CwRel w l rs (.slice (some ⟨g5, 0, none⟩) ((codeB (codeI l (rs.take k))).length + I.enc.length) c5) (.slice (some ⟨g6, 0, none⟩) (k + 1) c6) (.int .i64 ((k : Int) + 1)) w4 :=
            ⟨k + 1, by omega, by omega, rfl, hb4, hob, hoi, .inr (by simpa [Value.ownBlock] using hs56)⟩
          have HREL := Lib.hid hrel
          clear hrel hoi hob hb4 hcode hne hsep hat3 hat4 hgr4 ho6 HO5a HO6a hat3' HI HK HS Q5 Q6 hB3 x0 x1 x2 x3 x4 x5 hlt4 hlt3 HE A0 HC
          go_wp2
          go_roundw
          case rel => exact HREL.out
          case measure => simp [intOf]; omega
    · have hk : (rs.take k).length = k := by rw [List.length_take]; omega
      have hil : (codeI l (rs.take k)).length = k := by rw [codeI, List.length_map, hk]
      have hok := codeI_ok l (rs.take k)
      generalize codeI l (rs.take k) = is at *
      obtain ⟨A5, c5, hv5, hR5, hc5⟩ : ∃ A5 c5, u5 = .slice A5 (codeB is).length c5 ∧ RdB wr wr.heap.size A5 (codeB is) ∧ (codeB is).length ≤ c5 := by
        by_cases hn : codeB is = []
        · rcases hO5.2 with ⟨h1, h2⟩ | ⟨g, cp, cs, h1, h2, h3, h4, h5, h6, h7⟩
          · exact ⟨none, 0, by rw [h1, h2], by rw [hn]; exact RdB.nil _ _ _, by omega⟩
          · exact ⟨_, _, h1, by rw [hn]; exact RdB.nil _ _ _, h4⟩
        · obtain ⟨g, cp, h1, h2, h3, h4, h5⟩ := hO5.at hn
          refine ⟨_, _, h1, ⟨fun x hx => ?_, fun _ => ⟨g, 0, rfl, h4, h5⟩⟩, h2⟩
          simp only [codeB, List.mem_flatMap] at hx
          obtain ⟨i, hi, hx⟩ := hx
          exact enc_bytes (hok i hi) x hx
      obtain ⟨A6, c6, hv6⟩ : ∃ A6 c6, u6 = .slice A6 k c6 := by
        rcases hO6.2 with ⟨h1, h2⟩ | ⟨g, cp, cs, h1, _⟩
        · exact ⟨none, 0, by rw [h1, h2]⟩
        · exact ⟨_, _, h1⟩
      have hT := HT.out.below hB
      have hcl := codeB_le is hok
      have hnlt : ¬ (k < rs.length ∧ k < 40) := hlt
      have hkk : (k : Int) ≤ 40 := by omega
      rw [hv6] at hO6
      have HO6 := Lib.hid hO6
      have HR5 := Lib.hid hR5
      have HT' := Lib.hid hT
      have HIL := Lib.hid hil
      have HOK := Lib.hid hok
      have HB := Lib.hid hB
      subst hv5 hv6
      obtain ⟨N, hN⟩ : ∃ N, N = (codeB is).length := ⟨_, rfl⟩
      rw [← hN] at hc5 hcl ⊢
      have HN := Lib.hid hN
      have hN160 : N ≤ 160 := by omega
      clear hN hcl hO5 hO6 hR5 hT hil hok hsep hnlt hB hk
      obtain ⟨wo, hwo⟩ : ∃ wo : World, wo = wr := ⟨_, rfl⟩
      subst hwo
      by_cases h40 : (k : Int) < rs.length
      · have h2 : ¬ (k : Int) < 40 := by omega
        clear hlt
        go_wp2
        go_loopw [11, 52] (fun v11 v52 wr => CwRel2 wo is v11 v52 wr) (fun _ v52 _ => 41 - (intOf v52).toNat)
        case atStart => exact ⟨0, Nat.zero_le _, rfl, rfl, Below.refl _ _⟩
        case round =>
          obtain ⟨j, hj, rfl, rfl, hb2⟩ := hrel
          by_cases hjk : j < k
          · have hjj : is[j]? = some (is[j]'(by have := HIL.out; omega)) := List.getElem?_eq_getElem _
            obtain ⟨I, hI⟩ : ∃ I, is[j]'(by have := HIL.out; omega) = I := ⟨_, rfl⟩
            rw [hI] at hjj
            obtain ⟨g6, c6', hv, hc6, _, hg6, hcell⟩ := own_ins HO6.out HIL.out hjj
            simp only [Value.slice.injEq, true_and] at hv
            obtain ⟨rfl, rfl⟩ := hv
            have hcb : ∀ q u, [Value.int .i64 I.k, .int .i64 I.d, .int .i64 I.a, .int .i64 I.b, .int .i64 I.n, .bool I.l][q]? = some u → wr.cell? ⟨g6, j * 6 + q, none⟩ = some u := fun q u hu => (hb2.cell (p := ⟨g6, j * 6 + q, none⟩) hg6).trans (hcell q u hu)
            have a0 : wr.cell? ⟨g6, j * 6, none⟩ = some (.int .i64 I.k) := hcb 0 _ rfl
            have a1 : wr.cell? ⟨g6, j * 6 + 1, none⟩ = some (.int .i64 I.d) := hcb 1 _ rfl
            have a2 : wr.cell? ⟨g6, j * 6 + 2, none⟩ = some (.int .i64 I.a) := hcb 2 _ rfl
            have a3 : wr.cell? ⟨g6, j * 6 + 3, none⟩ = some (.int .i64 I.b) := hcb 3 _ rfl
            have a4 : wr.cell? ⟨g6, j * 6 + 4, none⟩ = some (.int .i64 I.n) := hcb 4 _ rfl
            have a5 : wr.cell? ⟨g6, j * 6 + 5, none⟩ = some (.bool I.l) := hcb 5 _ rfl
            have hic : I.chk = 0 := HOK.out I (List.mem_of_getElem? hjj)
            have hspl := codeB_split is j I hjj
            have htk := codeB_take is j I hjj
            have hdec : decB (codeB is) ((codeB (is.take j)).length : Int) = (I, (I.enc.length : Int), 0) := by rw [hspl]; exact dec_enc _ _ hic
            obtain ⟨M, hM⟩ : ∃ M, M = (codeB (is.take j)).length := ⟨_, rfl⟩
            have hM1 : (codeB (is.take (j + 1))).length = M + I.enc.length := by rw [htk, List.length_append, hM]
            have hMle : M + I.enc.length ≤ N := by have := congrArg List.length hspl; rw [List.length_append, List.length_append] at this; have := HN.out; omega
            rw [← hM] at hdec ⊢
            have HM1 := Lib.hid hM1
            have HD := Lib.hid hdec
            have hjI : (j : Int) < k := by omega
            have hgr : g6 < wr.heap.size := by have := hb2.size; omega
            have HB2 := Lib.hid hb2
            have hbz := hb2.size
            clear hjj hI hcell hcb hic hspl htk hdec hM hM1 hb2 hc6 hjk
            go_wp2_with fail
            refine (decode_any (codeB is) A5 N c5 _ _ ((HT'.out.below HB2.out).alloc _) HN.out (((HR5.out.below HB2.out).more hbz).below ((Below.refl _ _).alloc (Nat.le_refl _) _) |>.more (by simp)) (by omega) hc5).mono ?_
            rintro e w3 ⟨rfl, hb3⟩
            rw [HD.out]
            unfold decV Ins.cells
            have hx3 : w3.heap[wr.heap.size]? = some (.cells #[.int .i64 I.k, .int .i64 I.d, .int .i64 I.a, .int .i64 I.b, .int .i64 I.n, .bool I.l] 25 (0, 0)) := (hb3.block _ (by simp)).trans (heap_alloc_new wr _)
            have x0 : w3.cell? ⟨wr.heap.size, 0, none⟩ = some (.int .i64 I.k) := cell_of_row w3 _ 0 _ _ _ hx3
            have x1 : w3.cell? ⟨wr.heap.size, 1, none⟩ = some (.int .i64 I.d) := cell_of_row w3 _ 1 _ _ _ hx3
            have x2 : w3.cell? ⟨wr.heap.size, 2, none⟩ = some (.int .i64 I.a) := cell_of_row w3 _ 2 _ _ _ hx3
            have x3 : w3.cell? ⟨wr.heap.size, 3, none⟩ = some (.int .i64 I.b) := cell_of_row w3 _ 3 _ _ _ hx3
            have x4 : w3.cell? ⟨wr.heap.size, 4, none⟩ = some (.int .i64 I.n) := cell_of_row w3 _ 4 _ _ _ hx3
            have x5 : w3.cell? ⟨wr.heap.size, 5, none⟩ = some (.bool I.l) := cell_of_row w3 _ 5 _ _ _ hx3
            have hs3 : wr.heap.size < w3.heap.size := by have := hb3.size; simp at this; omega
            have hb4 : ∀ X, Below wo.heap.size wo (w3.alloc X) := fun X => ((HB2.out.alloc hbz _).trans (hb3.mono (by simp; omega))).alloc (by omega) X
            have H4 := Lib.hid hb4
            have hrel2 : ∀ X, CwRel2 wo is (.int .i64 ((M : Int) + I.enc.length)) (.int .i64 ((j : Int) + 1)) (w3.alloc X) := fun X => ⟨j + 1, by have := HIL.out; omega, rfl, by rw [HM1.out]; rfl, hb4 X⟩
            have HREL := Lib.hid hrel2
            clear hrel2 hb4 hb3 hx3 a0 a1 a2 a3 a4 a5 HM1 HD
            go_wp2
            go_roundw
            case rel => exact HREL.out _
            case measure => simp [intOf]; omega
          · obtain rfl : j = k := by have := HIL.out; omega
            have hend : decB (codeB is) (N : Int) = (Ins.zero, 0, 2) := by rw [HN.out]; exact dec_end _
            have hfull : (codeB (is.take j)).length = N := by rw [List.take_of_length_le (by have := HIL.out; omega), ← HN.out]
            rw [hfull]
            have HE := Lib.hid hend
            have HB2 := Lib.hid hb2
            have hbz := hb2.size
            clear hb2 hend hfull
            go_wp2_with fail
            refine (decode_any (codeB is) A5 N c5 _ _ (HT'.out.below HB2.out) HN.out ((HR5.out.below HB2.out).more hbz) (by omega) hc5).mono ?_
            rintro e w3 ⟨rfl, hb3⟩
            rw [HE.out]
            unfold decV Ins.cells Ins.zero
            have hfin : ∀ X, Below w.heap.size w (w3.alloc X) := fun X => (HB.out.trans ((HB2.out.trans (hb3.mono hbz)).mono HB.out.size)).alloc (by have := HB.out.size; have := hb3.size; omega) X
            clear hb3
            go_wp2
            go_ret
            exact ⟨by simp, hfin _⟩
      · clear hlt
        go_wp2
        go_loopw [11, 52] (fun v11 v52 wr => CwRel2 wo is v11 v52 wr) (fun _ v52 _ => 41 - (intOf v52).toNat)
        case atStart => exact ⟨0, Nat.zero_le _, rfl, rfl, Below.refl _ _⟩
        case round =>
          obtain ⟨j, hj, rfl, rfl, hb2⟩ := hrel
          by_cases hjk : j < k
          · have hjj : is[j]? = some (is[j]'(by have := HIL.out; omega)) := List.getElem?_eq_getElem _
            obtain ⟨I, hI⟩ : ∃ I, is[j]'(by have := HIL.out; omega) = I := ⟨_, rfl⟩
            rw [hI] at hjj
            obtain ⟨g6, c6', hv, hc6, _, hg6, hcell⟩ := own_ins HO6.out HIL.out hjj
            simp only [Value.slice.injEq, true_and] at hv
            obtain ⟨rfl, rfl⟩ := hv
            have hcb : ∀ q u, [Value.int .i64 I.k, .int .i64 I.d, .int .i64 I.a, .int .i64 I.b, .int .i64 I.n, .bool I.l][q]? = some u → wr.cell? ⟨g6, j * 6 + q, none⟩ = some u := fun q u hu => (hb2.cell (p := ⟨g6, j * 6 + q, none⟩) hg6).trans (hcell q u hu)
            have a0 : wr.cell? ⟨g6, j * 6, none⟩ = some (.int .i64 I.k) := hcb 0 _ rfl
            have a1 : wr.cell? ⟨g6, j * 6 + 1, none⟩ = some (.int .i64 I.d) := hcb 1 _ rfl
            have a2 : wr.cell? ⟨g6, j * 6 + 2, none⟩ = some (.int .i64 I.a) := hcb 2 _ rfl
            have a3 : wr.cell? ⟨g6, j * 6 + 3, none⟩ = some (.int .i64 I.b) := hcb 3 _ rfl
            have a4 : wr.cell? ⟨g6, j * 6 + 4, none⟩ = some (.int .i64 I.n) := hcb 4 _ rfl
            have a5 : wr.cell? ⟨g6, j * 6 + 5, none⟩ = some (.bool I.l) := hcb 5 _ rfl
            have hic : I.chk = 0 := HOK.out I (List.mem_of_getElem? hjj)
            have hspl := codeB_split is j I hjj
            have htk := codeB_take is j I hjj
            have hdec : decB (codeB is) ((codeB (is.take j)).length : Int) = (I, (I.enc.length : Int), 0) := by rw [hspl]; exact dec_enc _ _ hic
            obtain ⟨M, hM⟩ : ∃ M, M = (codeB (is.take j)).length := ⟨_, rfl⟩
            have hM1 : (codeB (is.take (j + 1))).length = M + I.enc.length := by rw [htk, List.length_append, hM]
            have hMle : M + I.enc.length ≤ N := by have := congrArg List.length hspl; rw [List.length_append, List.length_append] at this; have := HN.out; omega
            rw [← hM] at hdec ⊢
            have HM1 := Lib.hid hM1
            have HD := Lib.hid hdec
            have hjI : (j : Int) < k := by omega
            have hgr : g6 < wr.heap.size := by have := hb2.size; omega
            have HB2 := Lib.hid hb2
            have hbz := hb2.size
            clear hjj hI hcell hcb hic hspl htk hdec hM hM1 hb2 hc6 hjk
            go_wp2_with fail
            refine (decode_any (codeB is) A5 N c5 _ _ ((HT'.out.below HB2.out).alloc _) HN.out (((HR5.out.below HB2.out).more hbz).below ((Below.refl _ _).alloc (Nat.le_refl _) _) |>.more (by simp)) (by omega) hc5).mono ?_
            rintro e w3 ⟨rfl, hb3⟩
            rw [HD.out]
            unfold decV Ins.cells
            have hx3 : w3.heap[wr.heap.size]? = some (.cells #[.int .i64 I.k, .int .i64 I.d, .int .i64 I.a, .int .i64 I.b, .int .i64 I.n, .bool I.l] 25 (0, 0)) := (hb3.block _ (by simp)).trans (heap_alloc_new wr _)
            have x0 : w3.cell? ⟨wr.heap.size, 0, none⟩ = some (.int .i64 I.k) := cell_of_row w3 _ 0 _ _ _ hx3
            have x1 : w3.cell? ⟨wr.heap.size, 1, none⟩ = some (.int .i64 I.d) := cell_of_row w3 _ 1 _ _ _ hx3
            have x2 : w3.cell? ⟨wr.heap.size, 2, none⟩ = some (.int .i64 I.a) := cell_of_row w3 _ 2 _ _ _ hx3
            have x3 : w3.cell? ⟨wr.heap.size, 3, none⟩ = some (.int .i64 I.b) := cell_of_row w3 _ 3 _ _ _ hx3
            have x4 : w3.cell? ⟨wr.heap.size, 4, none⟩ = some (.int .i64 I.n) := cell_of_row w3 _ 4 _ _ _ hx3
            have x5 : w3.cell? ⟨wr.heap.size, 5, none⟩ = some (.bool I.l) := cell_of_row w3 _ 5 _ _ _ hx3
            have hs3 : wr.heap.size < w3.heap.size := by have := hb3.size; simp at this; omega
            have hb4 : ∀ X, Below wo.heap.size wo (w3.alloc X) := fun X => ((HB2.out.alloc hbz _).trans (hb3.mono (by simp; omega))).alloc (by omega) X
            have H4 := Lib.hid hb4
            have hrel2 : ∀ X, CwRel2 wo is (.int .i64 ((M : Int) + I.enc.length)) (.int .i64 ((j : Int) + 1)) (w3.alloc X) := fun X => ⟨j + 1, by have := HIL.out; omega, rfl, by rw [HM1.out]; rfl, hb4 X⟩
            have HREL := Lib.hid hrel2
            clear hrel2 hb4 hb3 hx3 a0 a1 a2 a3 a4 a5 HM1 HD
            go_wp2
            go_roundw
            case rel => exact HREL.out _
            case measure => simp [intOf]; omega
          · obtain rfl : j = k := by have := HIL.out; omega
            have hend : decB (codeB is) (N : Int) = (Ins.zero, 0, 2) := by rw [HN.out]; exact dec_end _
            have hfull : (codeB (is.take j)).length = N := by rw [List.take_of_length_le (by have := HIL.out; omega), ← HN.out]
            rw [hfull]
            have HE := Lib.hid hend
            have HB2 := Lib.hid hb2
            have hbz := hb2.size
            clear hb2 hend hfull
            go_wp2_with fail
            refine (decode_any (codeB is) A5 N c5 _ _ (HT'.out.below HB2.out) HN.out ((HR5.out.below HB2.out).more hbz) (by omega) hc5).mono ?_
            rintro e w3 ⟨rfl, hb3⟩
            rw [HE.out]
            unfold decV Ins.cells Ins.zero
            have hfin : ∀ X, Below w.heap.size w (w3.alloc X) := fun X => (HB.out.trans ((HB2.out.trans (hb3.mono hbz)).mono HB.out.size)).alloc (by have := HB.out.size; have := hb3.size; omega) X
            clear hb3
            go_wp2
            go_ret
            exact ⟨by simp, hfin _⟩
theorem codeWhole_contract (H : Type) (enc : TypeId × Value → H) (W : World) (base : Nat) (args : Array Value) (ds gs : List (DataW H)) (before : List MemPlace)
    (hval : ∀ (j : Nat) t v, Tryd.f7.params[j]? = some t → args[j]? = some v → Value.okWide Tryd.prog W .any base t v)
    (hW : DataW.Whole enc Tryd.prog Tryd.f7.params.toList Rows.codeWholeSpec.vars false W args.toList ds gs before) (hL : laidMetH Tryd.prog Rows.codeWholeRow.laid W)
    (hz : (DataW.weightsEach Tryd.prog (Tryd.f7.params.toList ++ (OpenSpec.ofChange Rows.codeWholeSpec).bare.plain.varTypes Tryd.prog) (ds ++ gs)).all (· ≤ reachBytes) = true) :
    Calls Tryd.prog 7 args W fun e W' => ∃ v, e = .returned v ∧ Rows.codeWholeSpec.post enc Tryd.prog Tryd.f7 false true false false W args v W' := by
  have hT : Tabs W := tabs_of_laid (rest := []) hL
  have hW0 := hW
  obtain ⟨p, q, hA0, hV, rfl, hfz, hnd⟩ := hW
  have hA : DataW.TrodAll enc Tryd.prog W 0 (fun _ => true) true Tryd.f7.params.toList args.toList ds p := hA0
  rw [Tryd.params7] at hA hval
  obtain ⟨v0, vs0, d0, ds0, p0, q0, hargs, rfl, rfl, h0, r0⟩ := trodAll_cons hA
  obtain ⟨v1, vs1, d1, ds1, p1, q1, rfl, rfl, rfl, h1, r1⟩ := trodAll_cons r0
  obtain ⟨rfl, rfl, rfl⟩ := trodAll_nil r1
  obtain rfl : args = #[v0, v1] := by cases args; simp_all
  obtain ⟨rfl, rfl⟩ := trodVars_none hV
  clear hA0
  obtain ⟨A, cap, L, rfl, hcap, hcm, hR, hd⟩ := open_raws (hval 0 42 v0 rfl rfl) h0
  obtain ⟨l, rfl, rfl, rfl⟩ := open_bool Tryd.underlying4 (hval 1 4 v1 rfl rfl) h1
  have hL : L.length ≤ 140737488355328 := by
    rcases hd with ⟨-, rfl, -⟩ | ⟨elems, spare, rfl, hl⟩
    · exact Nat.zero_le _
    · have h1 := sized_slice hz (j := 0) (t := 42) (by rw [Tryd.params7]; rfl) rfl Tryd.underlying42
      have h2 : Tryd.prog.bytesOf 23 = 32 := by kernel_rfl
      have h3 := reachBytes_lt
      rw [h2, hl] at h1
      omega
  refine (codeWhole_walk L A cap l W hT hR hL).mono fun e W' ⟨he, hb⟩ => ?_
  subst he
  exact ⟨_, rfl, law_post hW0 rfl rfl (by kernel_rfl) (by kernel_rfl) hb⟩
theorem codeWhole_met (os : Os) : laidMet Tryd.prog Rows.codeWholeRow.laid ((laidWorld os).forCall (fun _ _ => 0) ⟨#[], #[.slice none 0 0, .bool false], []⟩).memory :=
  laidMet_of_run' 8 (by kernel_rfl) (by kernel_rfl)
theorem codeWhole_reads (os : Os) {H : Type} (enc : TypeId × Value → H) : ∃ places, DataW.whole enc Tryd.prog ((laidWorld os).forCall (fun _ _ => 0) ⟨#[], #[.slice none 0 0, .bool false], []⟩).memory Tryd.f7.params.toList Rows.codeWholeSpec.vars false (#[.slice none 0 0, .bool false] : Array Value).toList 8 = some ([.nil, .lit (.bool false)], [], places) :=
  ⟨[], by kernel_rfl⟩
set_option maxRecDepth 100000 in
theorem codeWhole_lifted (os : Os) (started : os.Started) (H : Type) (enc : TypeId × Value → H) (F : Stop.Interp) :
    ReturnsInHanded {} Tryd.checked os 7 .any ((OpenSpec.ofChange Rows.codeWholeSpec).preRow enc Tryd.prog Tryd.f7 Rows.codeWholeRow.domain false Rows.codeWholeRow.laid) (((OpenSpec.ofChange Rows.codeWholeSpec).at F).post enc Tryd.prog Tryd.f7 false true false false) := by
  obtain ⟨places, hx⟩ := codeWhole_reads os enc
  refine returnsInHanded_of_row (C := Tryd.checked) (s := OpenSpec.ofChange Rows.codeWholeSpec) ownP started (by kernel_rfl) Tryd.func7
    (witness_row_at (enc := enc) (C := Tryd.checked) false (laidWorld os) #[.slice none 0 0, .bool false] rfl (by kernel_rfl) (by kernel_rfl) (by kernel_rfl)
      (OpenSpec.preRow_of_cond 8 hx (by kernel_rfl) (fun k hk => by cases hk) (by kernel_rfl) (codeWhole_met os))) ?_
  intro W base args ds gs before hval hW _ _ hreach hL _ _
  exact codeWhole_contract H enc W base args ds gs before hval hW hL hreach
theorem codeWhole_said : Rows.CodeWholeSaid :=
  OpenClaim.holds_of_cond 7 Tryd.f7 rfl rfl rfl rfl rfl rfl rfl ⟨rfl, rfl, rfl, rfl, rfl⟩ rfl rfl rfl rfl rfl (by kernel_rfl) Tryd.func7 (by kernel_rfl)
    (of_decide_eq_true (by kernel_rfl)) (by unfold Func.isWrapper; first | (rw [if_pos (by decide +kernel)]; kernel_rfl) | (rw [if_neg (by decide +kernel)]; exact ⟨rfl, rfl⟩))
    (fun os started H enc _ F => by rw [OpenClaim.pre_eq_preRow]; exact codeWhole_lifted os started H enc F)
theorem codeWhole_plain (f : FuncId) (fn : Func) (hf : Tryd.pinned.checked.prog.funcNamed "bolthole/boltholekeep.CodeWhole" = some f) (hfn : Tryd.pinned.checked.prog.funcs[f]? = some fn) :
    false = Tryd.pinned.checked.prog.looks [] ∧ ∀ (j : Nat) t, fn.params[j]? = some t → Tryd.pinned.checked.prog.wantsStandIn t = false := by
  obtain rfl : f = 7 := Option.some.inj ((show Tryd.prog.funcNamed "bolthole/boltholekeep.CodeWhole" = some 7 by kernel_rfl).symm.trans hf) |>.symm
  obtain rfl : fn = Tryd.f7 := (Option.some.inj (Tryd.func7.symm.trans hfn)).symm
  refine ⟨by kernel_rfl, fun j t ht => ?_⟩
  have hall : ∀ t ∈ Tryd.f7.params, Tryd.prog.wantsStandIn t = false := by
    rw [Tryd.params7]
    intro t ht
    simp only [List.mem_toArray, List.mem_cons, List.not_mem_nil, or_false] at ht
    rcases ht with rfl | rfl
    all_goals kernel_rfl
  exact hall t (Array.mem_of_getElem? ht)
theorem codeWhole_card : Rows.CodeWholeCardSaid :=
  Claim7.holds_tied_plain_at .later [] _ _ _ _ codeWhole_said (fun _ h => by cases h) (by kernel_rfl) (fun _ h => by cases h) codeWhole_row_tie rfl ⟨rfl, rfl⟩ (by kernel_rfl) rfl codeWhole_plain (by kernel_rfl)
end Go.Proofs.YtmcaplgddlbdoaaDoor
