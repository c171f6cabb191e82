/- The given statement on TallyBack, proved: a tally is read as it is written. No condition of its own. -/
import Derived.Test.YtcafhoobeggmeaaDoorTlB
import Derived.Test.YtcafhoobeggmeaaDoorRegX
import Derived.Deep.DeepCutAuto
import Derived.Deep.CutBlock
import Derived.Deep.LoopGhost
import Derived.Deep.QuietTactic
import Derived.BigQuiet
import Derived.IntWalk
import Derived.WalkLawsBesides
namespace Go.Proofs.YtcafhoobeggmeaaDoor
open Go.ChangeShapes Go.WideShapes Go.ChangeAt Go.RowKit Go.Joins
open Go.ChangeMaps (open_string)
set_option maxHeartbeats 8000000 in
set_option maxRecDepth 100000 in
theorem tallyBack_walk (l : List RawI) (A : Option Addr) (c : Nat) (w : World) (hT : TlyW w) (hR : RdR w w.heap.size A l) (_hl : l.length ≤ 140737488355328) (_hc : l.length ≤ c) :
    Calls Tryd.prog 3 #[.slice A l.length c] w fun e w' => e = .returned (.bool true) ∧ Below w.heap.size w w' := by
  have HW := Lib.hid hT
  have HR := Lib.hid hR
  have HRW := Lib.hid hR.1
  obtain ⟨N, hN⟩ : ∃ z, l.length = z := ⟨_, rfl⟩
  rw [hN] at _hl _hc ⊢
  have HN := Lib.hid hN
  clear hT hR hN
  go_enter Tryd.func3, Tryd.ntmps3
  go_wp2_with fail
  go_loopg [5, 3, 4] 60 (fun gk s5 s3 s4 wr => ∃ (i : Nat) (S : ByteArray) (B : Option Addr) (d : Nat), i ≤ N ∧ i ≤ 60 ∧ s5 = .int .i64 i ∧ s3 = .string S ∧ s4 = .slice B i d ∧ Hid (S.data.toList = ((l.take i).map mkE).flatMap fmtE) ∧ Hid (Below w.heap.size w wr) ∧ Hid (wr.ownsRow w.heap.size 28 3 (.slice B i d) i (edL ((l.take i).map mkE))) ∧ 60 - i ≤ gk)
  case atStart => exact ⟨0, ⟨#[]⟩, none, 0, Nat.zero_le _, Nat.zero_le _, rfl, rfl, rfl, Lib.hid rfl, Lib.hid (Below.refl _ _), Lib.hid (World.ownsRow_nil _ _ _ _), Nat.le_refl _⟩
  case round =>
    obtain ⟨i, S, B, d, hi, hi6, rfl, rfl, rfl, HS, HB, HO, hgk⟩ := hrel
    by_cases hend : i < N ∧ i < 60
    · obtain ⟨hlt, hlt6⟩ := hend
      have hltI : (i : Int) < (N : Int) := by omega
      have hltJ : (i : Int) < 60 := by omega
      have hx : l[i]? = some (l[i]'(by have := HN.out; omega)) := List.getElem?_eq_getElem _
      generalize l[i]'(by have := HN.out; omega) = x at hx
      obtain ⟨b, o, hA, hb, c1, c2, c3⟩ := raw_at (HR.out.below HB.out) hx
      obtain ⟨-, x1, x2, x3⟩ := HRW.out x (List.mem_of_getElem? hx)
      have HP1 := Lib.hid (fun W => picked_any x.a 3000 W x1.1 x1.2 (by decide) (by decide))
      have HP2 := Lib.hid (fun W => picked_any x.b 3000 W x2.1 x2.2 (by decide) (by decide))
      have HP3 := Lib.hid (fun W => picked_any x.c 100000 W x3.1 x3.2 (by decide) (by decide))
      have hok := mkE_ok x
      obtain ⟨ea, hea⟩ : ∃ z, pickL x.a 3000 = z := ⟨_, rfl⟩
      obtain ⟨eb, heb⟩ : ∃ z, pickL x.b 3000 = z := ⟨_, rfl⟩
      obtain ⟨ec, hec⟩ : ∃ z, pickL x.c 100000 = z := ⟨_, rfl⟩
      obtain ⟨xa, hxa⟩ : ∃ z, x.a = z := ⟨_, rfl⟩
      obtain ⟨xb, hxb⟩ : ∃ z, x.b = z := ⟨_, rfl⟩
      obtain ⟨xc, hxc⟩ : ∃ z, x.c = z := ⟨_, rfl⟩
      have hmk : mkE x = ⟨ea, eb, ec⟩ := by unfold mkE; rw [hea, heb, hec]
      rw [hea, hxa] at HP1
      rw [heb, hxb] at HP2
      rw [hec, hxc] at HP3
      rw [hxa] at c1
      rw [hxb] at c2
      rw [hxc] at c3
      have HTK : Hid ((l.take (i + 1)).map mkE = (l.take i).map mkE ++ [⟨ea, eb, ec⟩]) := Lib.hid (by rw [List.take_add_one, hx, List.map_append, ← hmk]; rfl)
      have HOK : Hid (EdgOk ⟨ea, eb, ec⟩) := Lib.hid (by rw [← hmk]; exact hok)
      have hbr : b < wr.heap.size := Nat.lt_of_lt_of_le hb HB.out.size
      subst hA
      clear hx x1 x2 x3 hok hea heb hec hxa hxb hxc hmk hb
      go_upto_region 6 with fail
      go_cut [6] (fun s6 wx => ∃ z : Nat, s6 = .pointer (some ⟨z, 0, none⟩) ∧ Hid (Blk wx z 28 [.int .i64 ea, .int .i64 eb, .int .i64 ec]) ∧ Hid (Below wr.heap.size wr wx) ∧ wr.heap.size ≤ z)
      case first =>
        refine wp_region_W (fun w' => w'.cell? ⟨b, o + i * 4 + 1, none⟩ = some (.int .i64 xa) ∧ w'.cell? ⟨b, o + i * 4 + 2, none⟩ = some (.int .i64 xb) ∧ w'.cell? ⟨b, o + i * 4 + 3, none⟩ = some (.int .i64 xc)) 21 (by kernel_rfl) (by (try dsimp only); go_keep) (fun hHeld => ?_)
        have hbD : Below wr.heap.size wr wr.drew := (Below.refl _ _).drew
        refine wpW_take 0 (v := ?_) rfl (by kernel_rfl) (by kernel_rfl) (by kernel_rfl) (by kernel_rfl) (fun _ _ _ h => h) (Or.inl ⟨by rfl, ?_⟩) hHeld ?_
        rotate_left
        · intro w hSw
          try dsimp only at hSw
          go_simp
          try with_reducible rfl
        try simp only [Act.put, List.setIfInBounds_toArray, List.set_cons_zero, List.set_cons_succ]
        refine wpW_take 1 (v := ?_) rfl (by kernel_rfl) (by kernel_rfl) (by kernel_rfl) (by kernel_rfl) (fun _ _ _ h => h) (Or.inl ⟨by rfl, ?_⟩) hHeld ?_
        rotate_left
        · intro w hSw
          try dsimp only at hSw
          go_simp
          try with_reducible rfl
        try simp only [Act.put, List.setIfInBounds_toArray, List.set_cons_zero, List.set_cons_succ]
        refine wpW_take 2 (v := ?_) rfl (by kernel_rfl) (by kernel_rfl) (by kernel_rfl) (by kernel_rfl) (fun _ _ _ h => h) (Or.inl ⟨by rfl, ?_⟩) hHeld ?_
        rotate_left
        · intro w hSw
          try dsimp only at hSw
          go_simp
          try with_reducible rfl
        try simp only [Act.put, List.setIfInBounds_toArray, List.set_cons_zero, List.set_cons_succ]
        refine wpW_take 3 (v := ?_) rfl (by kernel_rfl) (by kernel_rfl) (by kernel_rfl) (by kernel_rfl) (fun _ _ _ h => h) (Or.inl ⟨by rfl, ?_⟩) hHeld ?_
        rotate_left
        · intro w hSw
          try dsimp only at hSw
          go_simp
          try with_reducible rfl
        try simp only [Act.put, List.setIfInBounds_toArray, List.set_cons_zero, List.set_cons_succ]
        refine wpW_take 4 (v := ?_) rfl (by kernel_rfl) (by kernel_rfl) (by kernel_rfl) (by kernel_rfl) (fun _ _ _ h => h) (Or.inl ⟨by rfl, ?_⟩) hHeld ?_
        rotate_left
        · intro w hSw
          try dsimp only at hSw
          go_simp
          try with_reducible rfl
        try simp only [Act.put, List.setIfInBounds_toArray, List.set_cons_zero, List.set_cons_succ]
        refine wpW_take 6 (v := ?_) rfl (by kernel_rfl) (by kernel_rfl) (by kernel_rfl) (by kernel_rfl) (fun _ _ _ h => h) (Or.inl ⟨by rfl, ?_⟩) hHeld ?_
        rotate_left
        · intro w hSw
          try dsimp only at hSw
          go_simp
          try with_reducible rfl
        try simp only [Act.put, List.setIfInBounds_toArray, List.set_cons_zero, List.set_cons_succ]
        refine wpW_take 7 (v := ?_) rfl (by kernel_rfl) (by kernel_rfl) (by kernel_rfl) (by kernel_rfl) (fun _ _ _ h => h) (Or.inl ⟨by rfl, ?_⟩) hHeld ?_
        rotate_left
        · intro w hSw
          try dsimp only at hSw
          go_simp
          try with_reducible rfl
        try simp only [Act.put, List.setIfInBounds_toArray, List.set_cons_zero, List.set_cons_succ]
        refine wpW_take 8 (v := ?_) rfl (by kernel_rfl) (by kernel_rfl) (by kernel_rfl) (by kernel_rfl) (fun _ _ _ h => h) (Or.inl ⟨by rfl, ?_⟩) hHeld ?_
        rotate_left
        · intro w hSw
          try dsimp only at hSw
          go_simp
          try with_reducible rfl
        try simp only [Act.put, List.setIfInBounds_toArray, List.set_cons_zero, List.set_cons_succ]
        refine wpW_take 9 (v := ?_) rfl (by kernel_rfl) (by kernel_rfl) (by kernel_rfl) (by kernel_rfl) (fun _ _ _ h => h) (Or.inl ⟨by rfl, ?_⟩) hHeld ?_
        rotate_left
        · intro w hSw
          try dsimp only at hSw
          go_simp
          try with_reducible rfl
        try simp only [Act.put, List.setIfInBounds_toArray, List.set_cons_zero, List.set_cons_succ]
        refine wpW_take 10 (v := ?_) rfl (by kernel_rfl) (by kernel_rfl) (by kernel_rfl) (by kernel_rfl) (fun _ _ _ h => h) (Or.inl ⟨by rfl, ?_⟩) hHeld ?_
        rotate_left
        · intro w hSw
          try dsimp only at hSw
          go_simp
          try with_reducible rfl
        try simp only [Act.put, List.setIfInBounds_toArray, List.set_cons_zero, List.set_cons_succ]
        refine wpW_take 12 (v := ?_) rfl (by kernel_rfl) (by kernel_rfl) (by kernel_rfl) (by kernel_rfl) (fun _ _ _ h => h) (Or.inl ⟨by rfl, ?_⟩) hHeld ?_
        rotate_left
        · intro w hSw
          try dsimp only at hSw
          go_simp
          try with_reducible rfl
        try simp only [Act.put, List.setIfInBounds_toArray, List.set_cons_zero, List.set_cons_succ]
        refine wpW_take 13 (v := ?_) rfl (by kernel_rfl) (by kernel_rfl) (by kernel_rfl) (by kernel_rfl) (fun _ _ _ h => h) (Or.inl ⟨by rfl, ?_⟩) hHeld ?_
        rotate_left
        · intro w hSw
          try dsimp only at hSw
          go_simp
          try with_reducible rfl
        try simp only [Act.put, List.setIfInBounds_toArray, List.set_cons_zero, List.set_cons_succ]
        refine wpW_take 14 (v := ?_) rfl (by kernel_rfl) (by kernel_rfl) (by kernel_rfl) (by kernel_rfl) (fun _ _ _ h => h) (Or.inl ⟨by rfl, ?_⟩) hHeld ?_
        rotate_left
        · intro w hSw
          try dsimp only at hSw
          go_simp
          try with_reducible rfl
        try simp only [Act.put, List.setIfInBounds_toArray, List.set_cons_zero, List.set_cons_succ]
        refine wpW_take 15 (v := ?_) rfl (by kernel_rfl) (by kernel_rfl) (by kernel_rfl) (by kernel_rfl) (fun _ _ _ h => h) (Or.inl ⟨by rfl, ?_⟩) hHeld ?_
        rotate_left
        · intro w hSw
          try dsimp only at hSw
          go_simp
          try with_reducible rfl
        try simp only [Act.put, List.setIfInBounds_toArray, List.set_cons_zero, List.set_cons_succ]
        refine wpW_take 16 (v := ?_) rfl (by kernel_rfl) (by kernel_rfl) (by kernel_rfl) (by kernel_rfl) (fun _ _ _ h => h) (Or.inl ⟨by rfl, ?_⟩) hHeld ?_
        rotate_left
        · intro w hSw
          try dsimp only at hSw
          go_simp
          try with_reducible rfl
        try simp only [Act.put, List.setIfInBounds_toArray, List.set_cons_zero, List.set_cons_succ]
        refine wpW_all [5, 19] (by kernel_rfl) (by simp) ?_
        refine AllW.cons (i := 5) rfl (fun K hK => ?_) ?_
        · skip
          go_simp
          refine (HP1.out _).mono ?_
          rintro e wq ⟨rfl, rfl⟩
          refine hK.out _ _ (by (try dsimp only); go_keep) (fun hHeld => ?_)
          clear hK K
          try simp only [Act.put, List.setIfInBounds_toArray, List.set_cons_zero, List.set_cons_succ]
          refine wpW_all [11, 19] (by kernel_rfl) (by simp) ?_
          refine AllW.cons (i := 11) rfl (fun K hK => ?_) ?_
          · skip
            go_simp
            refine (HP2.out _).mono ?_
            rintro e wq ⟨rfl, rfl⟩
            refine hK.out _ _ (by (try dsimp only); go_keep) (fun hHeld => ?_)
            clear hK K
            try simp only [Act.put, List.setIfInBounds_toArray, List.set_cons_zero, List.set_cons_succ]
            refine wpW_all [17, 19] (by kernel_rfl) (by simp) ?_
            refine AllW.cons (i := 17) rfl (fun K hK => ?_) ?_
            · skip
              go_simp
              refine (HP3.out _).mono ?_
              rintro e wq ⟨rfl, rfl⟩
              refine hK.out _ _ (by (try dsimp only); go_keep) (fun hHeld => ?_)
              clear hK K
              try simp only [Act.put, List.setIfInBounds_toArray, List.set_cons_zero, List.set_cons_succ]
              refine wpW_take 18 (v := ?_) rfl (by kernel_rfl) (by kernel_rfl) (by kernel_rfl) (by kernel_rfl) (fun _ _ _ h => h) (Or.inl ⟨by rfl, ?_⟩) hHeld ?_
              rotate_left
              · intro w hSw
                try dsimp only at hSw
                go_simp
                try with_reducible rfl
              try simp only [Act.put, List.setIfInBounds_toArray, List.set_cons_zero, List.set_cons_succ]
              refine wpW_one 19 rfl (by kernel_rfl) (fun K hK => ?_)
              go_simp
              have zb0 : Blk (wr.alloc (.cells #[.int .i64 0, .int .i64 0, .int .i64 0] 28)).drew (wr.heap.size) 28 [.int .i64 0, .int .i64 0, .int .i64 0] := Blk.drew (Blk.new wr _ _)
              have hbA : Below wr.heap.size wr (wr.alloc (.cells #[.int .i64 0, .int .i64 0, .int .i64 0] 28)).drew := ((Below.refl _ _).alloc (Nat.le_refl _) _).drew
              refine hK.out _ _ (by (try dsimp only); go_keep) (fun hHeld => ?_)
              clear hK K
              try simp only [Act.put, List.setIfInBounds_toArray, List.set_cons_zero, List.set_cons_succ]
              refine wpW_one 20 rfl (by kernel_rfl) (fun K hK => ?_)
              go_simp
              refine hK.out _ _ (by (try dsimp only); go_keep) (fun hHeld => ?_)
              clear hK K
              try simp only [Act.put, List.setIfInBounds_toArray, List.set_cons_zero, List.set_cons_succ]
              refine wpW_done (by kernel_rfl) ?_ _
              go_wp2
              go_meet
              exact ⟨_, rfl, Lib.hid (Blk.drew (Blk.new wr _ _)), Lib.hid ((Below.refl wr.heap.size wr).alloc (Nat.le_refl _) (.cells #[.int .i64 ea, .int .i64 eb, .int .i64 ec] 28)).drew, Nat.le_refl _⟩
            refine AllW.cons (i := 19) rfl (fun K hK => ?_) AllW.nil
            go_simp
            have zb0 : Blk (wr.alloc (.cells #[.int .i64 0, .int .i64 0, .int .i64 0] 28)).drew (wr.heap.size) 28 [.int .i64 0, .int .i64 0, .int .i64 0] := Blk.drew (Blk.new wr _ _)
            have hbA : Below wr.heap.size wr (wr.alloc (.cells #[.int .i64 0, .int .i64 0, .int .i64 0] 28)).drew := ((Below.refl _ _).alloc (Nat.le_refl _) _).drew
            refine hK.out _ _ (by (try dsimp only); go_keep) (fun hHeld => ?_)
            clear hK K
            try simp only [Act.put, List.setIfInBounds_toArray, List.set_cons_zero, List.set_cons_succ]
            refine wpW_one 17 rfl (by kernel_rfl) (fun K hK => ?_)
            go_simp
            refine (HP3.out _).mono ?_
            rintro e wq ⟨rfl, rfl⟩
            refine hK.out _ _ (by (try dsimp only); go_keep) (fun hHeld => ?_)
            clear hK K
            try simp only [Act.put, List.setIfInBounds_toArray, List.set_cons_zero, List.set_cons_succ]
            refine wpW_take 18 (v := ?_) rfl (by kernel_rfl) (by kernel_rfl) (by kernel_rfl) (by kernel_rfl) (fun _ _ _ h => h) (Or.inl ⟨by rfl, ?_⟩) hHeld ?_
            rotate_left
            · intro w hSw
              try dsimp only at hSw
              go_simp
              try with_reducible rfl
            try simp only [Act.put, List.setIfInBounds_toArray, List.set_cons_zero, List.set_cons_succ]
            refine wpW_one 20 rfl (by kernel_rfl) (fun K hK => ?_)
            go_simp
            refine hK.out _ _ (by (try dsimp only); go_keep) (fun hHeld => ?_)
            clear hK K
            try simp only [Act.put, List.setIfInBounds_toArray, List.set_cons_zero, List.set_cons_succ]
            refine wpW_done (by kernel_rfl) ?_ _
            go_wp2
            go_meet
            exact ⟨_, rfl, Lib.hid (Blk.drew (Blk.new wr _ _)), Lib.hid ((Below.refl wr.heap.size wr).alloc (Nat.le_refl _) (.cells #[.int .i64 ea, .int .i64 eb, .int .i64 ec] 28)).drew, Nat.le_refl _⟩
          refine AllW.cons (i := 19) rfl (fun K hK => ?_) AllW.nil
          go_simp
          have zb0 : Blk (wr.alloc (.cells #[.int .i64 0, .int .i64 0, .int .i64 0] 28)).drew (wr.heap.size) 28 [.int .i64 0, .int .i64 0, .int .i64 0] := Blk.drew (Blk.new wr _ _)
          have hbA : Below wr.heap.size wr (wr.alloc (.cells #[.int .i64 0, .int .i64 0, .int .i64 0] 28)).drew := ((Below.refl _ _).alloc (Nat.le_refl _) _).drew
          refine hK.out _ _ (by (try dsimp only); go_keep) (fun hHeld => ?_)
          clear hK K
          try simp only [Act.put, List.setIfInBounds_toArray, List.set_cons_zero, List.set_cons_succ]
          refine wpW_one 11 rfl (by kernel_rfl) (fun K hK => ?_)
          go_simp
          refine (HP2.out _).mono ?_
          rintro e wq ⟨rfl, rfl⟩
          refine hK.out _ _ (by (try dsimp only); go_keep) (fun hHeld => ?_)
          clear hK K
          try simp only [Act.put, List.setIfInBounds_toArray, List.set_cons_zero, List.set_cons_succ]
          refine wpW_one 17 rfl (by kernel_rfl) (fun K hK => ?_)
          go_simp
          refine (HP3.out _).mono ?_
          rintro e wq ⟨rfl, rfl⟩
          refine hK.out _ _ (by (try dsimp only); go_keep) (fun hHeld => ?_)
          clear hK K
          try simp only [Act.put, List.setIfInBounds_toArray, List.set_cons_zero, List.set_cons_succ]
          refine wpW_take 18 (v := ?_) rfl (by kernel_rfl) (by kernel_rfl) (by kernel_rfl) (by kernel_rfl) (fun _ _ _ h => h) (Or.inl ⟨by rfl, ?_⟩) hHeld ?_
          rotate_left
          · intro w hSw
            try dsimp only at hSw
            go_simp
            try with_reducible rfl
          try simp only [Act.put, List.setIfInBounds_toArray, List.set_cons_zero, List.set_cons_succ]
          refine wpW_one 20 rfl (by kernel_rfl) (fun K hK => ?_)
          go_simp
          refine hK.out _ _ (by (try dsimp only); go_keep) (fun hHeld => ?_)
          clear hK K
          try simp only [Act.put, List.setIfInBounds_toArray, List.set_cons_zero, List.set_cons_succ]
          refine wpW_done (by kernel_rfl) ?_ _
          go_wp2
          go_meet
          exact ⟨_, rfl, Lib.hid (Blk.drew (Blk.new wr _ _)), Lib.hid ((Below.refl wr.heap.size wr).alloc (Nat.le_refl _) (.cells #[.int .i64 ea, .int .i64 eb, .int .i64 ec] 28)).drew, Nat.le_refl _⟩
        refine AllW.cons (i := 19) rfl (fun K hK => ?_) AllW.nil
        go_simp
        have zb0 : Blk (wr.alloc (.cells #[.int .i64 0, .int .i64 0, .int .i64 0] 28)).drew (wr.heap.size) 28 [.int .i64 0, .int .i64 0, .int .i64 0] := Blk.drew (Blk.new wr _ _)
        have hbA : Below wr.heap.size wr (wr.alloc (.cells #[.int .i64 0, .int .i64 0, .int .i64 0] 28)).drew := ((Below.refl _ _).alloc (Nat.le_refl _) _).drew
        refine hK.out _ _ (by (try dsimp only); go_keep) (fun hHeld => ?_)
        clear hK K
        try simp only [Act.put, List.setIfInBounds_toArray, List.set_cons_zero, List.set_cons_succ]
        refine wpW_one 5 rfl (by kernel_rfl) (fun K hK => ?_)
        go_simp
        refine (HP1.out _).mono ?_
        rintro e wq ⟨rfl, rfl⟩
        refine hK.out _ _ (by (try dsimp only); go_keep) (fun hHeld => ?_)
        clear hK K
        try simp only [Act.put, List.setIfInBounds_toArray, List.set_cons_zero, List.set_cons_succ]
        refine wpW_one 11 rfl (by kernel_rfl) (fun K hK => ?_)
        go_simp
        refine (HP2.out _).mono ?_
        rintro e wq ⟨rfl, rfl⟩
        refine hK.out _ _ (by (try dsimp only); go_keep) (fun hHeld => ?_)
        clear hK K
        try simp only [Act.put, List.setIfInBounds_toArray, List.set_cons_zero, List.set_cons_succ]
        refine wpW_one 17 rfl (by kernel_rfl) (fun K hK => ?_)
        go_simp
        refine (HP3.out _).mono ?_
        rintro e wq ⟨rfl, rfl⟩
        refine hK.out _ _ (by (try dsimp only); go_keep) (fun hHeld => ?_)
        clear hK K
        try simp only [Act.put, List.setIfInBounds_toArray, List.set_cons_zero, List.set_cons_succ]
        refine wpW_take 18 (v := ?_) rfl (by kernel_rfl) (by kernel_rfl) (by kernel_rfl) (by kernel_rfl) (fun _ _ _ h => h) (Or.inl ⟨by rfl, ?_⟩) hHeld ?_
        rotate_left
        · intro w hSw
          try dsimp only at hSw
          go_simp
          try with_reducible rfl
        try simp only [Act.put, List.setIfInBounds_toArray, List.set_cons_zero, List.set_cons_succ]
        refine wpW_one 20 rfl (by kernel_rfl) (fun K hK => ?_)
        go_simp
        refine hK.out _ _ (by (try dsimp only); go_keep) (fun hHeld => ?_)
        clear hK K
        try simp only [Act.put, List.setIfInBounds_toArray, List.set_cons_zero, List.set_cons_succ]
        refine wpW_done (by kernel_rfl) ?_ _
        go_wp2
        go_meet
        exact ⟨_, rfl, Lib.hid (Blk.drew (Blk.new wr _ _)), Lib.hid ((Below.refl wr.heap.size wr).alloc (Nat.le_refl _) (.cells #[.int .i64 ea, .int .i64 eb, .int .i64 ec] 28)).drew, Nat.le_refl _⟩
      case rest =>
        obtain ⟨z, rfl, HZ, HBZ, hzge⟩ := hcut
        rename World => wx
        have z0 := HZ.out.cell 0 rfl
        have z1 := HZ.out.cell 1 rfl
        have z2 := HZ.out.cell 2 rfl
        have zl := HZ.out.lt
        have HOX := Lib.hid (own_keep HO.out HBZ.out)
        have HBX := Lib.hid (HB.out.trans (HBZ.out.mono HB.out.size))
        clear c1 c2 c3 hbr
        go_upto_region 7 with fail
        go_wp2_with (first | (at_builtin; refine app_one rfl _ _ 23 28 3 24 _ Tryd.underlying23 infoEdg rfl (by decide) rfl w.heap.size _ i _ rfl (World.ownsRow.alloc HOX.out _) wx.heap.size 1 rfl [.int .i64 ea, .int .i64 eb, .int .i64 ec] 28 (0, 0) (heap_alloc_new wx _) rfl (by simp [Value.oneCell']) (by omega) (by omega) (by have := HBX.out.size; simp; omega) (wx.heap.size + 1) (by simp) ?a1))
        case a1 =>
          intro g9 d9 w9 ho9 hg9 _ _
          have hbA : Below w.heap.size w (wx.alloc (.cells #[.int .i64 ea, .int .i64 eb, .int .i64 ec] 28)) := HBX.out.alloc HBX.out.size _
          have HB9 := Lib.hid (hbA.grown hg9 hbA.size (fun q e => (World.ownsRow.lt HOX.out q e).1))
          have HO9 : Hid (w9.ownsRow w.heap.size 28 3 (.slice (some ⟨g9, 0, none⟩) (i + 1) d9) (i + 1) (edL ((l.take (i + 1)).map mkE))) := Lib.hid (by rw [HTK.out, List.map_take]; unfold edL at ho9 ⊢; rw [List.flatMap_append]; exact ho9)
          have hzn : (Value.slice B i d).ownBlock ≠ some z := fun e => by
            have h1 := (World.ownsRow.lt HO.out z e).2
            omega
          have hz9 : Blk w9 z 28 [.int .i64 ea, .int .i64 eb, .int .i64 ec] := (HZ.out.alloc _).gb hg9 hzn
          have HZ9 := Lib.hid hz9
          have k0 := hz9.cell 0 rfl
          have k1 := hz9.cell 1 rfl
          have k2 := hz9.cell 2 rfl
          have kl := hz9.lt
          have HW9 := Lib.hid (HW.out.below HB9.out)
          obtain ⟨I1, hI1⟩ : ∃ z : ByteArray, ⟨(Lib.itoa ea).toArray⟩ = z := ⟨_, rfl⟩
          obtain ⟨I2, hI2⟩ : ∃ z : ByteArray, ⟨(Lib.itoa eb).toArray⟩ = z := ⟨_, rfl⟩
          obtain ⟨I3, hI3⟩ : ∃ z : ByteArray, ⟨(Lib.itoa ec).toArray⟩ = z := ⟨_, rfl⟩
          have HI1 : Hid (∀ W, Below w9.heap.size w9 W → Calls Tryd.prog 10 #[.int .i64 ea] W fun e w' => e = .returned (.string I1) ∧ Below W.heap.size W w') := Lib.hid fun W hW => by
            have h := Sh.strconv_Itoa ea (by have := HOK.out.a.1; simp only at this; omega) (by have := HOK.out.a.2; simp only at this; omega) W (HW9.out.below hW).tab
            rw [hI1] at h
            exact h.mono fun e w' ⟨he, k, os, hw⟩ => ⟨he, by rw [hw]; exact Go.Lib.below_grow _ _ (Nat.le_refl _) k os⟩
          have HI2 : Hid (∀ W, Below w9.heap.size w9 W → Calls Tryd.prog 10 #[.int .i64 eb] W fun e w' => e = .returned (.string I2) ∧ Below W.heap.size W w') := Lib.hid fun W hW => by
            have h := Sh.strconv_Itoa eb (by have := HOK.out.b.1; simp only at this; omega) (by have := HOK.out.b.2; simp only at this; omega) W (HW9.out.below hW).tab
            rw [hI2] at h
            exact h.mono fun e w' ⟨he, k, os, hw⟩ => ⟨he, by rw [hw]; exact Go.Lib.below_grow _ _ (Nat.le_refl _) k os⟩
          have HI3 : Hid (∀ W, Below w9.heap.size w9 W → Calls Tryd.prog 10 #[.int .i64 ec] W fun e w' => e = .returned (.string I3) ∧ Below W.heap.size W w') := Lib.hid fun W hW => by
            have h := Sh.strconv_Itoa ec (by have := HOK.out.c.1; simp only at this; omega) (by have := HOK.out.c.2; simp only at this; omega) W (HW9.out.below hW).tab
            rw [hI3] at h
            exact h.mono fun e w' ⟨he, k, os, hw⟩ => ⟨he, by rw [hw]; exact Go.Lib.below_grow _ _ (Nat.le_refl _) k os⟩
          have HS9 : Hid ((S ++ (I1 ++ ⟨#[32]⟩ ++ I2 ++ ⟨#[32]⟩ ++ I3 ++ ⟨#[10]⟩)).data.toList = ((l.take (i + 1)).map mkE).flatMap fmtE) := Lib.hid (by
            rw [fmt_bytes S I1 I2 I3 ⟨ea, eb, ec⟩ (by rw [← hI1]) (by rw [← hI2]) (by rw [← hI3]), HTK.out, List.flatMap_append, HS.out]
            simp)
          have n1 : I1.size ≤ 10 := by rw [← bt_len, ← hI1]; exact itoa_le HOK.out.a
          have n2 : I2.size ≤ 10 := by rw [← bt_len, ← hI2]; exact itoa_le HOK.out.b
          have n3 : I3.size ≤ 10 := by rw [← bt_len, ← hI3]; exact itoa_le HOK.out.c
          have nS : S.size ≤ 1980 := by
            have h := (fmt_len ((l.take i).map mkE) (fun e he => by obtain ⟨x, -, rfl⟩ := List.mem_map.1 he; exact mkE_ok x)).1
            rw [← HS.out, bt_len, List.length_map, List.length_take] at h
            omega
          have q1 : ¬ 9223372036854775807 < I1.size + 1 := by omega
          have q2 : ¬ 9223372036854775807 < I1.size + 1 + I2.size := by omega
          have q3 : ¬ 9223372036854775807 < I1.size + 1 + I2.size + 1 := by omega
          have q4 : ¬ 9223372036854775807 < I1.size + 1 + I2.size + 1 + I3.size := by omega
          have q5 : ¬ 9223372036854775807 < I1.size + 1 + I2.size + 1 + I3.size + 1 := by omega
          have q6 : ¬ 9223372036854775807 < S.size + (I1.size + 1 + I2.size + 1 + I3.size + 1) := by omega
          clear ho9 hg9 hbA hzn hz9 z0 z1 z2 zl hI1 hI2 hI3 n1 n2 n3 nS
          go_upto_region 8 with fail
          have hbD : Below w9.heap.size w9 w9.drew := (Below.refl w9.heap.size w9).drew
          refine wp_region_W (fun w' => w'.cell? ⟨z, 0, none⟩ = some (.int .i64 ea) ∧ w'.cell? ⟨z, 1, none⟩ = some (.int .i64 eb) ∧ w'.cell? ⟨z, 2, none⟩ = some (.int .i64 ec)) 17 (by kernel_rfl) (by (try dsimp only); go_keep) (fun hHeld => ?_)
          refine wpW_take 0 (v := ?_) rfl (by kernel_rfl) (by kernel_rfl) (by kernel_rfl) (by kernel_rfl) (fun _ _ _ h => h) (Or.inl ⟨by rfl, ?_⟩) hHeld ?_
          rotate_left
          · intro w hSw
            try dsimp only at hSw
            go_simp
            try with_reducible rfl
          try simp only [Act.put, List.setIfInBounds_toArray, List.set_cons_zero, List.set_cons_succ]
          refine wpW_take 1 (v := ?_) rfl (by kernel_rfl) (by kernel_rfl) (by kernel_rfl) (by kernel_rfl) (fun _ _ _ h => h) (Or.inl ⟨by rfl, ?_⟩) hHeld ?_
          rotate_left
          · intro w hSw
            try dsimp only at hSw
            go_simp
            try with_reducible rfl
          try simp only [Act.put, List.setIfInBounds_toArray, List.set_cons_zero, List.set_cons_succ]
          refine wpW_take 2 (v := ?_) rfl (by kernel_rfl) (by kernel_rfl) (by kernel_rfl) (by kernel_rfl) (fun _ _ _ h => h) (Or.inl ⟨by rfl, ?_⟩) hHeld ?_
          rotate_left
          · intro w hSw
            try dsimp only at hSw
            go_simp
            try with_reducible rfl
          try simp only [Act.put, List.setIfInBounds_toArray, List.set_cons_zero, List.set_cons_succ]
          refine wpW_take 5 (v := ?_) rfl (by kernel_rfl) (by kernel_rfl) (by kernel_rfl) (by kernel_rfl) (fun _ _ _ h => h) (Or.inl ⟨by rfl, ?_⟩) hHeld ?_
          rotate_left
          · intro w hSw
            try dsimp only at hSw
            go_simp
            try with_reducible rfl
          try simp only [Act.put, List.setIfInBounds_toArray, List.set_cons_zero, List.set_cons_succ]
          refine wpW_take 6 (v := ?_) rfl (by kernel_rfl) (by kernel_rfl) (by kernel_rfl) (by kernel_rfl) (fun _ _ _ h => h) (Or.inl ⟨by rfl, ?_⟩) hHeld ?_
          rotate_left
          · intro w hSw
            try dsimp only at hSw
            go_simp
            try with_reducible rfl
          try simp only [Act.put, List.setIfInBounds_toArray, List.set_cons_zero, List.set_cons_succ]
          refine wpW_take 10 (v := ?_) rfl (by kernel_rfl) (by kernel_rfl) (by kernel_rfl) (by kernel_rfl) (fun _ _ _ h => h) (Or.inl ⟨by rfl, ?_⟩) hHeld ?_
          rotate_left
          · intro w hSw
            try dsimp only at hSw
            go_simp
            try with_reducible rfl
          try simp only [Act.put, List.setIfInBounds_toArray, List.set_cons_zero, List.set_cons_succ]
          refine wpW_take 11 (v := ?_) rfl (by kernel_rfl) (by kernel_rfl) (by kernel_rfl) (by kernel_rfl) (fun _ _ _ h => h) (Or.inl ⟨by rfl, ?_⟩) hHeld ?_
          rotate_left
          · intro w hSw
            try dsimp only at hSw
            go_simp
            try with_reducible rfl
          try simp only [Act.put, List.setIfInBounds_toArray, List.set_cons_zero, List.set_cons_succ]
          refine wpW_one 3 rfl (by kernel_rfl) (fun K hK => ?_)
          go_simp
          refine (HI1.out w9.drew hbD).mono ?_
          rintro e v1 ⟨rfl, hn0⟩
          have hb0 : Below w9.heap.size w9 v1 := hbD.trans (hn0.mono hbD.size)
          have y0_0 : v1.cell? ⟨z, 0, none⟩ = some (.int .i64 ea) := (hb0.cell (p := ⟨z, 0, none⟩) kl).trans k0
          have y0_1 : v1.cell? ⟨z, 1, none⟩ = some (.int .i64 eb) := (hb0.cell (p := ⟨z, 1, none⟩) kl).trans k1
          have y0_2 : v1.cell? ⟨z, 2, none⟩ = some (.int .i64 ec) := (hb0.cell (p := ⟨z, 2, none⟩) kl).trans k2
          refine hK.out _ _ (by (try dsimp only); exact ⟨y0_0, y0_1, y0_2⟩) (fun hHeld => ?_)
          clear hK K
          try simp only [Act.put, List.setIfInBounds_toArray, List.set_cons_zero, List.set_cons_succ]
          refine wpW_take 4 (v := ?_) rfl (by kernel_rfl) (by kernel_rfl) (by kernel_rfl) (by kernel_rfl) (fun _ _ _ h => h) (Or.inl ⟨by rfl, ?_⟩) hHeld ?_
          rotate_left
          · intro w hSw
            try dsimp only at hSw
            go_simp
            try with_reducible rfl
          try simp only [Act.put, List.setIfInBounds_toArray, List.set_cons_zero, List.set_cons_succ]
          refine wpW_one 7 rfl (by kernel_rfl) (fun K hK => ?_)
          go_simp
          refine (HI2.out v1 hb0).mono ?_
          rintro e v2 ⟨rfl, hn1⟩
          have hb1 : Below w9.heap.size w9 v2 := hb0.trans (hn1.mono hb0.size)
          have y1_0 : v2.cell? ⟨z, 0, none⟩ = some (.int .i64 ea) := (hb1.cell (p := ⟨z, 0, none⟩) kl).trans k0
          have y1_1 : v2.cell? ⟨z, 1, none⟩ = some (.int .i64 eb) := (hb1.cell (p := ⟨z, 1, none⟩) kl).trans k1
          have y1_2 : v2.cell? ⟨z, 2, none⟩ = some (.int .i64 ec) := (hb1.cell (p := ⟨z, 2, none⟩) kl).trans k2
          refine hK.out _ _ (by (try dsimp only); exact ⟨y1_0, y1_1, y1_2⟩) (fun hHeld => ?_)
          clear hK K
          try simp only [Act.put, List.setIfInBounds_toArray, List.set_cons_zero, List.set_cons_succ]
          refine wpW_take 8 (v := ?_) rfl (by kernel_rfl) (by kernel_rfl) (by kernel_rfl) (by kernel_rfl) (fun _ _ _ h => h) (Or.inl ⟨by rfl, ?_⟩) hHeld ?_
          rotate_left
          · intro w hSw
            try dsimp only at hSw
            go_simp
            try with_reducible rfl
          try simp only [Act.put, List.setIfInBounds_toArray, List.set_cons_zero, List.set_cons_succ]
          refine wpW_take 9 (v := ?_) rfl (by kernel_rfl) (by kernel_rfl) (by kernel_rfl) (by kernel_rfl) (fun _ _ _ h => h) (Or.inl ⟨by rfl, ?_⟩) hHeld ?_
          rotate_left
          · intro w hSw
            try dsimp only at hSw
            go_simp
            try with_reducible rfl
          try simp only [Act.put, List.setIfInBounds_toArray, List.set_cons_zero, List.set_cons_succ]
          refine wpW_one 12 rfl (by kernel_rfl) (fun K hK => ?_)
          go_simp
          refine (HI3.out v2 hb1).mono ?_
          rintro e v3 ⟨rfl, hn2⟩
          have hb2 : Below w9.heap.size w9 v3 := hb1.trans (hn2.mono hb1.size)
          have y2_0 : v3.cell? ⟨z, 0, none⟩ = some (.int .i64 ea) := (hb2.cell (p := ⟨z, 0, none⟩) kl).trans k0
          have y2_1 : v3.cell? ⟨z, 1, none⟩ = some (.int .i64 eb) := (hb2.cell (p := ⟨z, 1, none⟩) kl).trans k1
          have y2_2 : v3.cell? ⟨z, 2, none⟩ = some (.int .i64 ec) := (hb2.cell (p := ⟨z, 2, none⟩) kl).trans k2
          refine hK.out _ _ (by (try dsimp only); exact ⟨y2_0, y2_1, y2_2⟩) (fun hHeld => ?_)
          clear hK K
          try simp only [Act.put, List.setIfInBounds_toArray, List.set_cons_zero, List.set_cons_succ]
          refine wpW_take 13 (v := ?_) rfl (by kernel_rfl) (by kernel_rfl) (by kernel_rfl) (by kernel_rfl) (fun _ _ _ h => h) (Or.inl ⟨by rfl, ?_⟩) hHeld ?_
          rotate_left
          · intro w hSw
            try dsimp only at hSw
            go_simp
            try with_reducible rfl
          try simp only [Act.put, List.setIfInBounds_toArray, List.set_cons_zero, List.set_cons_succ]
          refine wpW_take 14 (v := ?_) rfl (by kernel_rfl) (by kernel_rfl) (by kernel_rfl) (by kernel_rfl) (fun _ _ _ h => h) (Or.inl ⟨by rfl, ?_⟩) hHeld ?_
          rotate_left
          · intro w hSw
            try dsimp only at hSw
            go_simp
            try with_reducible rfl
          try simp only [Act.put, List.setIfInBounds_toArray, List.set_cons_zero, List.set_cons_succ]
          refine wpW_take 15 (v := ?_) rfl (by kernel_rfl) (by kernel_rfl) (by kernel_rfl) (by kernel_rfl) (fun _ _ _ h => h) (Or.inl ⟨by rfl, ?_⟩) hHeld ?_
          rotate_left
          · intro w hSw
            try dsimp only at hSw
            go_simp
            try with_reducible rfl
          try simp only [Act.put, List.setIfInBounds_toArray, List.set_cons_zero, List.set_cons_succ]
          refine wpW_take 16 (v := ?_) rfl (by kernel_rfl) (by kernel_rfl) (by kernel_rfl) (by kernel_rfl) (fun _ _ _ h => h) (Or.inl ⟨by rfl, ?_⟩) hHeld ?_
          rotate_left
          · intro w hSw
            try dsimp only at hSw
            go_simp
            try with_reducible rfl
          try simp only [Act.put, List.setIfInBounds_toArray, List.set_cons_zero, List.set_cons_succ]
          refine wpW_done (by kernel_rfl) ?_ _
          have HBY := Lib.hid hb2
          obtain ⟨S2, hS2⟩ : ∃ z, S ++ (I1 ++ ⟨#[32]⟩ ++ I2 ++ ⟨#[32]⟩ ++ I3 ++ ⟨#[10]⟩) = z := ⟨_, rfl⟩
          rw [hS2] at HS9 ⊢
          have HOY := Lib.hid (own_keep HO9.out HBY.out)
          have HBY2 := Lib.hid (HB9.out.trans (HBY.out.mono HB9.out.size))
          clear hS2 k0 k1 k2 kl
          go_wp2_with fail
          go_roundg (60 - (i + 1))
          case measure => omega
          case rel => exact ⟨i + 1, S2, _, d9, by omega, by omega, (by go_num), rfl, rfl, HS9, HBY2, HOY, Nat.le_refl _⟩
    · have hq : ¬ (i : Int) < (N : Int) ∨ (i : Int) < (N : Int) ∧ ¬ (i : Int) < 60 := by omega
      have hall : ∀ e ∈ (l.take i).map mkE, EdgOk e := fun e he => by
        obtain ⟨x, -, rfl⟩ := List.mem_map.1 he
        exact mkE_ok x
      have hlen : ((l.take i).map mkE).length = i := by rw [List.length_map, List.length_take]; have := HN.out; omega
      have hfl := (fmt_len _ hall).1
      rw [hlen, ← HS.out, bt_len] at hfl
      have hrd := read_any S (by omega) wr (HW.out.below HB.out)
      rw [HS.out, readE_fmt _ hall (by omega)] at hrd
      have HRD := Lib.hid hrd
      have HLEN := Lib.hid hlen
      clear hrd hall hlen hend
      have key : True := trivial
      rcases hq with hq | ⟨hq1, hq2⟩
      · go_wp2_with fail
        refine HRD.out.mono ?_
        rintro e w5 ⟨hb5, D, dc, rfl, hod⟩
        rw [HLEN.out] at hod ⊢
        have HB5 := Lib.hid (HB.out.trans (hb5.mono HB.out.size))
        have HEQ := Lib.hid (eqEdg_same ((l.take i).map mkE) D B i dc d w5 (own_rd3 hod) (own_rd3 (own_keep HO.out hb5)) HLEN.out (by omega))
        clear hb5 hod HRD
        go_wp2_with fail
        refine HEQ.out.mono ?_
        rintro e w6 ⟨rfl, q, rfl⟩
        go_wp2_with fail
        go_ret
        exact ⟨by rfl, HB5.out.trans (show Below w.heap.size w5 (w5.drewN q) from ⟨rfl, rfl, rfl, Nat.le_refl _, fun _ _ => rfl⟩)⟩
      · go_wp2_with fail
        refine HRD.out.mono ?_
        rintro e w5 ⟨hb5, D, dc, rfl, hod⟩
        rw [HLEN.out] at hod ⊢
        have HB5 := Lib.hid (HB.out.trans (hb5.mono HB.out.size))
        have HEQ := Lib.hid (eqEdg_same ((l.take i).map mkE) D B i dc d w5 (own_rd3 hod) (own_rd3 (own_keep HO.out hb5)) HLEN.out (by omega))
        clear hb5 hod HRD
        go_wp2_with fail
        refine HEQ.out.mono ?_
        rintro e w6 ⟨rfl, q, rfl⟩
        go_wp2_with fail
        go_ret
        exact ⟨by rfl, HB5.out.trans (show Below w.heap.size w5 (w5.drewN q) from ⟨rfl, rfl, rfl, Nat.le_refl _, fun _ _ => rfl⟩)⟩
set_option maxRecDepth 100000 in
theorem tallyBack_contract (H : Type) (enc : TypeId × Value → H) (W : World) (base : Nat) (args : Array Value) (ds gs : List (DataW H)) (before : List MemPlace)
    (hval : ∀ (j : Nat) t v, Tryd.f3.params[j]? = some t → args[j]? = some v → Value.okWide Tryd.prog W .any base t v)
    (hW : DataW.Whole enc Tryd.prog Tryd.f3.params.toList Rows.tallyBackSpec.vars false W args.toList ds gs before) (hL : laidMetH Tryd.prog Rows.tallyBackRow.laid W) (hS : W.ShapedOpen Tryd.prog)
    (hz : (DataW.weightsEach Tryd.prog (Tryd.f3.params.toList ++ (OpenSpec.ofChange Rows.tallyBackSpec).bare.plain.varTypes Tryd.prog) (ds ++ gs)).all (· ≤ reachBytes) = true) :
    Calls Tryd.prog 3 args W fun e W' => ∃ v, e = .returned v ∧ Rows.tallyBackSpec.post enc Tryd.prog Tryd.f3 false true false false W args v W' := by
  have hT : TlyW W := tlyW_of hL hS
  have hW0 := hW
  obtain ⟨p, q, hA0, hV, rfl, hfz, hnd⟩ := hW
  have hA : DataW.TrodAll enc Tryd.prog W 0 (fun _ => true) true Tryd.f3.params.toList args.toList ds p := hA0
  rw [Tryd.params3] at hA hval
  obtain ⟨v0, vs0, d0, ds0, p0, q0, hargs, rfl, rfl, h0, r0⟩ := trodAll_cons hA
  obtain ⟨rfl, rfl, rfl⟩ := trodAll_nil r0
  obtain rfl : args = #[v0] := by cases args; simp_all
  obtain ⟨rfl, rfl⟩ := trodVars_none hV
  clear hA0
  obtain ⟨A, cap, L, rfl, hcap, hcm, hR, hd⟩ := open_raws (hval 0 22 v0 rfl rfl) h0
  have hL2 : L.length ≤ 140737488355328 := by
    rcases hd with ⟨-, rfl, -⟩ | ⟨elems, spare, rfl, hl⟩
    · exact Nat.zero_le _
    · have h1 := sized_slice hz (j := 0) (t := 22) (by rw [Tryd.params3]; rfl) rfl Tryd.underlying22
      have h2 : Tryd.prog.bytesOf 26 = 32 := by kernel_rfl
      have h3 := reachBytes_lt
      rw [h2, hl] at h1
      omega
  refine (tallyBack_walk L A cap W hT hR hL2 hcap).mono fun e W' ⟨he, hb⟩ => ?_
  subst he
  exact ⟨_, rfl, law_post hW0 rfl rfl (by kernel_rfl) (by kernel_rfl) hb⟩
set_option maxRecDepth 100000 in
theorem tallyBack_met (os : Os) : laidMet Tryd.prog Rows.tallyBackRow.laid ((World.laidAll Tryd.prog os Rows.tallyBackRow.laid).forCall (fun _ _ => 0) ⟨#[], #[.slice none 0 0], []⟩).memory :=
  laidMet_laidAll _ (by kernel_rfl) (by kernel_rfl)
set_option maxRecDepth 100000 in
theorem tallyBack_reads (os : Os) {H : Type} (enc : TypeId × Value → H) : ∃ places, DataW.whole enc Tryd.prog ((World.laidAll Tryd.prog os Rows.tallyBackRow.laid).forCall (fun _ _ => 0) ⟨#[], #[.slice none 0 0], []⟩).memory Tryd.f3.params.toList Rows.tallyBackSpec.vars false (#[.slice none 0 0] : Array Value).toList 8 = some ([.nil], [], places) :=
  ⟨[], by kernel_rfl⟩
set_option maxRecDepth 100000 in
theorem tallyBack_lifted (os : Os) (started : os.Started) (H : Type) (enc : TypeId × Value → H) (F : Stop.Interp) :
    ReturnsInHanded {} Tryd.checked os 3 .any ((OpenSpec.ofChange Rows.tallyBackSpec).preRow enc Tryd.prog Tryd.f3 Rows.tallyBackRow.domain false Rows.tallyBackRow.laid) (((OpenSpec.ofChange Rows.tallyBackSpec).at F).post enc Tryd.prog Tryd.f3 false true false false) := by
  obtain ⟨places, hx⟩ := tallyBack_reads os enc
  refine returnsInHanded_of_row (C := Tryd.checked) (s := OpenSpec.ofChange Rows.tallyBackSpec) ownP started (by kernel_rfl) Tryd.func3
    (witness_row_at (enc := enc) (C := Tryd.checked) false (World.laidAll Tryd.prog os Rows.tallyBackRow.laid) #[.slice none 0 0] (World.laidAll_os _ _ _) (by kernel_rfl) (by kernel_rfl) (by kernel_rfl)
      (OpenSpec.preRow_of_cond 8 hx (by kernel_rfl) (fun k hk => by cases hk) (by kernel_rfl) (tallyBack_met os))) ?_
  intro W base args ds gs before hval hW _ _ hreach hL hS _
  exact tallyBack_contract H enc W base args ds gs before hval hW hL hS hreach
set_option maxRecDepth 100000 in
theorem tallyBack_said : Rows.TallyBackSaid :=
  OpenClaim.holds_of_cond 3 Tryd.f3 rfl rfl rfl rfl rfl rfl rfl ⟨rfl, rfl, rfl, rfl, rfl⟩ rfl rfl rfl rfl rfl (by kernel_rfl) Tryd.func3 (by kernel_rfl)
    (of_decide_eq_true (by kernel_rfl)) (by unfold Func.isWrapper; first | (rw [if_pos (by decide +kernel)]; kernel_rfl) | (rw [if_neg (by decide +kernel)]; exact ⟨rfl, rfl⟩))
    (fun os started H enc _ F => by rw [OpenClaim.pre_eq_preRow]; exact tallyBack_lifted os started H enc F)
set_option maxRecDepth 100000 in
theorem tallyBack_plain (f : FuncId) (fn : Func) (hf : Tryd.pinned.checked.prog.funcNamed "bolthole/boltholekeep.TallyBack" = some f) (hfn : Tryd.pinned.checked.prog.funcs[f]? = some fn) :
    ∀ (j : Nat) t, fn.params[j]? = some t → Tryd.pinned.checked.prog.wantsStandIn t = false := by
  obtain rfl : f = 3 := Option.some.inj ((show Tryd.prog.funcNamed "bolthole/boltholekeep.TallyBack" = some 3 by kernel_rfl).symm.trans hf) |>.symm
  obtain rfl : fn = Tryd.f3 := (Option.some.inj (Tryd.func3.symm.trans hfn)).symm
  intro j t ht
  have hall : ∀ t ∈ Tryd.f3.params, Tryd.prog.wantsStandIn t = false := by
    rw [Tryd.params3]
    intro t ht
    simp only [List.mem_toArray, List.mem_cons, List.not_mem_nil, or_false] at ht
    rcases ht with rfl
    all_goals kernel_rfl
  exact hall t (Array.mem_of_getElem? ht)
set_option maxRecDepth 100000 in
theorem tallyBack_card : Rows.TallyBackCardSaid :=
  Claim7.holds_tied_plain_at .later [] _ _ _ _ tallyBack_said (fun _ h => by cases h) (by kernel_rfl) (fun _ h => by cases h) tallyBack_row_tie rfl ⟨rfl, rfl⟩ (by kernel_rfl) rfl (fun f fn hf hfn => ⟨by kernel_rfl, tallyBack_plain f fn hf hfn⟩) (by kernel_rfl)
end Go.Proofs.YtcafhoobeggmeaaDoor
