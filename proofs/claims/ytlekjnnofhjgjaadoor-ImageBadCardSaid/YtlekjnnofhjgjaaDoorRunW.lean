/- with more fuel a run goes on from where it was: the plain law. Programs of raw things, run: contracts for the laws; the keep's StepEnds. -/
import Derived.Test.YtlekjnnofhjgjaaDoorStepJ
import Derived.Test.YtlekjnnofhjgjaaDoorPgmG
import Derived.Test.YtlekjnnofhjgjaaDoorInpW
import Derived.Test.YtlekjnnofhjgjaaDoorKeepN
import Derived.Deep.QuietTactic
import Derived.BigQuiet
import Derived.WalkLawsBesides
namespace Go.Proofs.YtlekjnnofhjgjaaDoor
open Go.RowKit
theorem flowS_facts (ts : List (List Int)) (s : MSt) (k a b n next : Int) : (flowS ts s k a b n next).1.told = s.told ∧ (flowS ts s k a b n next).1.steps = s.steps ∧ (flowS ts s k a b n next).2.1 ≠ 3 := by
  unfold flowS
  repeat' split
  all_goals simp
theorem doS_facts (s : MSt) (k d a b n : Int) : (∃ t, (doS s k d a b n).1.told = s.told ++ t) ∧ (doS s k d a b n).1.steps = s.steps ∧ (doS s k d a b n).2 ≠ 3 := by
  unfold doS memS
  repeat' split
  all_goals first
    | exact ⟨⟨_, rfl⟩, rfl, by simp⟩
    | exact ⟨⟨[], (List.append_nil _).symm⟩, rfl, by simp⟩
theorem step_facts (m : Img) (s : MSt) : (∃ t, (stepS m s).told = s.told ++ t) ∧ ((stepS m s).en = 0 → (stepS m s).steps = s.steps + 1) ∧ ((stepS m s).en ≠ 0 → (stepS m s).steps = s.steps) ∧ (stepS m s).en ≠ 3 := by
  unfold stepS
  split
  · exact ⟨⟨[], by simp⟩, by simp, by simp, by simp⟩
  · split
    · obtain ⟨h1, h2, h3⟩ := flowS_facts m.tables s (decB m.text s.pc).1.k (decB m.text s.pc).1.a (decB m.text s.pc).1.b (decB m.text s.pc).1.n (s.pc + (decB m.text s.pc).2.1)
      split
      · exact ⟨⟨[], by simp [h1]⟩, fun _ => rfl, fun h => absurd rfl h, by simp⟩
      · rename_i hn
        exact ⟨⟨[], by simp [h1]⟩, fun h => absurd h hn, fun _ => h2, h3⟩
    · obtain ⟨⟨t, h1⟩, h2, h3⟩ := doS_facts s (decB m.text s.pc).1.k (decB m.text s.pc).1.d (decB m.text s.pc).1.a (decB m.text s.pc).1.b (decB m.text s.pc).1.n
      split
      · exact ⟨⟨t, h1⟩, fun _ => rfl, fun h => absurd rfl h, by simp⟩
      · rename_i hn
        exact ⟨⟨t, h1⟩, fun h => absurd h hn, fun _ => h2, h3⟩
theorem flowS_en (ts : List (List Int)) (s : MSt) (k a b n next x : Int) : (flowS ts { s with en := x } k a b n next) = ({ (flowS ts s k a b n next).1 with en := x }, (flowS ts s k a b n next).2) := by
  unfold flowS regAt
  repeat' split
  all_goals rfl
theorem doS_en (s : MSt) (k d a b n x : Int) : (doS { s with en := x } k d a b n) = ({ (doS s k d a b n).1 with en := x }, (doS s k d a b n).2) := by
  unfold doS memS regAt
  simp only
  repeat' split
  all_goals rfl
theorem step_en (m : Img) (s : MSt) (x : Int) : stepS m { s with en := x } = stepS m s := by
  unfold stepS
  simp only [flowS_en, doS_en]
theorem run_en (m : Img) (d : Nat) (s : MSt) (x : Int) : runGo m d { s with en := x } = runGo m d s := by
  cases d with
  | zero => rfl
  | succ d => simp only [runGo, step_en]
/-- a run's told things begin with those that were told; with more fuel it goes on -/
theorem go_facts (m : Img) : ∀ (k : Nat) (s : MSt), (∃ t, (runGo m k s).told = s.told ++ t) ∧ s.steps ≤ (runGo m k s).steps ∧ (runGo m k s).steps ≤ s.steps + k ∧
    ((runGo m k s).en = 3 → (runGo m k s).steps = s.steps + k ∧ ∀ d, runGo m (k + d) s = runGo m d (runGo m k s)) ∧ ((runGo m k s).en ≠ 3 → ∀ d, runGo m (k + d) s = runGo m k s) := by
  intro k
  induction k with
  | zero =>
    intro s
    refine ⟨⟨[], by simp [runGo]⟩, by simp [runGo], by simp [runGo], fun _ => ⟨by simp [runGo], fun d => ?_⟩, fun h => absurd rfl h⟩
    rw [Nat.zero_add]
    exact (run_en m d s 3).symm
  | succ k ih =>
    intro s
    obtain ⟨⟨t, h1⟩, h2, h3, h4⟩ := step_facts m s
    have e : ∀ d, k + 1 + d = (k + d) + 1 := fun d => by omega
    by_cases hz : (stepS m s).en = 0
    · obtain ⟨⟨t', k1⟩, k2, k3, k4, k5⟩ := ih (stepS m s)
      have hs := h2 hz
      have hr : runGo m (k + 1) s = runGo m k (stepS m s) := by simp only [runGo]; rw [if_pos hz]
      have hr2 : ∀ d, runGo m (k + 1 + d) s = runGo m (k + d) (stepS m s) := fun d => by rw [e]; simp only [runGo]; rw [if_pos hz]
      rw [hr]
      refine ⟨⟨t ++ t', by rw [k1, h1, List.append_assoc]⟩, by omega, by omega, fun h => ⟨by have := (k4 h).1; omega, fun d => by rw [hr2]; exact (k4 h).2 d⟩, fun h d => by rw [hr2]; exact k5 h d⟩
    · have hs := h3 hz
      have hr : runGo m (k + 1) s = stepS m s := by simp only [runGo]; rw [if_neg hz]
      have hr2 : ∀ d, runGo m (k + 1 + d) s = stepS m s := fun d => by rw [e]; simp only [runGo]; rw [if_neg hz]
      rw [hr]
      exact ⟨⟨t, h1⟩, by omega, by omega, fun h => absurd h h4, fun _ d => hr2 d⟩
theorem fuel_plain (m : Img) (L : List Int) (k d : Nat) : (∃ t, (runS m L ((k + d : Nat) : Int)).told = (runS m L (k : Int)).told ++ t) ∧ 0 ≤ (runS m L (k : Int)).steps ∧ (runS m L (k : Int)).steps ≤ k ∧
    ((runS m L (k : Int)).en = 3 ∧ (runS m L (k : Int)).steps = k ∨ (runS m L (k : Int)).en = (runS m L ((k + d : Nat) : Int)).en ∧ (runS m L (k : Int)).steps = (runS m L ((k + d : Nat) : Int)).steps ∧ (runS m L (k : Int)).pc = (runS m L ((k + d : Nat) : Int)).pc) := by
  unfold runS
  rw [Int.toNat_natCast, Int.toNat_natCast]
  have hs : (startS m L).steps = 0 := rfl
  obtain ⟨-, h2, h3, h4, h5⟩ := go_facts m k (startS m L)
  rw [hs] at h2 h3 h4
  by_cases he : (runGo m k (startS m L)).en = 3
  · obtain ⟨e1, e2⟩ := h4 he
    refine ⟨?_, h2, by omega, .inl ⟨he, by omega⟩⟩
    rw [e2 d]
    exact (go_facts m d (runGo m k (startS m L))).1
  · rw [h5 he d]
    exact ⟨⟨[], by simp⟩, h2, by omega, .inr ⟨rfl, rfl, rfl⟩⟩
end Go.Proofs.YtlekjnnofhjgjaaDoor
namespace Go.Proofs.YtlekjnnofhjgjaaDoor
open Go.RowKit
theorem step_told (m : Img) (s : MSt) : (stepS m s).told.length ≤ s.told.length + 1 := by
  unfold stepS
  split
  · exact Nat.le_succ _
  · split
    · obtain ⟨h1, h2, h3⟩ := flowS_facts m.tables s (decB m.text s.pc).1.k (decB m.text s.pc).1.a (decB m.text s.pc).1.b (decB m.text s.pc).1.n (s.pc + (decB m.text s.pc).2.1)
      split
      · show (flowS _ _ _ _ _ _ _).1.told.length ≤ _
        rw [h1]
        omega
      · show (flowS _ _ _ _ _ _ _).1.told.length ≤ _
        rw [h1]
        omega
    · have hd : (doS s (decB m.text s.pc).1.k (decB m.text s.pc).1.d (decB m.text s.pc).1.a (decB m.text s.pc).1.b (decB m.text s.pc).1.n).1.told.length ≤ s.told.length + 1 := by
        unfold doS memS regAt
        repeat' split
        all_goals simp
      split
      · exact hd
      · exact hd
theorem run_told (m : Img) : ∀ (k : Nat) (s : MSt), (runGo m k s).told.length ≤ s.told.length + k := by
  intro k
  induction k with
  | zero => intro s; exact Nat.le_refl _
  | succ k ih =>
    intro s
    have h1 := step_told m s
    simp only [runGo]
    split
    · have := ih (stepS m s)
      omega
    · omega
theorem told_len (m : Img) (L : List Int) (k : Nat) : (runS m L (k : Int)).told.length ≤ k := by
  unfold runS
  rw [Int.toNat_natCast]
  have h := run_told m k (startS m L)
  have e : (startS m L).told.length = 0 := rfl
  omega
/-- a run's answer, in letters -/
def RunP (w : World) (T : List Int) (n : Nat) (E St P : Int) (e : Ending) (w' : World) : Prop :=
  Below w.heap.size w w' ∧ ∃ A c, e = .returned (.tuple #[.agg #[.slice A n c, .int .i64 E, .int .i64 St, .int .i64 P], .int .i64 0]) ∧ w'.ownsRow w.heap.size 3 1 (.slice A n c) n (intsV .i64 T)
theorem run_rp (m : Img) (v : ImgV) (iA : Option Addr) (ic : Nat) (L : List Int) (fuel : Int) (w : World) (S : MSt) (T : List Int) (n : Nat) (E St P : Int) (hT : Tabs w) (hI : ImgRd w w.heap.size m v) (hO : ImgOk m v) (hin : RdG w w.heap.size iA (intsV .i64 L))
    (hic : L.length ≤ ic) (hil : L.length ≤ 140737488355328) (hf : N64 fuel) (hL : ∀ x ∈ L, N64 x) (h0 : runE m L fuel = 0) (hS : runS m L fuel = S) (h1 : S.told = T) (h2 : T.length = n) (h3 : S.en = E) (h4 : S.steps = St) (h5 : S.pc = P) :
    Calls Tryd.prog 15 #[.agg (m.val v), .slice iA L.length ic, .int .i64 fuel] w (RunP w T n E St P) := by
  refine (run_any m v iA ic L fuel w hT hI hO hin hic hil hf hL).mono ?_
  rintro e w' ⟨hb, -, h⟩
  obtain ⟨A, c, rfl, ho⟩ := h h0
  rw [hS, h1, h2] at ho
  rw [hS, h1, h2, h3, h4, h5]
  exact ⟨hb, A, c, rfl, ho⟩
/-- a variable of api.Run that a law laid: it, and its row -/
def RunVar (X wx : World) (b : Nat) (A : Option Addr) (c : Nat) (T : List Int) (n : Nat) (E St P : Int) : Prop :=
  Blk wx b 33 [.slice A n c, .int .i64 E, .int .i64 St, .int .i64 P] ∧ wx.ownsRow X.heap.size 3 1 (.slice A n c) n (intsV .i64 T) ∧ Below X.heap.size X wx ∧ X.heap.size ≤ b
theorem runVar_old {X w : World} {b B n c : Nat} {A : Option Addr} {T : List Int} {E St P : Int} {z0 z1 z2 z3 : Value} (zb : Blk w b 33 [z0, z1, z2, z3]) (hb : Below X.heap.size X w) (hge : X.heap.size ≤ b)
    (hrow : w.ownsRow B 3 1 (.slice A n c) n (intsV .i64 T)) (hB : b < B) (hXB : X.heap.size ≤ B) :
    RunVar X ((((w.setCell ⟨b, 0, none⟩ (.slice A n c)).setCell ⟨b, 1, none⟩ (.int .i64 E)).setCell ⟨b, 2, none⟩ (.int .i64 St)).setCell ⟨b, 3, none⟩ (.int .i64 P)) b A c T n E St P := by
  have g := gb_setCell (gb_setCell (gb_setCell (gb_setCell (gb_refl w (some b)) 0 (.slice A n c)) 1 (.int .i64 E)) 2 (.int .i64 St)) 3 (.int .i64 P)
  exact ⟨(((zb.set 0 _).set 1 _).set 2 _).set 3 _, own_gb (own_more hrow hXB) g (fun e => by have := (World.ownsRow.lt hrow _ e).1; omega), hb.trans (gb_to_below g hge hb.size), hge⟩
theorem runVar_new {X w : World} {B n c : Nat} {A : Option Addr} {T : List Int} {E St P : Int} (hb : Below X.heap.size X w) (hrow : w.ownsRow B 3 1 (.slice A n c) n (intsV .i64 T)) (hXB : X.heap.size ≤ B) :
    RunVar X (w.alloc (.cells #[.slice A n c, .int .i64 E, .int .i64 St, .int .i64 P] 33)) w.heap.size A c T n E St P :=
  ⟨Blk.new _ _ _, own_more (own_keep hrow ((Below.refl _ _).alloc (Nat.le_refl _) _)) hXB, hb.alloc hb.size _, hb.size⟩
end Go.Proofs.YtlekjnnofhjgjaaDoor
