/- What sweeping finds in code that is put together; a last function that can't be followed. -/
import Derived.Test.YtlekjnnofhjgjaaDoorFlowG
import Derived.Test.YtlekjnnofhjgjaaDoorKeepD
namespace Go.Proofs.YtlekjnnofhjgjaaDoor
open Go.RowKit
/-- what Recover says -/
def recE (m : Img) : Int := if checkE m ≠ 0 then checkE m else if 2000 < m.text.length then 1 else if (recL m).isSome = true then 0 else 9
/-- the spots of instructions that stand one behind the other -/
def spotsOf : Int → List Ins → List Sp
  | _, [] => []
  | p, i :: r => ⟨p, i.enc.length, i⟩ :: spotsOf (p + i.enc.length) r
theorem sweepGo_enc (post : List Int) : ∀ (is : List Ins) (pre : List Int) (d : Nat), (∀ i ∈ is, i.chk = 0) → (encAll is).length ≤ d → sweepGo (pre ++ encAll is ++ post) ((pre.length : Int) + (encAll is).length) d pre.length = some (spotsOf pre.length is)
  | [], pre, d, _, _ => by
    rw [sweepGo_end _ _ _ _ (by simp [encAll])]
    rfl
  | i :: r, pre, d, hk, hd => by
    have hi := hk i (by simp)
    have hp := enc_pos hi
    have he : encAll (i :: r) = i.enc ++ encAll r := rfl
    have hl : (encAll (i :: r)).length = i.enc.length + (encAll r).length := by rw [he, List.length_append]
    obtain ⟨d, rfl⟩ : ∃ q, d = q + 1 := ⟨d - 1, by omega⟩
    have ht : pre ++ encAll (i :: r) ++ post = pre ++ i.enc ++ (encAll r ++ post) := by rw [he]; simp
    have hdec := dec_enc pre (encAll r ++ post) hi
    have ih := sweepGo_enc post r (pre ++ i.enc) d (fun j hj => hk j (by simp [hj])) (by omega)
    have e1 : pre ++ i.enc ++ encAll r ++ post = pre ++ i.enc ++ (encAll r ++ post) := by simp
    have e2 : (((pre ++ i.enc).length : Nat) : Int) = (pre.length : Int) + i.enc.length := by simp
    rw [e1, e2] at ih
    rw [ht, hl]
    simp only [sweepGo]
    rw [hdec, if_pos (by omega), if_neg (by simp only; omega)]
    simp only
    rw [show (pre.length : Int) + ((i.enc.length + (encAll r).length : Nat) : Int) = (pre.length : Int) + i.enc.length + (encAll r).length by omega, ih]
    rfl
theorem sweepAll_snoc (text : List Int) (f : FnD) : ∀ fs, sweepAll text (fs ++ [f]) = (sweepAll text fs).bind fun a => (sweepL text f).map fun l => a ++ [l]
  | [] => by
    show (sweepL text f).bind (fun l => (some []).map (l :: ·)) = _
    cases sweepL text f <;> rfl
  | g :: r => by
    show (sweepL text g).bind (fun l => (sweepAll text (r ++ [f])).map (l :: ·)) = ((sweepL text g).bind fun l => (sweepAll text r).map (l :: ·)).bind _
    rw [sweepAll_snoc text f r]
    cases sweepL text g with
    | none => rfl
    | some l =>
      cases sweepAll text r with
      | none => rfl
      | some a => cases sweepL text f <;> rfl
theorem sweepAll_len {text : List Int} : ∀ {fs : List FnD} {all : List (List Sp)}, sweepAll text fs = some all → all.length = fs.length
  | [], all, h => by
    injection h with h
    subst h
    rfl
  | g :: r, all, h => by
    have h' : (sweepL text g).bind (fun l => (sweepAll text r).map (l :: ·)) = some all := h
    cases hg : sweepL text g with
    | none => rw [hg] at h'; cases h'
    | some l =>
      rw [hg] at h'
      obtain ⟨a, ha, rfl⟩ := Option.map_eq_some_iff.1 (show (sweepAll text r).map (l :: ·) = some all from h')
      rw [List.length_cons, List.length_cons, sweepAll_len ha]
theorem finOwn_snoc (l : List Sp) : ∀ (ls : List (List Sp)) (f : Int) (own : Int → Option Int), finOwn (ls ++ [l]) f own = l.foldl (fun o s => upF o s.p (some (f + ls.length))) (finOwn ls f own)
  | [], f, own => by
    have e : f + (([] : List (List Sp)).length : Int) = f := by simp
    rw [e]
    rfl
  | a :: r, f, own => by
    show finOwn (r ++ [l]) (f + 1) _ = _
    rw [finOwn_snoc l r]
    have e : f + 1 + (r.length : Int) = f + ((a :: r).length : Int) := by rw [List.length_cons]; omega
    rw [e]
    rfl
theorem foldUp_in (g : Int) (q x : Int) : ∀ (l : List Sp) (own : Int → Option Int), l.foldl (fun o s => upF o s.p (some g)) own q = some x → (x = g ∧ ∃ s ∈ l, s.p = q) ∨ own q = some x
  | [], own, h => .inr h
  | s :: r, own, h => by
    rcases foldUp_in g q x r _ h with ⟨h1, t, ht, h2⟩ | h1
    · exact .inl ⟨h1, t, by simp [ht], h2⟩
    · have h2 : (if q = s.p then some g else own q) = some x := h1
      split at h2
      · rename_i e
        injection h2 with h2
        exact .inl ⟨h2.symm, s, by simp, e.symm⟩
      · exact .inr h2
theorem finOwn_in (q x : Int) : ∀ (ls : List (List Sp)) (f : Int) (own : Int → Option Int), finOwn ls f own q = some x → (f ≤ x ∧ x < f + ls.length) ∨ own q = some x
  | [], f, own, h => .inr h
  | a :: r, f, own, h => by
    rcases finOwn_in q x r (f + 1) _ h with h1 | h1
    · left
      rw [List.length_cons]
      omega
    · rcases foldUp_in f q x a own h1 with ⟨rfl, -⟩ | h2
      · left
        rw [List.length_cons]
        omega
      · exact .inr h2
theorem markAll_snoc (m : Img) (own : Int → Option Int) (x : FnD × List Sp) : ∀ (l : List (FnD × List Sp)) (f : Int) (ld : Int → Bool), markAll m own (l ++ [x]) f ld = (markAll m own l f ld).bind fun ld' => markGo m own (f + l.length) x.2 (upF ld' x.1.start true)
  | [], f, ld => by
    have e : f + (([] : List (FnD × List Sp)).length : Int) = f := by simp
    rw [e]
    show (markGo m own f x.2 (upF ld x.1.start true)).bind (markAll m own [] (f + 1)) = markGo m own f x.2 (upF ld x.1.start true)
    cases markGo m own f x.2 (upF ld x.1.start true) <;> rfl
  | a :: r, f, ld => by
    have e : f + 1 + (r.length : Int) = f + ((a :: r).length : Int) := by rw [List.length_cons]; omega
    show (markGo m own f a.2 (upF ld a.1.start true)).bind (markAll m own (r ++ [x]) (f + 1)) = ((markGo m own f a.2 (upF ld a.1.start true)).bind (markAll m own r (f + 1))).bind _
    cases markGo m own f a.2 (upF ld a.1.start true) with
    | none => rfl
    | some y =>
      show markAll m own (r ++ [x]) (f + 1) y = (markAll m own r (f + 1) y).bind _
      rw [markAll_snoc m own x r, e]
/-- a last function that can't be followed -/
theorem rec_last {m : Img} {fs : List FnD} {f : FnD} (hf : m.funcs = fs ++ [f])
    (h : ∀ l, sweepL m.text f = some l → ∀ own ld, (∀ q, own q = some (fs.length : Int) → ∃ s ∈ l, s.p = q) → markGo m own fs.length l ld = none) : recL m = none := by
  unfold recL
  rw [hf, sweepAll_snoc]
  cases ha : sweepAll m.text fs with
  | none => rfl
  | some a =>
    cases hl : sweepL m.text f with
    | none => rfl
    | some l =>
      have hlen := sweepAll_len ha
      show ((tabsLd (finOwn (a ++ [l]) 0 fun _ => none) m.tables.flatten fun _ => false).bind fun ld0 => (markAll m (finOwn (a ++ [l]) 0 fun _ => none) ((fs ++ [f]).zip (a ++ [l])) 0 ld0).map _) = none
      cases tabsLd (finOwn (a ++ [l]) 0 fun _ => none) m.tables.flatten fun _ => false with
      | none => rfl
      | some ld0 =>
        show (markAll m (finOwn (a ++ [l]) 0 fun _ => none) ((fs ++ [f]).zip (a ++ [l])) 0 ld0).map _ = none
        rw [List.zip_append hlen.symm]
        show (markAll m (finOwn (a ++ [l]) 0 fun _ => none) (fs.zip a ++ [(f, l)]) 0 ld0).map _ = none
        rw [markAll_snoc]
        cases markAll m (finOwn (a ++ [l]) 0 fun _ => none) (fs.zip a) 0 ld0 with
        | none => rfl
        | some y =>
          have hz : (0 : Int) + ((fs.zip a).length : Int) = fs.length := by rw [List.length_zip, hlen]; omega
          show Option.map _ (markGo m (finOwn (a ++ [l]) 0 fun _ => none) (0 + ((fs.zip a).length : Int)) l (upF y f.start true)) = none
          rw [hz, h l hl]
          · rfl
          · intro q hq
            rw [finOwn_snoc] at hq
            rcases foldUp_in _ _ _ _ _ hq with ⟨-, hs⟩ | h1
            · exact hs
            · rcases finOwn_in _ _ _ _ _ h1 with h2 | h2
              · omega
              · cases h2
end Go.Proofs.YtlekjnnofhjgjaaDoor
