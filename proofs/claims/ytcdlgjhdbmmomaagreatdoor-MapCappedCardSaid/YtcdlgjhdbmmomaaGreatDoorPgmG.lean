/- boltholekeep's Program, for every list of raw things. -/
import Derived.Test.YtcdlgjhdbmmomaaGreatDoorAppZ
import Derived.Test.YtcdlgjhdbmmomaaGreatDoorAsmB
import Derived.Test.YtcdlgjhdbmmomaaGreatDoorAsmG
import Derived.Test.YtcdlgjhdbmmomaaGreatDoorAsmD
namespace Go.Proofs.YtcdlgjhdbmmomaaGreatDoor
open Go.RowKit
theorem asm_spec : AsmSpec := fun w00 w base X bs fs bA bc fA fc gs L A c h1 h2 h3 h4 h5 h6 h7 h8 => asm_any w00 w base X bs fs bA bc fA fc gs L A c h1 h2 h3 h4 h5 h6 h7 h8
def IsPgm (l : List RawI) (m : Img) : Prop := IsProg (progP (progL l)).1 (progP (progL l)).2 (progL l) m
def ProgPost (w : World) (l : List RawI) (e : Ending) (w' : World) : Prop :=
 Below w.heap.size w w' ∧ ∃ (v : ImgV) (m : Img), e = .returned (.agg (m.val v)) ∧ ImgOwn w' w.heap.size m v ∧ ImgOk m v ∧ IsPgm l m
theorem program_any (l : List RawI) (A : Option Addr) (c : Nat) (w : World) (hT : Tabs w) (hR : RdR w w.heap.size A l) (hc : l.length ≤ c) (hl : l.length ≤ 140737488355328) :
 Calls Tryz.prog 34 #[.slice A l.length c] w (ProgPost w l) :=
 (program_of asm_spec l A c w hT hR hc hl (progP_ok l)).mono fun _ _ ⟨h1, v, m, h2, h3, h4, h5⟩ => ⟨h1, v, m, h2, h3, h4, h5⟩
theorem program_nil (w : World) (hT : Tabs w) : Calls Tryz.prog 34 #[.slice none 0 0] w (ProgPost w []) :=
 program_any [] none 0 w hT (RdR.nil _ _ _) lr' (Nat.zero_le _)
theorem IsPgm.check {l : List RawI} {m : Img} (h : IsPgm l m) : checkE m = 0 := by
 obtain ⟨bs', h1, _, h3, rfl⟩ := h; exact prog_check h1 h3 _
theorem IsPgm.text {l : List RawI} {m : Img} (h : IsPgm l m) : 1 ≤ m.text.length ∧ m.text.length ≤ 1600 := by
 obtain ⟨bs', h1, _, h3, rfl⟩ := h; have e : ((encAll (progI bs' (progP (progL l)).2)).length : Int) = szL bs'.flatten := prog_len h1 h3; have h0 := atB_T h1 (a := 0) (by decide) (by have := h1.fnz.1; omega); have h2 := flat_bd h1; show 1 ≤ (encAll (progI bs' (progP (progL l)).2)).length ∧ (encAll (progI bs' (progP (progL l)).2)).length ≤ 1600; omega
end Go.Proofs.YtcdlgjhdbmmomaaGreatDoor
