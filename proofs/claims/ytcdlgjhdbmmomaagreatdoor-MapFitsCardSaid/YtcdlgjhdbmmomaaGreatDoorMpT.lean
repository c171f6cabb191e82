/- TallyTells; what Map wants of a program's flow. -/
import Derived.Test.YtcdlgjhdbmmomaaGreatDoorMpW
import Derived.Test.YtcdlgjhdbmmomaaGreatDoorTlV
import Derived.Test.YtcdlgjhdbmmomaaGreatDoorRegX
import Derived.Deep.DeepCutAuto
import Derived.Deep.CutBlock
import Derived.Deep.LoopGhost
import Derived.Deep.QuietTactic
import Derived.BigQuiet
import Derived.IntWalk
import Derived.WalkLawsBesides
namespace Go.Proofs.YtcdlgjhdbmmomaaGreatDoor
open Go.RowKit Go.Deep
theorem FlwSt.mapOk {w : World} {l : List RawI} {m : Img} {v : ImgV} {d : FlowD} {xA yA zA : Option Addr} {xc yc zc : Nat} (h : FlwSt w l m v d xA yA zA xc yc zc) : MapOk d := by
  obtain ⟨ld, bm, S, gs, hF, -, -⟩ := gen_flow3 h.pgm.check h.rc
  have hT := h.pgm.text
  have ht := h.tal
  refine ⟨ht.few, fun i b hb => ?_, fun t ht => ?_⟩
  · obtain ⟨h1, h2, h3, -, -⟩ := ht.blk i b hb
    have h4 := hF.blen hb
    exact ⟨hF.fit hb, by omega, by omega, fun k => ⟨by have := h2 k; omega, by have := h2 k; omega⟩, ⟨by omega, by omega⟩⟩
  · rw [hF.tables] at ht
    obtain ⟨t0, ht0, rfl⟩ := List.mem_map.1 ht
    have := (check_tabs h.pgm.check).1 t0 ht0
    rw [List.length_map]
    omega
theorem one23 : readE [49, 32, 50, 32, 51, 10] = .inr [⟨1, 2, 3⟩] := by
  have h := readE_fmt [⟨1, 2, 3⟩] (fun e he => by rw [List.mem_singleton] at he; rw [he]; exact ⟨by decide, by decide, by decide⟩) (by decide)
  have e : List.flatMap fmtE [(⟨1, 2, 3⟩ : EdgE)] = [49, 32, 50, 32, 51, 10] := by kernel_rfl
  rw [e] at h
  exact h
set_option maxRecDepth 100000 in
theorem tallyTells_any (w : World) (hT : Tabs w) (hW : TlyW w) : Calls Tryz.prog 12 #[] w fun e w' => e = .returned (.bool true) ∧ Below w.heap.size w w' := by
  have HRD := Lib.hid (read_any ⟨#[49, 32, 50, 32, 51, 10]⟩ (by decide) w hW)
  rw [show (⟨#[49, 32, 50, 32, 51, 10]⟩ : ByteArray).data.toList = [49, 32, 50, 32, 51, 10] from rfl, one23] at HRD
  have HT := Lib.hid hT
  clear hT hW
  go_enter Tryz.func12, Tryz.ntmps12
  go_wp2_with fail
  refine HRD.out.mono ?_
  rintro e w1 ⟨hb1, A, c, rfl, ho1⟩
  have HB1 := Lib.hid hb1
  have HFT := Lib.hid (flowTells_any w1 (HT.out.below hb1))
  clear hb1 ho1
  go_wp2_with fail
  refine HFT.out.mono ?_
  rintro e w2 ⟨rfl, hb2⟩
  have HB2 := Lib.hid (HB1.out.trans (hb2.mono HB1.out.size))
  clear hb2
  go_wp2_with fail
  go_ret
  exact ⟨rfl, HB2.out⟩
end Go.Proofs.YtcdlgjhdbmmomaaGreatDoor
