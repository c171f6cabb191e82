/- The odd lines of TallyBad are refused. -/
import Derived.Test.YtcdlgjhdbmmomaaGreatDoorTlD
namespace Go.Proofs.YtcdlgjhdbmmomaaGreatDoor
open Go.RowKit
theorem RdR.take {w : World} {B : Nat} {A : Option Addr} {L : List RawI} (h : RdR w B A L) (k : Nat) : RdR w B A (L.take k) := by
 refine ⟨fun r hr => h.1 r (List.mem_of_mem_take hr), fun hn => ?_⟩; obtain ⟨b, o, e, hb, hc⟩ := h.2 (fun e => hn (by rw [e]; simp)); refine ⟨b, o, e, hb, fun j r hj => hc j r ?_⟩; rw [List.getElem?_take] at hj
 split at hj
 · exact hj
 · cases hj
end Go.Proofs.YtcdlgjhdbmmomaaGreatDoor
