/- The shelf's structure laid: revEdge. -/
import Derived.Shelf.SlLaysF0
import Derived.Test.YtcdlgjhdbmmomaaGreatDoorProg
import Derived.Shelf.SlLaysE0
namespace Go.Proofs.YtcdlgjhdbmmomaaGreatDoor
open Go.Shelf
def Sh.sortEdge_ren : Go.Shelf.Ren := ⟨fun | 6 => 42 | 15 => 65 | 14 => 64 | 28 => 107 | 29 => 108 | 20 => 99 | 21 => 100 | 22 => 101 | 23 => 102 | 24 => 103 | 25 => 104 | 26 => 105 | 27 => 106 | 46 => 148 | 47 => 149 | 48 => 150 | 49 => 151 | 50 => 152 | 57 => 179 | n => n, fun | 22 => 36 | 24 => 43 | 25 => 91 | 3 => 3 | 39 => 129 | 0 => 0 | 53 => 171 | 55 => 173 | 4 => 4 | 46 => 165 | 45 => 164 | 50 => 82 | 5 => 5 | 9 => 9 | 66 => 212 | 70 => 216 | 76 => 240 | 77 => 241 | n => n, fun | n => n⟩
theorem Sh.sortEdge : Go.Proofs.SlLaysF0.n6 Tryz.prog Sh.sortEdge_ren := {
  mixed := by kernel_rfl
  f6 := ⟨Tryz.f42.name, by decide, Tryz.func42.trans (congrArg some (by kernel_rfl))⟩
  f14 := ⟨Tryz.f64.name, by decide, Tryz.func64.trans (congrArg some (by kernel_rfl))⟩
  f15 := Tryz.func65.trans (congrArg some (by kernel_rfl))
  f20 := ⟨Tryz.f99.name, by decide, Tryz.func99.trans (congrArg some (by kernel_rfl))⟩
  f21 := ⟨Tryz.f100.name, by decide, Tryz.func100.trans (congrArg some (by kernel_rfl))⟩
  f22 := ⟨Tryz.f101.name, by decide, Tryz.func101.trans (congrArg some (by kernel_rfl))⟩
  f23 := ⟨Tryz.f102.name, by decide, Tryz.func102.trans (congrArg some (by kernel_rfl))⟩
  f24 := ⟨Tryz.f103.name, by decide, Tryz.func103.trans (congrArg some (by kernel_rfl))⟩
  f25 := ⟨Tryz.f104.name, by decide, Tryz.func104.trans (congrArg some (by kernel_rfl))⟩
  f26 := ⟨Tryz.f105.name, by decide, Tryz.func105.trans (congrArg some (by kernel_rfl))⟩
  f27 := ⟨Tryz.f106.name, by decide, Tryz.func106.trans (congrArg some (by kernel_rfl))⟩
  f28 := Tryz.func107.trans (congrArg some (by kernel_rfl))
  f29 := Tryz.func108.trans (congrArg some (by kernel_rfl))
  f46 := ⟨Tryz.f148.name, by decide, Tryz.func148.trans (congrArg some (by kernel_rfl))⟩
  f47 := Tryz.func149.trans (congrArg some (by kernel_rfl))
  f48 := Tryz.func150.trans (congrArg some (by kernel_rfl))
  f49 := ⟨Tryz.f151.name, by decide, Tryz.func151.trans (congrArg some (by kernel_rfl))⟩
  f50 := ⟨Tryz.f152.name, by decide, Tryz.func152.trans (congrArg some (by kernel_rfl))⟩
  f57 := ⟨Tryz.f179.name, by decide, Tryz.func179.trans (congrArg some (by kernel_rfl))⟩
  t0 := Tryz.underlying0
  a0 := Tryz.isAgg0
  z0 := Tryz.sizeOf0
  v0 := Tryz.zeroValue0
  t3 := Tryz.underlying3
  a3 := Tryz.isAgg3
  z3 := Tryz.sizeOf3
  v3 := Tryz.zeroValue3
  t4 := Tryz.underlying4
  a4 := Tryz.isAgg4
  z4 := Tryz.sizeOf4
  v4 := Tryz.zeroValue4
  t5 := Tryz.underlying5
  a5 := Tryz.isAgg5
  z5 := Tryz.sizeOf5
  v5 := Tryz.zeroValue5
  t9 := Tryz.underlying9
  a9 := Tryz.isAgg9
  z9 := Tryz.sizeOf9
  v9 := Tryz.zeroValue9
  t22 := Tryz.underlying36
  a22 := Tryz.isAgg36
  z22 := Tryz.sizeOf36
  v22 := Tryz.zeroValue36
  t25 := Tryz.underlying91
  a25 := Tryz.isAgg91
  z25 := Tryz.sizeOf91
  v25 := Tryz.zeroValue91
  t39 := Tryz.underlying129
  a39 := Tryz.isAgg129
  z39 := Tryz.sizeOf129
  v39 := Tryz.zeroValue129
  t45 := Tryz.underlying164
  a45 := Tryz.isAgg164
  z45 := Tryz.sizeOf164
  v45 := Tryz.zeroValue164
  t46 := Tryz.underlying165
  a46 := Tryz.isAgg165
  z46 := Tryz.sizeOf165
  v46 := Tryz.zeroValue165
  t50 := Tryz.underlying82
  a50 := Tryz.isAgg82
  z50 := Tryz.sizeOf82
  v50 := Tryz.zeroValue82
  t53 := Tryz.underlying171
  a53 := Tryz.isAgg171
  z53 := Tryz.sizeOf171
  v53 := Tryz.zeroValue171
  t55 := Tryz.underlying173
  a55 := Tryz.isAgg173
  z55 := Tryz.sizeOf173
  v55 := Tryz.zeroValue173
  t66 := Tryz.underlying212
  a66 := Tryz.isAgg212
  z66 := Tryz.sizeOf212
  v66 := Tryz.zeroValue212
  t70 := Tryz.underlying216
  a70 := Tryz.isAgg216
  z70 := Tryz.sizeOf216
  v70 := Tryz.zeroValue216
  t76 := Tryz.underlying240
  a76 := Tryz.isAgg240
  z76 := Tryz.sizeOf240
  v76 := Tryz.zeroValue240
  t77 := Tryz.underlying241
  a77 := Tryz.isAgg241
  z77 := Tryz.sizeOf241
  v77 := Tryz.zeroValue241 }
end Go.Proofs.YtcdlgjhdbmmomaaGreatDoor
namespace Go.Proofs.YtcdlgjhdbmmomaaGreatDoor
open Go.Shelf
def Sh.revEdge_ren : Go.Shelf.Ren := ⟨fun | 35 => 25 | n => n, fun | 22 => 36 | 23 => 43 | 3 => 3 | 4 => 4 | 0 => 0 | n => n, fun | n => n⟩
theorem Sh.revEdge : Go.Proofs.SlLaysE0.n35 Tryz.prog Sh.revEdge_ren := {
  mixed := by kernel_rfl
  f35 := ⟨Tryz.f25.name, by decide, Tryz.func25.trans (congrArg some (by kernel_rfl))⟩
  t0 := Tryz.underlying0
  a0 := Tryz.isAgg0
  z0 := Tryz.sizeOf0
  v0 := Tryz.zeroValue0
  t3 := Tryz.underlying3
  a3 := Tryz.isAgg3
  z3 := Tryz.sizeOf3
  v3 := Tryz.zeroValue3
  t4 := Tryz.underlying4
  a4 := Tryz.isAgg4
  z4 := Tryz.sizeOf4
  v4 := Tryz.zeroValue4
  t22 := Tryz.underlying36
  a22 := Tryz.isAgg36
  z22 := Tryz.sizeOf36
  v22 := Tryz.zeroValue36 }
end Go.Proofs.YtcdlgjhdbmmomaaGreatDoor
