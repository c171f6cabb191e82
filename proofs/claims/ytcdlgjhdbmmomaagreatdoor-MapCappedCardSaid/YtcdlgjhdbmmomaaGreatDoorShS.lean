/- slices.Sort, slices.Compact of numbers -/
import Derived.Shelf.Slices.CompactI
import Derived.Shelf.Slices.In.SortNone
import Derived.Shelf.Sort.Plain
import Derived.Test.YtcdlgjhdbmmomaaGreatDoorProg
namespace Go.Proofs.YtcdlgjhdbmmomaaGreatDoor
open Go.Shelf
def Sh.lays189_ren : Go.Shelf.Ren := ⟨fun | 189 => 44 | 125 => 65 | 257 => 66 | 128 => 107 | 129 => 108 | 294 => 109 | 295 => 110 | 296 => 111 | 297 => 112 | 298 => 113 | 299 => 114 | 216 => 115 | 300 => 116 | 301 => 117 | 328 => 153 | 329 => 149 | 330 => 150 | 331 => 154 | 332 => 155 | 215 => 156 | 343 => 180 | n => n, fun | 28 => 27 | 3 => 3 | 46 => 129 | 0 => 0 | 51 => 171 | 53 => 173 | 4 => 4 | 183 => 165 | 182 => 164 | 131 => 82 | 5 => 5 | 9 => 9 | 218 => 212 | 222 => 216 | 228 => 240 | 229 => 241 | n => n, fun | n => n⟩
theorem Sh.lays189 : Go.Proofs.Lays.n189 Tryz.prog Sh.lays189_ren := {
  mixed := by kernel_rfl
  f125 := Tryz.func65.trans (congrArg some (by kernel_rfl))
  f128 := Tryz.func107.trans (congrArg some (by kernel_rfl))
  f129 := Tryz.func108.trans (congrArg some (by kernel_rfl))
  f189 := Tryz.func44.trans (congrArg some (by kernel_rfl))
  f215 := Tryz.func156.trans (congrArg some (by kernel_rfl))
  f216 := Tryz.func115.trans (congrArg some (by kernel_rfl))
  f257 := Tryz.func66.trans (congrArg some (by kernel_rfl))
  f294 := Tryz.func109.trans (congrArg some (by kernel_rfl))
  f295 := Tryz.func110.trans (congrArg some (by kernel_rfl))
  f296 := Tryz.func111.trans (congrArg some (by kernel_rfl))
  f297 := Tryz.func112.trans (congrArg some (by kernel_rfl))
  f298 := Tryz.func113.trans (congrArg some (by kernel_rfl))
  f299 := Tryz.func114.trans (congrArg some (by kernel_rfl))
  f300 := Tryz.func116.trans (congrArg some (by kernel_rfl))
  f301 := Tryz.func117.trans (congrArg some (by kernel_rfl))
  f328 := Tryz.func153.trans (congrArg some (by kernel_rfl))
  f329 := Tryz.func149.trans (congrArg some (by kernel_rfl))
  f330 := Tryz.func150.trans (congrArg some (by kernel_rfl))
  f331 := Tryz.func154.trans (congrArg some (by kernel_rfl))
  f332 := Tryz.func155.trans (congrArg some (by kernel_rfl))
  f343 := Tryz.func180.trans (congrArg some (by kernel_rfl))
  t0 := Tryz.underlying0
  a0 := Tryz.isAgg0
  z0 := Tryz.sizeOf0
  v0 := Tryz.zeroValue0
  t3 := Tryz.underlying3
  a3 := Tryz.isAgg3
  z3 := Tryz.sizeOf3
  v3 := Tryz.zeroValue3
  t4 := Tryz.underlying4
  a4 := Tryz.isAgg4
  z4 := Tryz.sizeOf4
  v4 := Tryz.zeroValue4
  t5 := Tryz.underlying5
  a5 := Tryz.isAgg5
  z5 := Tryz.sizeOf5
  v5 := Tryz.zeroValue5
  t9 := Tryz.underlying9
  a9 := Tryz.isAgg9
  z9 := Tryz.sizeOf9
  v9 := Tryz.zeroValue9
  t28 := Tryz.underlying27
  a28 := Tryz.isAgg27
  z28 := Tryz.sizeOf27
  v28 := Tryz.zeroValue27
  t46 := Tryz.underlying129
  a46 := Tryz.isAgg129
  z46 := Tryz.sizeOf129
  v46 := Tryz.zeroValue129
  t51 := Tryz.underlying171
  a51 := Tryz.isAgg171
  z51 := Tryz.sizeOf171
  v51 := Tryz.zeroValue171
  t53 := Tryz.underlying173
  a53 := Tryz.isAgg173
  z53 := Tryz.sizeOf173
  v53 := Tryz.zeroValue173
  t131 := Tryz.underlying82
  a131 := Tryz.isAgg82
  z131 := Tryz.sizeOf82
  v131 := Tryz.zeroValue82
  t182 := Tryz.underlying164
  a182 := Tryz.isAgg164
  z182 := Tryz.sizeOf164
  v182 := Tryz.zeroValue164
  t183 := Tryz.underlying165
  a183 := Tryz.isAgg165
  z183 := Tryz.sizeOf165
  v183 := Tryz.zeroValue165
  t218 := Tryz.underlying212
  a218 := Tryz.isAgg212
  z218 := Tryz.sizeOf212
  v218 := Tryz.zeroValue212
  t222 := Tryz.underlying216
  a222 := Tryz.isAgg216
  z222 := Tryz.sizeOf216
  v222 := Tryz.zeroValue216
  t228 := Tryz.underlying240
  a228 := Tryz.isAgg240
  z228 := Tryz.sizeOf240
  v228 := Tryz.zeroValue240
  t229 := Tryz.underlying241
  a229 := Tryz.isAgg241
  z229 := Tryz.sizeOf241
  v229 := Tryz.zeroValue241 }
open Go.Sort Go.RowKit in
theorem Sh.slices_Sort_int (blk off cap : Nat) (zs : List Int) (w : World) (hH : Holds (Value.int .i64) w blk off zs.toArray) (hblk : blk < w.heap.size) (hsz : zs.length < 4611686018427387904) :
    Calls Tryz.prog 44 #[.slice (some ⟨blk, off, none⟩) zs.length cap] w fun e w' =>
      e = .returned (.tuple #[]) ∧ ∃ n os, w' = grow (putRow (Value.int .i64) (Sort.ahead w n) blk off (zs.mergeSort fun x y => decide (x ≤ y)).toArray) os := Any.slices_Sort_int Sh.lays189 blk off cap zs w hH hblk hsz
def Sh.laysNm220_ren : Go.Shelf.Ren := ⟨fun | 20 => 45 | n => n, fun | 22 => 27 | 3 => 3 | 4 => 4 | 0 => 0 | n => n, fun | n => n⟩
theorem Sh.laysNm220 : Go.Proofs.Lays2.n20 Tryz.prog Sh.laysNm220_ren := {
  mixed := by kernel_rfl
  f20 := Tryz.func45.trans (congrArg some (by kernel_rfl))
  t0 := Tryz.underlying0
  a0 := Tryz.isAgg0
  z0 := Tryz.sizeOf0
  v0 := Tryz.zeroValue0
  t3 := Tryz.underlying3
  a3 := Tryz.isAgg3
  z3 := Tryz.sizeOf3
  v3 := Tryz.zeroValue3
  t4 := Tryz.underlying4
  a4 := Tryz.isAgg4
  z4 := Tryz.sizeOf4
  v4 := Tryz.zeroValue4
  t22 := Tryz.underlying27
  a22 := Tryz.isAgg27
  z22 := Tryz.sizeOf27
  v22 := Tryz.zeroValue27
  i3 := by kernel_rfl }
open Go.RowKit Go.Lib Go.Sort in
theorem Sh.slices_Compact_int (blk off cap : Nat) (zs : List Int) (w : World) (hH : Holds (Value.int .i64) w blk off zs.toArray) (hsz : zs.length ≤ 9223372036854775807) (hcap : zs.length ≤ cap) :
    Calls Tryz.prog 45 #[.slice (some ⟨blk, off, none⟩) zs.length cap] w fun e w' => e = .returned (.slice (some ⟨blk, off, none⟩) (Lib.compact zs).length cap) ∧ ∃ q, w' = putRow (Value.int .i64) (Sort.ahead w q) blk off (Lib.compact zs ++ List.replicate (zs.length - (Lib.compact zs).length) 0).toArray := Any.slices_Compact_int Sh.laysNm220 blk off cap zs w hH hsz hcap
open Go.RowKit Go.Lib Go.Sort in
theorem Sh.slices_Compact_int_empty (a : Option Addr) (cap : Nat) (w : World) :
    Calls Tryz.prog 45 #[.slice a 0 cap] w fun e w' => e = .returned (.slice a 0 cap) ∧ w' = w := Any.slices_Compact_int_empty Sh.laysNm220 a cap w
open Go.RowKit Go.Sort in
theorem Sh.slices_Sort_int_none (p : Option Addr) (cap : Nat) (w : World) :
    Calls Tryz.prog 44 #[.slice p 0 cap] w fun e w' => e = .returned (.tuple #[]) ∧ w' = w := Any.slices_Sort_int_none Sh.lays189 p cap w
end Go.Proofs.YtcdlgjhdbmmomaaGreatDoor
