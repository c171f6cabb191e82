/- Sort and Compact of numbers: the contracts of the library, laid at this program. -/
import Derived.Shelf.Slices.CompactI
import Derived.Shelf.Slices.In.SortNone
import Derived.Shelf.Sort.Plain
import Derived.Test.YtbdlmafhcgndeaaDoorProg
namespace Go.Proofs.YtbdlmafhcgndeaaDoor
open Go.Shelf
def Sh.lays189_ren : Go.Shelf.Ren := ⟨fun | 189 => 45 | 125 => 86 | 257 => 85 | 128 => 119 | 129 => 120 | 294 => 111 | 295 => 112 | 296 => 113 | 297 => 114 | 298 => 115 | 299 => 116 | 216 => 47 | 300 => 117 | 301 => 118 | 328 => 139 | 329 => 140 | 330 => 141 | 331 => 142 | 332 => 143 | 215 => 87 | 343 => 174 | n => n, fun | 28 => 27 | 3 => 3 | 46 => 116 | 0 => 0 | 51 => 196 | 53 => 198 | 4 => 4 | 183 => 190 | 182 => 189 | 131 => 102 | 5 => 5 | 9 => 9 | 218 => 215 | 222 => 219 | 228 => 244 | 229 => 245 | n => n, fun | n => n⟩
theorem Sh.lays189 : Go.Proofs.Lays.n189 Tryd.prog Sh.lays189_ren := {
  mixed := by kernel_rfl
  f125 := Tryd.func86.trans (congrArg some (by kernel_rfl))
  f128 := Tryd.func119.trans (congrArg some (by kernel_rfl))
  f129 := Tryd.func120.trans (congrArg some (by kernel_rfl))
  f189 := Tryd.func45.trans (congrArg some (by kernel_rfl))
  f215 := Tryd.func87.trans (congrArg some (by kernel_rfl))
  f216 := Tryd.func47.trans (congrArg some (by kernel_rfl))
  f257 := Tryd.func85.trans (congrArg some (by kernel_rfl))
  f294 := Tryd.func111.trans (congrArg some (by kernel_rfl))
  f295 := Tryd.func112.trans (congrArg some (by kernel_rfl))
  f296 := Tryd.func113.trans (congrArg some (by kernel_rfl))
  f297 := Tryd.func114.trans (congrArg some (by kernel_rfl))
  f298 := Tryd.func115.trans (congrArg some (by kernel_rfl))
  f299 := Tryd.func116.trans (congrArg some (by kernel_rfl))
  f300 := Tryd.func117.trans (congrArg some (by kernel_rfl))
  f301 := Tryd.func118.trans (congrArg some (by kernel_rfl))
  f328 := Tryd.func139.trans (congrArg some (by kernel_rfl))
  f329 := Tryd.func140.trans (congrArg some (by kernel_rfl))
  f330 := Tryd.func141.trans (congrArg some (by kernel_rfl))
  f331 := Tryd.func142.trans (congrArg some (by kernel_rfl))
  f332 := Tryd.func143.trans (congrArg some (by kernel_rfl))
  f343 := Tryd.func174.trans (congrArg some (by kernel_rfl))
  t0 := Tryd.underlying0
  a0 := Tryd.isAgg0
  z0 := Tryd.sizeOf0
  v0 := Tryd.zeroValue0
  t3 := Tryd.underlying3
  a3 := Tryd.isAgg3
  z3 := Tryd.sizeOf3
  v3 := Tryd.zeroValue3
  t4 := Tryd.underlying4
  a4 := Tryd.isAgg4
  z4 := Tryd.sizeOf4
  v4 := Tryd.zeroValue4
  t5 := Tryd.underlying5
  a5 := Tryd.isAgg5
  z5 := Tryd.sizeOf5
  v5 := Tryd.zeroValue5
  t9 := Tryd.underlying9
  a9 := Tryd.isAgg9
  z9 := Tryd.sizeOf9
  v9 := Tryd.zeroValue9
  t28 := Tryd.underlying27
  a28 := Tryd.isAgg27
  z28 := Tryd.sizeOf27
  v28 := Tryd.zeroValue27
  t46 := Tryd.underlying116
  a46 := Tryd.isAgg116
  z46 := Tryd.sizeOf116
  v46 := Tryd.zeroValue116
  t51 := Tryd.underlying196
  a51 := Tryd.isAgg196
  z51 := Tryd.sizeOf196
  v51 := Tryd.zeroValue196
  t53 := Tryd.underlying198
  a53 := Tryd.isAgg198
  z53 := Tryd.sizeOf198
  v53 := Tryd.zeroValue198
  t131 := Tryd.underlying102
  a131 := Tryd.isAgg102
  z131 := Tryd.sizeOf102
  v131 := Tryd.zeroValue102
  t182 := Tryd.underlying189
  a182 := Tryd.isAgg189
  z182 := Tryd.sizeOf189
  v182 := Tryd.zeroValue189
  t183 := Tryd.underlying190
  a183 := Tryd.isAgg190
  z183 := Tryd.sizeOf190
  v183 := Tryd.zeroValue190
  t218 := Tryd.underlying215
  a218 := Tryd.isAgg215
  z218 := Tryd.sizeOf215
  v218 := Tryd.zeroValue215
  t222 := Tryd.underlying219
  a222 := Tryd.isAgg219
  z222 := Tryd.sizeOf219
  v222 := Tryd.zeroValue219
  t228 := Tryd.underlying244
  a228 := Tryd.isAgg244
  z228 := Tryd.sizeOf244
  v228 := Tryd.zeroValue244
  t229 := Tryd.underlying245
  a229 := Tryd.isAgg245
  z229 := Tryd.sizeOf245
  v229 := Tryd.zeroValue245 }
open Go.Sort Go.RowKit in
theorem Sh.slices_Sort_int (blk off cap : Nat) (zs : List Int) (w : World) (hH : Holds (Value.int .i64) w blk off zs.toArray) (hblk : blk < w.heap.size) (hsz : zs.length < 4611686018427387904) :
    Calls Tryd.prog 45 #[.slice (some ⟨blk, off, none⟩) zs.length cap] w fun e w' =>
      e = .returned (.tuple #[]) ∧ ∃ n os, w' = grow (putRow (Value.int .i64) (Sort.ahead w n) blk off (zs.mergeSort fun x y => decide (x ≤ y)).toArray) os := Any.slices_Sort_int Sh.lays189 blk off cap zs w hH hblk hsz
def Sh.laysNm220_ren : Go.Shelf.Ren := ⟨fun | 20 => 46 | n => n, fun | 22 => 27 | 3 => 3 | 4 => 4 | 0 => 0 | n => n, fun | n => n⟩
theorem Sh.laysNm220 : Go.Proofs.Lays2.n20 Tryd.prog Sh.laysNm220_ren := {
  mixed := by kernel_rfl
  f20 := Tryd.func46.trans (congrArg some (by kernel_rfl))
  t0 := Tryd.underlying0
  a0 := Tryd.isAgg0
  z0 := Tryd.sizeOf0
  v0 := Tryd.zeroValue0
  t3 := Tryd.underlying3
  a3 := Tryd.isAgg3
  z3 := Tryd.sizeOf3
  v3 := Tryd.zeroValue3
  t4 := Tryd.underlying4
  a4 := Tryd.isAgg4
  z4 := Tryd.sizeOf4
  v4 := Tryd.zeroValue4
  t22 := Tryd.underlying27
  a22 := Tryd.isAgg27
  z22 := Tryd.sizeOf27
  v22 := Tryd.zeroValue27
  i3 := by kernel_rfl }
open Go.RowKit Go.Lib Go.Sort in
theorem Sh.slices_Compact_int (blk off cap : Nat) (zs : List Int) (w : World) (hH : Holds (Value.int .i64) w blk off zs.toArray) (hsz : zs.length ≤ 9223372036854775807) (hcap : zs.length ≤ cap) :
    Calls Tryd.prog 46 #[.slice (some ⟨blk, off, none⟩) zs.length cap] w fun e w' => e = .returned (.slice (some ⟨blk, off, none⟩) (Lib.compact zs).length cap) ∧ ∃ q, w' = putRow (Value.int .i64) (Sort.ahead w q) blk off (Lib.compact zs ++ List.replicate (zs.length - (Lib.compact zs).length) 0).toArray := Any.slices_Compact_int Sh.laysNm220 blk off cap zs w hH hsz hcap
open Go.RowKit Go.Lib Go.Sort in
theorem Sh.slices_Compact_int_empty (a : Option Addr) (cap : Nat) (w : World) :
    Calls Tryd.prog 46 #[.slice a 0 cap] w fun e w' => e = .returned (.slice a 0 cap) ∧ w' = w := Any.slices_Compact_int_empty Sh.laysNm220 a cap w
open Go.RowKit Go.Sort in
theorem Sh.slices_Sort_int_none (p : Option Addr) (cap : Nat) (w : World) :
    Calls Tryd.prog 45 #[.slice p 0 cap] w fun e w' => e = .returned (.tuple #[]) ∧ w' = w := Any.slices_Sort_int_none Sh.lays189 p cap w
end Go.Proofs.YtbdlmafhcgndeaaDoor
