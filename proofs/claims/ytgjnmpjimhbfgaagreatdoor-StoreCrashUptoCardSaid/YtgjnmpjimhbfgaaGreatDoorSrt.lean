/-
  slices.Sort at []int, off the library's shelf: the numbers of this program.
-/
import Derived.Test.YtgjnmpjimhbfgaaGreatDoorZzRowK
import Derived.Shelf.Sort.Plain
namespace Go.Proofs.YtgjnmpjimhbfgaaGreatDoor
set_option maxRecDepth 100000
open Go.RowKit Go.Shelf Go.Sort
def sortRen : Ren := ⟨fun | 125 => 102 | 128 => 127 | 129 => 128 | 189 => 84 | 215 => 152 | 216 => 124 | 257 => 101 | 294 => 118 | 295 => 119 | 296 => 120 | 297 => 121 | 298 => 122 | 299 => 123 | 300 => 125 | 301 => 126 | 328 => 147 | 329 => 148 | 330 => 149 | 331 => 150 | 332 => 151 | 343 => 164 | n => n, fun | 0 => 0 | 3 => 3 | 4 => 4 | 5 => 5 | 9 => 9 | 28 => 96 | 46 => 135 | 51 => 115 | 53 => 131 | 131 => 161 | 182 => 155 | 183 => 156 | 218 => 179 | 222 => 183 | 228 => 193 | 229 => 194 | n => n, fun n => n⟩
theorem sortLays : Lays.n189 Tryz.prog sortRen where
 mixed := by kernel_rfl
 f125 := Tryz.func102.trans (congrArg some (by kernel_rfl))
 f128 := Tryz.func127.trans (congrArg some (by kernel_rfl))
 f129 := Tryz.func128.trans (congrArg some (by kernel_rfl))
 f189 := Tryz.func84.trans (congrArg some (by kernel_rfl))
 f215 := Tryz.func152.trans (congrArg some (by kernel_rfl))
 f216 := Tryz.func124.trans (congrArg some (by kernel_rfl))
 f257 := Tryz.func101.trans (congrArg some (by kernel_rfl))
 f294 := Tryz.func118.trans (congrArg some (by kernel_rfl))
 f295 := Tryz.func119.trans (congrArg some (by kernel_rfl))
 f296 := Tryz.func120.trans (congrArg some (by kernel_rfl))
 f297 := Tryz.func121.trans (congrArg some (by kernel_rfl))
 f298 := Tryz.func122.trans (congrArg some (by kernel_rfl))
 f299 := Tryz.func123.trans (congrArg some (by kernel_rfl))
 f300 := Tryz.func125.trans (congrArg some (by kernel_rfl))
 f301 := Tryz.func126.trans (congrArg some (by kernel_rfl))
 f328 := Tryz.func147.trans (congrArg some (by kernel_rfl))
 f329 := Tryz.func148.trans (congrArg some (by kernel_rfl))
 f330 := Tryz.func149.trans (congrArg some (by kernel_rfl))
 f331 := Tryz.func150.trans (congrArg some (by kernel_rfl))
 f332 := Tryz.func151.trans (congrArg some (by kernel_rfl))
 f343 := Tryz.func164.trans (congrArg some (by kernel_rfl))
 t0 := Tryz.underlying0
 a0 := Tryz.isAgg0
 z0 := Tryz.sizeOf0
 v0 := Tryz.zeroValue0
 t3 := Tryz.underlying3
 a3 := Tryz.isAgg3
 z3 := Tryz.sizeOf3
 v3 := Tryz.zeroValue3
 t4 := Tryz.underlying4
 a4 := Tryz.isAgg4
 z4 := Tryz.sizeOf4
 v4 := Tryz.zeroValue4
 t5 := Tryz.underlying5
 a5 := Tryz.isAgg5
 z5 := Tryz.sizeOf5
 v5 := Tryz.zeroValue5
 t9 := Tryz.underlying9
 a9 := Tryz.isAgg9
 z9 := Tryz.sizeOf9
 v9 := Tryz.zeroValue9
 t28 := Tryz.underlying96
 a28 := Tryz.isAgg96
 z28 := Tryz.sizeOf96
 v28 := Tryz.zeroValue96
 t46 := Tryz.underlying135
 a46 := Tryz.isAgg135
 z46 := Tryz.sizeOf135
 v46 := Tryz.zeroValue135
 t51 := Tryz.underlying115
 a51 := Tryz.isAgg115
 z51 := Tryz.sizeOf115
 v51 := Tryz.zeroValue115
 t53 := Tryz.underlying131
 a53 := Tryz.isAgg131
 z53 := Tryz.sizeOf131
 v53 := Tryz.zeroValue131
 t131 := Tryz.underlying161
 a131 := Tryz.isAgg161
 z131 := Tryz.sizeOf161
 v131 := Tryz.zeroValue161
 t182 := Tryz.underlying155
 a182 := Tryz.isAgg155
 z182 := Tryz.sizeOf155
 v182 := Tryz.zeroValue155
 t183 := Tryz.underlying156
 a183 := Tryz.isAgg156
 z183 := Tryz.sizeOf156
 v183 := Tryz.zeroValue156
 t218 := Tryz.underlying179
 a218 := Tryz.isAgg179
 z218 := Tryz.sizeOf179
 v218 := Tryz.zeroValue179
 t222 := Tryz.underlying183
 a222 := Tryz.isAgg183
 z222 := Tryz.sizeOf183
 v222 := Tryz.zeroValue183
 t228 := Tryz.underlying193
 a228 := Tryz.isAgg193
 z228 := Tryz.sizeOf193
 v228 := Tryz.zeroValue193
 t229 := Tryz.underlying194
 a229 := Tryz.isAgg194
 z229 := Tryz.sizeOf194
 v229 := Tryz.zeroValue194
theorem sort_int (blk off cap : Nat) (zs : List Int) (w : World) (hH : Holds (Value.int .i64) w blk off zs.toArray) (hblk : blk < w.heap.size) (hsz : zs.length < 4611686018427387904) :
  Calls Tryz.prog 84 #[.slice (some ⟨blk, off, none⟩) zs.length cap] w fun e w' =>
   e = .returned (.tuple #[]) ∧ ∃ n os, w' = grow (putRow (Value.int .i64) (Sort.ahead w n) blk off (zs.mergeSort fun x y => decide (x ≤ y)).toArray) os := Any.slices_Sort_int sortLays blk off cap zs w hH hblk hsz
end Go.Proofs.YtgjnmpjimhbfgaaGreatDoor
