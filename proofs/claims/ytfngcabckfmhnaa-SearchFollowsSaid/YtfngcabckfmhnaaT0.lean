/- sort.Strings over this program: the shelf's contract, laid by the kit's own program in plain words. -/
import Derived.Shelf.Sort.Plain
import Derived.Test.YtfngcabckfmhnaaProg
namespace Go.Proofs
open Go.Shelf
def Try.lays192_ren : Go.Shelf.Ren := ⟨fun | 192 => 45 | 190 => 58 | 125 => 66 | 258 => 65 | 128 => 79 | 129 => 80 | 302 => 70 | 303 => 71 | 304 => 72 | 305 => 73 | 306 => 74 | 307 => 75 | 308 => 76 | 309 => 77 | 310 => 78 | 333 => 82 | 329 => 83 | 330 => 84 | 334 => 85 | 335 => 86 | 336 => 87 | 344 => 88 | n => n, fun | 31 => 55 | 0 => 0 | 9 => 9 | 3 => 3 | 46 => 115 | 51 => 128 | 53 => 130 | 4 => 4 | 183 => 120 | 182 => 119 | 131 => 125 | 5 => 5 | 218 => 131 | 222 => 135 | 228 => 137 | 229 => 86 | n => n, fun | n => n⟩
theorem Try.lays192 : Go.Proofs.Lays.n192 Try.prog Try.lays192_ren := {
  mixed := by kernel_rfl
  f125 := Try.func66.trans (congrArg some (by kernel_rfl))
  f128 := Try.func79.trans (congrArg some (by kernel_rfl))
  f129 := Try.func80.trans (congrArg some (by kernel_rfl))
  f190 := Try.func58.trans (congrArg some (by kernel_rfl))
  f192 := Try.func45.trans (congrArg some (by kernel_rfl))
  f258 := Try.func65.trans (congrArg some (by kernel_rfl))
  f302 := Try.func70.trans (congrArg some (by kernel_rfl))
  f303 := Try.func71.trans (congrArg some (by kernel_rfl))
  f304 := Try.func72.trans (congrArg some (by kernel_rfl))
  f305 := Try.func73.trans (congrArg some (by kernel_rfl))
  f306 := Try.func74.trans (congrArg some (by kernel_rfl))
  f307 := Try.func75.trans (congrArg some (by kernel_rfl))
  f308 := Try.func76.trans (congrArg some (by kernel_rfl))
  f309 := Try.func77.trans (congrArg some (by kernel_rfl))
  f310 := Try.func78.trans (congrArg some (by kernel_rfl))
  f329 := Try.func83.trans (congrArg some (by kernel_rfl))
  f330 := Try.func84.trans (congrArg some (by kernel_rfl))
  f333 := Try.func82.trans (congrArg some (by kernel_rfl))
  f334 := Try.func85.trans (congrArg some (by kernel_rfl))
  f335 := Try.func86.trans (congrArg some (by kernel_rfl))
  f336 := Try.func87.trans (congrArg some (by kernel_rfl))
  f344 := Try.func88.trans (congrArg some (by kernel_rfl))
  t0 := Try.underlying0
  a0 := Try.isAgg0
  z0 := Try.sizeOf0
  v0 := Try.zeroValue0
  t3 := Try.underlying3
  a3 := Try.isAgg3
  z3 := Try.sizeOf3
  v3 := Try.zeroValue3
  t4 := Try.underlying4
  a4 := Try.isAgg4
  z4 := Try.sizeOf4
  v4 := Try.zeroValue4
  t5 := Try.underlying5
  a5 := Try.isAgg5
  z5 := Try.sizeOf5
  v5 := Try.zeroValue5
  t9 := Try.underlying9
  a9 := Try.isAgg9
  z9 := Try.sizeOf9
  v9 := Try.zeroValue9
  t31 := Try.underlying55
  a31 := Try.isAgg55
  z31 := Try.sizeOf55
  v31 := Try.zeroValue55
  t46 := Try.underlying115
  a46 := Try.isAgg115
  z46 := Try.sizeOf115
  v46 := Try.zeroValue115
  t51 := Try.underlying128
  a51 := Try.isAgg128
  z51 := Try.sizeOf128
  v51 := Try.zeroValue128
  t53 := Try.underlying130
  a53 := Try.isAgg130
  z53 := Try.sizeOf130
  v53 := Try.zeroValue130
  t131 := Try.underlying125
  a131 := Try.isAgg125
  z131 := Try.sizeOf125
  v131 := Try.zeroValue125
  t182 := Try.underlying119
  a182 := Try.isAgg119
  z182 := Try.sizeOf119
  v182 := Try.zeroValue119
  t183 := Try.underlying120
  a183 := Try.isAgg120
  z183 := Try.sizeOf120
  v183 := Try.zeroValue120
  t218 := Try.underlying131
  a218 := Try.isAgg131
  z218 := Try.sizeOf131
  v218 := Try.zeroValue131
  t222 := Try.underlying135
  a222 := Try.isAgg135
  z222 := Try.sizeOf135
  v222 := Try.zeroValue135
  t228 := Try.underlying137
  a228 := Try.isAgg137
  z228 := Try.sizeOf137
  v228 := Try.zeroValue137
  t229 := Try.underlying86
  a229 := Try.isAgg86
  z229 := Try.sizeOf86
  v229 := Try.zeroValue86 }
open Go.Sort Go.RowKit in
theorem Try.sort_Strings (blk off cap : Nat) (ss : List (List UInt8)) (w : World) (hH : Holds encStr w blk off ss.toArray) (hblk : blk < w.heap.size) (hsz : ss.length < 4611686018427387904) :
    Calls Try.prog 45 #[.slice (some ⟨blk, off, none⟩) ss.length cap] w fun e w' =>
      e = .returned (.tuple #[]) ∧ ∃ n os, w' = grow (putRow encStr (Sort.ahead w n) blk off (ss.mergeSort fun x y => decide (x ≤ y)).toArray) os := Any.sort_Strings Try.lays192 blk off cap ss w hH hblk hsz
end Go.Proofs
