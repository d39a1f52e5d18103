import Derived.Shelf.Sort.Plain
import Derived.Ground.Names2Prog
import Derived.Shelf.Slices.CompactI
import Derived.Shelf.Slices.In.SortNone
import Derived.Test.YtmlfeocdcjhhaaaPE1
namespace Go.Proofs.Ytmlfeocdcjhhaaa
set_option maxRecDepth 100000
open Go.Shelf
def Try.lays189_ren : Go.Shelf.Ren := ⟨fun | 189 => 36 | 125 => 67 | 257 => 66 | 128 => 118 | 129 => 119 | 294 => 109 | 295 => 110 | 296 => 111 | 297 => 112 | 298 => 113 | 299 => 114 | 216 => 115 | 300 => 116 | 301 => 117 | 328 => 141 | 329 => 142 | 330 => 143 | 331 => 144 | 332 => 145 | 215 => 146 | 343 => 156 | n => n, fun | 28 => 31 | 3 => 3 | 46 => 108 | 0 => 0 | 51 => 146 | 53 => 148 | 4 => 4 | 183 => 138 | 182 => 137 | 131 => 143 | 5 => 5 | 9 => 9 | 218 => 160 | 222 => 164 | 228 => 170 | 229 => 171 | n => n, fun | n => n⟩
theorem Try.lays189 : Go.Proofs.Lays.n189 Try.prog Try.lays189_ren := {
  mixed := by kernel_rfl
  f125 := Try.func67.trans (congrArg some (by kernel_rfl))
  f128 := Try.func118.trans (congrArg some (by kernel_rfl))
  f129 := Try.func119.trans (congrArg some (by kernel_rfl))
  f189 := Try.func36.trans (congrArg some (by kernel_rfl))
  f215 := Try.func146.trans (congrArg some (by kernel_rfl))
  f216 := Try.func115.trans (congrArg some (by kernel_rfl))
  f257 := Try.func66.trans (congrArg some (by kernel_rfl))
  f294 := Try.func109.trans (congrArg some (by kernel_rfl))
  f295 := Try.func110.trans (congrArg some (by kernel_rfl))
  f296 := Try.func111.trans (congrArg some (by kernel_rfl))
  f297 := Try.func112.trans (congrArg some (by kernel_rfl))
  f298 := Try.func113.trans (congrArg some (by kernel_rfl))
  f299 := Try.func114.trans (congrArg some (by kernel_rfl))
  f300 := Try.func116.trans (congrArg some (by kernel_rfl))
  f301 := Try.func117.trans (congrArg some (by kernel_rfl))
  f328 := Try.func141.trans (congrArg some (by kernel_rfl))
  f329 := Try.func142.trans (congrArg some (by kernel_rfl))
  f330 := Try.func143.trans (congrArg some (by kernel_rfl))
  f331 := Try.func144.trans (congrArg some (by kernel_rfl))
  f332 := Try.func145.trans (congrArg some (by kernel_rfl))
  f343 := Try.func156.trans (congrArg some (by kernel_rfl))
  t0 := Try.underlying0
  a0 := Try.isAgg0
  z0 := Try.sizeOf0
  v0 := Try.zeroValue0
  t3 := Try.underlying3
  a3 := Try.isAgg3
  z3 := Try.sizeOf3
  v3 := Try.zeroValue3
  t4 := Try.underlying4
  a4 := Try.isAgg4
  z4 := Try.sizeOf4
  v4 := Try.zeroValue4
  t5 := Try.underlying5
  a5 := Try.isAgg5
  z5 := Try.sizeOf5
  v5 := Try.zeroValue5
  t9 := Try.underlying9
  a9 := Try.isAgg9
  z9 := Try.sizeOf9
  v9 := Try.zeroValue9
  t28 := Try.underlying31
  a28 := Try.isAgg31
  z28 := Try.sizeOf31
  v28 := Try.zeroValue31
  t46 := Try.underlying108
  a46 := Try.isAgg108
  z46 := Try.sizeOf108
  v46 := Try.zeroValue108
  t51 := Try.underlying146
  a51 := Try.isAgg146
  z51 := Try.sizeOf146
  v51 := Try.zeroValue146
  t53 := Try.underlying148
  a53 := Try.isAgg148
  z53 := Try.sizeOf148
  v53 := Try.zeroValue148
  t131 := Try.underlying143
  a131 := Try.isAgg143
  z131 := Try.sizeOf143
  v131 := Try.zeroValue143
  t182 := Try.underlying137
  a182 := Try.isAgg137
  z182 := Try.sizeOf137
  v182 := Try.zeroValue137
  t183 := Try.underlying138
  a183 := Try.isAgg138
  z183 := Try.sizeOf138
  v183 := Try.zeroValue138
  t218 := Try.underlying160
  a218 := Try.isAgg160
  z218 := Try.sizeOf160
  v218 := Try.zeroValue160
  t222 := Try.underlying164
  a222 := Try.isAgg164
  z222 := Try.sizeOf164
  v222 := Try.zeroValue164
  t228 := Try.underlying170
  a228 := Try.isAgg170
  z228 := Try.sizeOf170
  v228 := Try.zeroValue170
  t229 := Try.underlying171
  a229 := Try.isAgg171
  z229 := Try.sizeOf171
  v229 := Try.zeroValue171 }
open Go.Sort Go.RowKit in
theorem Try.slices_Sort_int (blk off cap : Nat) (zs : List Int) (w : World) (hH : Holds (Value.int .i64) w blk off zs.toArray) (hblk : blk < w.heap.size) (hsz : zs.length < 4611686018427387904) :
    Calls Try.prog 36 #[.slice (some ⟨blk, off, none⟩) zs.length cap] w fun e w' =>
      e = .returned (.tuple #[]) ∧ ∃ n os, w' = grow (putRow (Value.int .i64) (Sort.ahead w n) blk off (zs.mergeSort fun x y => decide (x ≤ y)).toArray) os := Any.slices_Sort_int Try.lays189 blk off cap zs w hH hblk hsz
def Try.laysNm220_ren : Go.Shelf.Ren := ⟨fun | 20 => 37 | n => n, fun | 22 => 31 | 3 => 3 | 4 => 4 | 0 => 0 | n => n, fun | n => n⟩
theorem Try.laysNm220 : Go.Proofs.Lays2.n20 Try.prog Try.laysNm220_ren := {
  mixed := by kernel_rfl
  f20 := Try.func37.trans (congrArg some (by kernel_rfl))
  t0 := Try.underlying0
  a0 := Try.isAgg0
  z0 := Try.sizeOf0
  v0 := Try.zeroValue0
  t3 := Try.underlying3
  a3 := Try.isAgg3
  z3 := Try.sizeOf3
  v3 := Try.zeroValue3
  t4 := Try.underlying4
  a4 := Try.isAgg4
  z4 := Try.sizeOf4
  v4 := Try.zeroValue4
  t22 := Try.underlying31
  a22 := Try.isAgg31
  z22 := Try.sizeOf31
  v22 := Try.zeroValue31
  i3 := by kernel_rfl }
open Go.RowKit Go.Lib Go.Sort in
/-- slices.Compact at []int, over an array: the library's two loops are walked. (LAID: no walk: one application.) -/
theorem Try.slices_Compact_int_arr (blk off cap : Nat) (d : Array Int) (w : World) (hH : Holds encI w blk off d) (hsz : d.size ≤ 9223372036854775807) (hcap : d.size ≤ cap) :
    Calls Try.prog 37 #[.slice (some ⟨blk, off, none⟩) d.size cap] w fun e w' => e = .returned (.slice (some ⟨blk, off, none⟩) (compactUpTo d d.size).length cap) ∧ ∃ q, w' = putRow encI (Sort.ahead w q) blk off (compactUpTo d d.size ++ List.replicate (d.size - (compactUpTo d d.size).length) 0).toArray := Any.slices_Compact_int_arr Try.laysNm220 blk off cap d w hH hsz hcap
open Go.RowKit Go.Lib Go.Sort in
/-- slices.Compact at []int: "Compact replaces consecutive runs of equal elements with a single copy. This is like the uniq command found on Unix. Compact modifies the contents of the slice s and returns the modified slice, which may have a smaller length. Compact zeroes the elements between the new length and the original length. The result preserves the nilness of s.": IT RETURNS THE SLICE CUT TO 'Lib.compact zs'; ITS CELLS HOLD 'Lib.compact zs', THEN ZERO VALUES up to the old length; all else is as it was, but for the count of draws. IN THE WORDS OF slices.Sort's CONTRACT ('Holds', 'putRow'): so the everyday 'slices.Sort(xs); xs = slices.Compact(xs)' goes from the one contract to the other. It asks 'zs.length ≤ cap' (every slice's: the reslicing 's[:k]' looks at it). Length 0, nil: '.._empty'. (LAID: no walk: one application.) -/
theorem Try.slices_Compact_int (blk off cap : Nat) (zs : List Int) (w : World) (hH : Holds (Value.int .i64) w blk off zs.toArray) (hsz : zs.length ≤ 9223372036854775807) (hcap : zs.length ≤ cap) :
    Calls Try.prog 37 #[.slice (some ⟨blk, off, none⟩) zs.length cap] w fun e w' => e = .returned (.slice (some ⟨blk, off, none⟩) (Lib.compact zs).length cap) ∧ ∃ q, w' = putRow (Value.int .i64) (Sort.ahead w q) blk off (Lib.compact zs ++ List.replicate (zs.length - (Lib.compact zs).length) 0).toArray := Any.slices_Compact_int Try.laysNm220 blk off cap zs w hH hsz hcap
open Go.RowKit Go.Lib Go.Sort in
/-- The same at a slice of length 0, a nil one too: it comes back as it is. (LAID: no walk: one application.) -/
theorem Try.slices_Compact_int_empty (a : Option Addr) (cap : Nat) (w : World) :
    Calls Try.prog 37 #[.slice a 0 cap] w fun e w' => e = .returned (.slice a 0 cap) ∧ w' = w := Any.slices_Compact_int_empty Try.laysNm220 a cap w
open Go.RowKit Go.Sort in
/-- .. and plain. (LAID: no walk: one application.) -/
theorem Try.slices_Sort_int_none (p : Option Addr) (cap : Nat) (w : World) :
    Calls Try.prog 36 #[.slice p 0 cap] w fun e w' => e = .returned (.tuple #[]) ∧ w' = w := Any.slices_Sort_int_none Try.lays189 p cap w
end Go.Proofs.Ytmlfeocdcjhhaaa
