/- The shelf's contracts at this translation. -/
import Derived.Shelf.Small.Bits
import Derived.Shelf.Small.Wraps
import Derived.Shelf.Strconv.Itoa0
import Derived.Shelf.Sort.Plain
import Derived.Ground.Names2Prog
import Derived.Shelf.Slices.CompactI
import Derived.Shelf.Slices.SearchI
import Derived.Shelf.Slices.Cells
import Derived.Shelf.Slices.In.SortNone
import Derived.Test.YtmifgnibalbgjaaGreatProg
import Derived.Test.YtmifgnibalbgjaaGreatZG
import Derived.Shelf.SlicesE.Clone
namespace Go.Proofs
open Go.Shelf
def Tryz.lays128_ren : Go.Shelf.Ren := ⟨fun | 128 => 175 | n => n, fun | 51 => 234 | 3 => 3 | 4 => 4 | 46 => 205 | 5 => 5 | 9 => 9 | n => n, fun | n => n⟩
theorem Tryz.lays128 : Go.Proofs.Lays.n128 Tryz.prog Tryz.lays128_ren := {
  mixed := by kernel_rfl
  f128 := Tryz.func175.trans (congrArg some (by kernel_rfl))
  t3 := Tryz.underlying3
  a3 := Tryz.isAgg3
  z3 := Tryz.sizeOf3
  v3 := Tryz.zeroValue3
  t4 := Tryz.underlying4
  a4 := Tryz.isAgg4
  z4 := Tryz.sizeOf4
  v4 := Tryz.zeroValue4
  t5 := Tryz.underlying5
  a5 := Tryz.isAgg5
  z5 := Tryz.sizeOf5
  v5 := Tryz.zeroValue5
  t9 := Tryz.underlying9
  a9 := Tryz.isAgg9
  z9 := Tryz.sizeOf9
  v9 := Tryz.zeroValue9
  t46 := Tryz.underlying205
  a46 := Tryz.isAgg205
  z46 := Tryz.sizeOf205
  v46 := Tryz.zeroValue205
  t51 := Tryz.underlying234
  a51 := Tryz.isAgg234
  z51 := Tryz.sizeOf234
  v51 := Tryz.zeroValue234 }
/-- bits.Len32: "Len32 returns the minimum number of bits required to represent x; the result is 0 for x == 0.": IT RETURNS 'Lib.bitLen x'; the world is as it was. ('h0', 'h1': x is a uint32.) (LAID: no walk: one application.) -/
theorem Tryz.bits_Len32 (x : Int) (w : World) (h0 : 0 ≤ x) (h1 : x ≤ 4294967295) :
    Calls Tryz.prog 175 #[.int .u32 x] w fun e w' => e = .returned (.int .i64 (Lib.bitLen x.toNat)) ∧ w' = w := Any.bits_Len32 Tryz.lays128 x w h0 h1
def Tryz.lays125_ren : Go.Shelf.Ren := ⟨fun | 125 => 139 | 128 => 175 | 129 => 176 | n => n, fun | 46 => 205 | 3 => 3 | 51 => 234 | 53 => 236 | 4 => 4 | 5 => 5 | 9 => 9 | n => n, fun | n => n⟩
theorem Tryz.lays125 : Go.Proofs.Lays.n125 Tryz.prog Tryz.lays125_ren := {
  mixed := by kernel_rfl
  f125 := Tryz.func139.trans (congrArg some (by kernel_rfl))
  f128 := Tryz.func175.trans (congrArg some (by kernel_rfl))
  f129 := Tryz.func176.trans (congrArg some (by kernel_rfl))
  t3 := Tryz.underlying3
  a3 := Tryz.isAgg3
  z3 := Tryz.sizeOf3
  v3 := Tryz.zeroValue3
  t4 := Tryz.underlying4
  a4 := Tryz.isAgg4
  z4 := Tryz.sizeOf4
  v4 := Tryz.zeroValue4
  t5 := Tryz.underlying5
  a5 := Tryz.isAgg5
  z5 := Tryz.sizeOf5
  v5 := Tryz.zeroValue5
  t9 := Tryz.underlying9
  a9 := Tryz.isAgg9
  z9 := Tryz.sizeOf9
  v9 := Tryz.zeroValue9
  t46 := Tryz.underlying205
  a46 := Tryz.isAgg205
  z46 := Tryz.sizeOf205
  v46 := Tryz.zeroValue205
  t51 := Tryz.underlying234
  a51 := Tryz.isAgg234
  z51 := Tryz.sizeOf234
  v51 := Tryz.zeroValue234
  t53 := Tryz.underlying236
  a53 := Tryz.isAgg236
  z53 := Tryz.sizeOf236
  v53 := Tryz.zeroValue236 }
/-- bits.Len: "Len returns the minimum number of bits required to represent x; the result is 0 for x == 0.": IT RETURNS 'Lib.bitLen x'; the world is as it was. (A uint has 64 bits in the model.) ITS CALLEE bits.Len64 IS MET BY ITS OWN CONTRACT OFF THE SHELF (lay that first). (LAID: no walk: one application.) -/
theorem Tryz.bits_Len (x : Int) (w : World) (h0 : 0 ≤ x) (h1 : x ≤ 18446744073709551615) :
    Calls Tryz.prog 139 #[.int .u64 x] w fun e w' => e = .returned (.int .i64 (Lib.bitLen x.toNat)) ∧ w' = w := Any.bits_Len Tryz.lays125 x w h0 h1
def Tryz.lays215_ren : Go.Shelf.Ren := ⟨fun | 215 => 190 | n => n, fun | 3 => 3 | 4 => 4 | n => n, fun | n => n⟩
theorem Tryz.lays215 : Go.Proofs.Lays.n215 Tryz.prog Tryz.lays215_ren := {
  mixed := by kernel_rfl
  f215 := Tryz.func190.trans (congrArg some (by kernel_rfl))
  t3 := Tryz.underlying3
  a3 := Tryz.isAgg3
  z3 := Tryz.sizeOf3
  v3 := Tryz.zeroValue3
  t4 := Tryz.underlying4
  a4 := Tryz.isAgg4
  z4 := Tryz.sizeOf4
  v4 := Tryz.zeroValue4 }
open Go.RowKit in
/-- cmp.isNaN at int: 'x != x': false. (LAID: no walk: one application.) -/
theorem Tryz.cmp_isNaN_int (x : Int) (w : World) :
    Calls Tryz.prog 190 #[.int .i64 x] w fun e w' => e = .returned (.bool false) ∧ w' = w := Any.cmp_isNaN_int Tryz.lays215 x w
def Tryz.lays122_ren : Go.Shelf.Ren := ⟨fun | 122 => 158 | 215 => 190 | n => n, fun | 3 => 3 | 4 => 4 | n => n, fun | n => n⟩
theorem Tryz.lays122 : Go.Proofs.Lays.n122 Tryz.prog Tryz.lays122_ren := {
  mixed := by kernel_rfl
  f122 := Tryz.func158.trans (congrArg some (by kernel_rfl))
  f215 := Tryz.func190.trans (congrArg some (by kernel_rfl))
  t3 := Tryz.underlying3
  a3 := Tryz.isAgg3
  z3 := Tryz.sizeOf3
  v3 := Tryz.zeroValue3
  t4 := Tryz.underlying4
  a4 := Tryz.isAgg4
  z4 := Tryz.sizeOf4
  v4 := Tryz.zeroValue4 }
open Go.RowKit in
/-- cmp.Compare at int: "Compare returns -1 if x is less than y, 0 if x equals y, +1 if x is greater than y.": IT RETURNS 'Lib.compareInt x y'; the world is as it was. (LAID: no walk: one application.) -/
theorem Tryz.cmp_Compare_int (x y : Int) (w : World) :
    Calls Tryz.prog 158 #[.int .i64 x, .int .i64 y] w fun e w' => e = .returned (.int .i64 (Lib.compareInt x y)) ∧ w' = w := Any.cmp_Compare_int Tryz.lays122 x y w
def Tryz.lays129_ren : Go.Shelf.Ren := ⟨fun | 129 => 176 | n => n, fun | 53 => 236 | 3 => 3 | 4 => 4 | 46 => 205 | 5 => 5 | 9 => 9 | n => n, fun | n => n⟩
theorem Tryz.lays129 : Go.Proofs.Lays.n129 Tryz.prog Tryz.lays129_ren := {
  mixed := by kernel_rfl
  f129 := Tryz.func176.trans (congrArg some (by kernel_rfl))
  t3 := Tryz.underlying3
  a3 := Tryz.isAgg3
  z3 := Tryz.sizeOf3
  v3 := Tryz.zeroValue3
  t4 := Tryz.underlying4
  a4 := Tryz.isAgg4
  z4 := Tryz.sizeOf4
  v4 := Tryz.zeroValue4
  t5 := Tryz.underlying5
  a5 := Tryz.isAgg5
  z5 := Tryz.sizeOf5
  v5 := Tryz.zeroValue5
  t9 := Tryz.underlying9
  a9 := Tryz.isAgg9
  z9 := Tryz.sizeOf9
  v9 := Tryz.zeroValue9
  t46 := Tryz.underlying205
  a46 := Tryz.isAgg205
  z46 := Tryz.sizeOf205
  v46 := Tryz.zeroValue205
  t53 := Tryz.underlying236
  a53 := Tryz.isAgg236
  z53 := Tryz.sizeOf236
  v53 := Tryz.zeroValue236 }
/-- bits.Len64: "Len64 returns the minimum number of bits required to represent x; the result is 0 for x == 0.": IT RETURNS 'Lib.bitLen x'; the world is as it was. ('h0', 'h1': x is a uint64.) (LAID: no walk: one application.) -/
theorem Tryz.bits_Len64 (x : Int) (w : World) (h0 : 0 ≤ x) (h1 : x ≤ 18446744073709551615) :
    Calls Tryz.prog 176 #[.int .u64 x] w fun e w' => e = .returned (.int .i64 (Lib.bitLen x.toNat)) ∧ w' = w := Any.bits_Len64 Tryz.lays129 x w h0 h1
def Tryz.lays189_ren : Go.Shelf.Ren := ⟨fun | 189 => 93 | 125 => 139 | 257 => 138 | 128 => 175 | 129 => 176 | 294 => 166 | 295 => 167 | 296 => 168 | 297 => 169 | 298 => 170 | 299 => 171 | 216 => 172 | 300 => 173 | 301 => 174 | 328 => 196 | 329 => 197 | 330 => 198 | 331 => 199 | 332 => 200 | 215 => 190 | 343 => 206 | n => n, fun | 28 => 102 | 3 => 3 | 46 => 205 | 0 => 0 | 51 => 234 | 53 => 236 | 4 => 4 | 183 => 228 | 182 => 227 | 131 => 48 | 5 => 5 | 9 => 9 | 218 => 247 | 222 => 251 | 228 => 257 | 229 => 258 | n => n, fun | n => n⟩
theorem Tryz.lays189 : Go.Proofs.Lays.n189 Tryz.prog Tryz.lays189_ren := {
  mixed := by kernel_rfl
  f125 := Tryz.func139.trans (congrArg some (by kernel_rfl))
  f128 := Tryz.func175.trans (congrArg some (by kernel_rfl))
  f129 := Tryz.func176.trans (congrArg some (by kernel_rfl))
  f189 := Tryz.func93.trans (congrArg some (by kernel_rfl))
  f215 := Tryz.func190.trans (congrArg some (by kernel_rfl))
  f216 := Tryz.func172.trans (congrArg some (by kernel_rfl))
  f257 := Tryz.func138.trans (congrArg some (by kernel_rfl))
  f294 := Tryz.func166.trans (congrArg some (by kernel_rfl))
  f295 := Tryz.func167.trans (congrArg some (by kernel_rfl))
  f296 := Tryz.func168.trans (congrArg some (by kernel_rfl))
  f297 := Tryz.func169.trans (congrArg some (by kernel_rfl))
  f298 := Tryz.func170.trans (congrArg some (by kernel_rfl))
  f299 := Tryz.func171.trans (congrArg some (by kernel_rfl))
  f300 := Tryz.func173.trans (congrArg some (by kernel_rfl))
  f301 := Tryz.func174.trans (congrArg some (by kernel_rfl))
  f328 := Tryz.func196.trans (congrArg some (by kernel_rfl))
  f329 := Tryz.func197.trans (congrArg some (by kernel_rfl))
  f330 := Tryz.func198.trans (congrArg some (by kernel_rfl))
  f331 := Tryz.func199.trans (congrArg some (by kernel_rfl))
  f332 := Tryz.func200.trans (congrArg some (by kernel_rfl))
  f343 := Tryz.func206.trans (congrArg some (by kernel_rfl))
  t0 := Tryz.underlying0
  a0 := Tryz.isAgg0
  z0 := Tryz.sizeOf0
  v0 := Tryz.zeroValue0
  t3 := Tryz.underlying3
  a3 := Tryz.isAgg3
  z3 := Tryz.sizeOf3
  v3 := Tryz.zeroValue3
  t4 := Tryz.underlying4
  a4 := Tryz.isAgg4
  z4 := Tryz.sizeOf4
  v4 := Tryz.zeroValue4
  t5 := Tryz.underlying5
  a5 := Tryz.isAgg5
  z5 := Tryz.sizeOf5
  v5 := Tryz.zeroValue5
  t9 := Tryz.underlying9
  a9 := Tryz.isAgg9
  z9 := Tryz.sizeOf9
  v9 := Tryz.zeroValue9
  t28 := Tryz.underlying102
  a28 := Tryz.isAgg102
  z28 := Tryz.sizeOf102
  v28 := Tryz.zeroValue102
  t46 := Tryz.underlying205
  a46 := Tryz.isAgg205
  z46 := Tryz.sizeOf205
  v46 := Tryz.zeroValue205
  t51 := Tryz.underlying234
  a51 := Tryz.isAgg234
  z51 := Tryz.sizeOf234
  v51 := Tryz.zeroValue234
  t53 := Tryz.underlying236
  a53 := Tryz.isAgg236
  z53 := Tryz.sizeOf236
  v53 := Tryz.zeroValue236
  t131 := Tryz.underlying48
  a131 := Tryz.isAgg48
  z131 := Tryz.sizeOf48
  v131 := Tryz.zeroValue48
  t182 := Tryz.underlying227
  a182 := Tryz.isAgg227
  z182 := Tryz.sizeOf227
  v182 := Tryz.zeroValue227
  t183 := Tryz.underlying228
  a183 := Tryz.isAgg228
  z183 := Tryz.sizeOf228
  v183 := Tryz.zeroValue228
  t218 := Tryz.underlying247
  a218 := Tryz.isAgg247
  z218 := Tryz.sizeOf247
  v218 := Tryz.zeroValue247
  t222 := Tryz.underlying251
  a222 := Tryz.isAgg251
  z222 := Tryz.sizeOf251
  v222 := Tryz.zeroValue251
  t228 := Tryz.underlying257
  a228 := Tryz.isAgg257
  z228 := Tryz.sizeOf257
  v228 := Tryz.zeroValue257
  t229 := Tryz.underlying258
  a229 := Tryz.isAgg258
  z229 := Tryz.sizeOf258
  v229 := Tryz.zeroValue258 }
open Go.Sort Go.RowKit in
theorem Tryz.slices_Sort_int (blk off cap : Nat) (zs : List Int) (w : World) (hH : Holds (Value.int .i64) w blk off zs.toArray) (hblk : blk < w.heap.size) (hsz : zs.length < 4611686018427387904) :
    Calls Tryz.prog 93 #[.slice (some ⟨blk, off, none⟩) zs.length cap] w fun e w' =>
      e = .returned (.tuple #[]) ∧ ∃ n os, w' = grow (putRow (Value.int .i64) (Sort.ahead w n) blk off (zs.mergeSort fun x y => decide (x ≤ y)).toArray) os := Any.slices_Sort_int Tryz.lays189 blk off cap zs w hH hblk hsz
def Tryz.lays190_ren : Go.Shelf.Ren := ⟨fun | 190 => 180 | 125 => 139 | 258 => 202 | 128 => 175 | 129 => 176 | 302 => 207 | 303 => 208 | 304 => 209 | 305 => 210 | 306 => 211 | 307 => 212 | 308 => 213 | 309 => 214 | 310 => 215 | 333 => 217 | 329 => 197 | 330 => 198 | 334 => 218 | 335 => 219 | 336 => 164 | 344 => 220 | n => n, fun | 31 => 131 | 9 => 9 | 3 => 3 | 46 => 205 | 0 => 0 | 51 => 234 | 53 => 236 | 4 => 4 | 183 => 228 | 182 => 227 | 131 => 48 | 5 => 5 | 218 => 247 | 222 => 251 | 228 => 257 | 229 => 258 | n => n, fun | n => n⟩
theorem Tryz.lays190 : Go.Proofs.Lays.n190 Tryz.prog Tryz.lays190_ren := {
  mixed := by kernel_rfl
  f125 := Tryz.func139.trans (congrArg some (by kernel_rfl))
  f128 := Tryz.func175.trans (congrArg some (by kernel_rfl))
  f129 := Tryz.func176.trans (congrArg some (by kernel_rfl))
  f190 := Tryz.func180.trans (congrArg some (by kernel_rfl))
  f258 := Tryz.func202.trans (congrArg some (by kernel_rfl))
  f302 := Tryz.func207.trans (congrArg some (by kernel_rfl))
  f303 := Tryz.func208.trans (congrArg some (by kernel_rfl))
  f304 := Tryz.func209.trans (congrArg some (by kernel_rfl))
  f305 := Tryz.func210.trans (congrArg some (by kernel_rfl))
  f306 := Tryz.func211.trans (congrArg some (by kernel_rfl))
  f307 := Tryz.func212.trans (congrArg some (by kernel_rfl))
  f308 := Tryz.func213.trans (congrArg some (by kernel_rfl))
  f309 := Tryz.func214.trans (congrArg some (by kernel_rfl))
  f310 := Tryz.func215.trans (congrArg some (by kernel_rfl))
  f329 := Tryz.func197.trans (congrArg some (by kernel_rfl))
  f330 := Tryz.func198.trans (congrArg some (by kernel_rfl))
  f333 := Tryz.func217.trans (congrArg some (by kernel_rfl))
  f334 := Tryz.func218.trans (congrArg some (by kernel_rfl))
  f335 := Tryz.func219.trans (congrArg some (by kernel_rfl))
  f336 := Tryz.func164.trans (congrArg some (by kernel_rfl))
  f344 := Tryz.func220.trans (congrArg some (by kernel_rfl))
  t0 := Tryz.underlying0
  a0 := Tryz.isAgg0
  z0 := Tryz.sizeOf0
  v0 := Tryz.zeroValue0
  t3 := Tryz.underlying3
  a3 := Tryz.isAgg3
  z3 := Tryz.sizeOf3
  v3 := Tryz.zeroValue3
  t4 := Tryz.underlying4
  a4 := Tryz.isAgg4
  z4 := Tryz.sizeOf4
  v4 := Tryz.zeroValue4
  t5 := Tryz.underlying5
  a5 := Tryz.isAgg5
  z5 := Tryz.sizeOf5
  v5 := Tryz.zeroValue5
  t9 := Tryz.underlying9
  a9 := Tryz.isAgg9
  z9 := Tryz.sizeOf9
  v9 := Tryz.zeroValue9
  t31 := Tryz.underlying131
  a31 := Tryz.isAgg131
  z31 := Tryz.sizeOf131
  v31 := Tryz.zeroValue131
  t46 := Tryz.underlying205
  a46 := Tryz.isAgg205
  z46 := Tryz.sizeOf205
  v46 := Tryz.zeroValue205
  t51 := Tryz.underlying234
  a51 := Tryz.isAgg234
  z51 := Tryz.sizeOf234
  v51 := Tryz.zeroValue234
  t53 := Tryz.underlying236
  a53 := Tryz.isAgg236
  z53 := Tryz.sizeOf236
  v53 := Tryz.zeroValue236
  t131 := Tryz.underlying48
  a131 := Tryz.isAgg48
  z131 := Tryz.sizeOf48
  v131 := Tryz.zeroValue48
  t182 := Tryz.underlying227
  a182 := Tryz.isAgg227
  z182 := Tryz.sizeOf227
  v182 := Tryz.zeroValue227
  t183 := Tryz.underlying228
  a183 := Tryz.isAgg228
  z183 := Tryz.sizeOf228
  v183 := Tryz.zeroValue228
  t218 := Tryz.underlying247
  a218 := Tryz.isAgg247
  z218 := Tryz.sizeOf247
  v218 := Tryz.zeroValue247
  t222 := Tryz.underlying251
  a222 := Tryz.isAgg251
  z222 := Tryz.sizeOf251
  v222 := Tryz.zeroValue251
  t228 := Tryz.underlying257
  a228 := Tryz.isAgg257
  z228 := Tryz.sizeOf257
  v228 := Tryz.zeroValue257
  t229 := Tryz.underlying258
  a229 := Tryz.isAgg258
  z229 := Tryz.sizeOf258
  v229 := Tryz.zeroValue258 }
open Go.Sort Go.RowKit in
theorem Tryz.slices_Sort_string (blk off cap : Nat) (ss : List (List UInt8)) (w : World) (hH : Holds encStr w blk off ss.toArray) (hblk : blk < w.heap.size) (hsz : ss.length < 4611686018427387904) :
    Calls Tryz.prog 180 #[.slice (some ⟨blk, off, none⟩) ss.length cap] w fun e w' =>
      e = .returned (.tuple #[]) ∧ ∃ n os, w' = grow (putRow encStr (Sort.ahead w n) blk off (ss.mergeSort fun x y => decide (x ≤ y)).toArray) os := Any.slices_Sort_string Tryz.lays190 blk off cap ss w hH hblk hsz
def Tryz.laysNm220_ren : Go.Shelf.Ren := ⟨fun | 20 => 116 | n => n, fun | 22 => 102 | 3 => 3 | 4 => 4 | 0 => 0 | n => n, fun | n => n⟩
theorem Tryz.laysNm220 : Go.Proofs.Lays2.n20 Tryz.prog Tryz.laysNm220_ren := {
  mixed := by kernel_rfl
  f20 := Tryz.func116.trans (congrArg some (by kernel_rfl))
  t0 := Tryz.underlying0
  a0 := Tryz.isAgg0
  z0 := Tryz.sizeOf0
  v0 := Tryz.zeroValue0
  t3 := Tryz.underlying3
  a3 := Tryz.isAgg3
  z3 := Tryz.sizeOf3
  v3 := Tryz.zeroValue3
  t4 := Tryz.underlying4
  a4 := Tryz.isAgg4
  z4 := Tryz.sizeOf4
  v4 := Tryz.zeroValue4
  t22 := Tryz.underlying102
  a22 := Tryz.isAgg102
  z22 := Tryz.sizeOf102
  v22 := Tryz.zeroValue102
  i3 := by kernel_rfl }
open Go.RowKit Go.Lib Go.Sort in
/-- slices.Compact at []int, over an array: the library's two loops are walked. (LAID: no walk: one application.) -/
theorem Tryz.slices_Compact_int_arr (blk off cap : Nat) (d : Array Int) (w : World) (hH : Holds encI w blk off d) (hsz : d.size ≤ 9223372036854775807) (hcap : d.size ≤ cap) :
    Calls Tryz.prog 116 #[.slice (some ⟨blk, off, none⟩) d.size cap] w fun e w' => e = .returned (.slice (some ⟨blk, off, none⟩) (compactUpTo d d.size).length cap) ∧ ∃ q, w' = putRow encI (Sort.ahead w q) blk off (compactUpTo d d.size ++ List.replicate (d.size - (compactUpTo d d.size).length) 0).toArray := Any.slices_Compact_int_arr Tryz.laysNm220 blk off cap d w hH hsz hcap
open Go.RowKit Go.Lib Go.Sort in
/-- slices.Compact at []int: "Compact replaces consecutive runs of equal elements with a single copy. This is like the uniq command found on Unix. Compact modifies the contents of the slice s and returns the modified slice, which may have a smaller length. Compact zeroes the elements between the new length and the original length. The result preserves the nilness of s.": IT RETURNS THE SLICE CUT TO 'Lib.compact zs'; ITS CELLS HOLD 'Lib.compact zs', THEN ZERO VALUES up to the old length; all else is as it was, but for the count of draws. IN THE WORDS OF slices.Sort's CONTRACT ('Holds', 'putRow'): so the everyday 'slices.Sort(xs); xs = slices.Compact(xs)' goes from the one contract to the other. It asks 'zs.length ≤ cap' (every slice's: the reslicing 's[:k]' looks at it). Length 0, nil: '.._empty'. (LAID: no walk: one application.) -/
theorem Tryz.slices_Compact_int (blk off cap : Nat) (zs : List Int) (w : World) (hH : Holds (Value.int .i64) w blk off zs.toArray) (hsz : zs.length ≤ 9223372036854775807) (hcap : zs.length ≤ cap) :
    Calls Tryz.prog 116 #[.slice (some ⟨blk, off, none⟩) zs.length cap] w fun e w' => e = .returned (.slice (some ⟨blk, off, none⟩) (Lib.compact zs).length cap) ∧ ∃ q, w' = putRow (Value.int .i64) (Sort.ahead w q) blk off (Lib.compact zs ++ List.replicate (zs.length - (Lib.compact zs).length) 0).toArray := Any.slices_Compact_int Tryz.laysNm220 blk off cap zs w hH hsz hcap
open Go.RowKit Go.Lib Go.Sort in
/-- The same at a slice of length 0, a nil one too: it comes back as it is. (LAID: no walk: one application.) -/
theorem Tryz.slices_Compact_int_empty (a : Option Addr) (cap : Nat) (w : World) :
    Calls Tryz.prog 116 #[.slice a 0 cap] w fun e w' => e = .returned (.slice a 0 cap) ∧ w' = w := Any.slices_Compact_int_empty Tryz.laysNm220 a cap w
def Tryz.laysNm237_ren : Go.Shelf.Ren := ⟨fun | 37 => 190 | n => n, fun | 3 => 3 | 4 => 4 | n => n, fun | n => n⟩
theorem Tryz.laysNm237 : Go.Proofs.Lays2.n37 Tryz.prog Tryz.laysNm237_ren := {
  mixed := by kernel_rfl
  f37 := Tryz.func190.trans (congrArg some (by kernel_rfl))
  t3 := Tryz.underlying3
  a3 := Tryz.isAgg3
  z3 := Tryz.sizeOf3
  v3 := Tryz.zeroValue3
  t4 := Tryz.underlying4
  a4 := Tryz.isAgg4
  z4 := Tryz.sizeOf4
  v4 := Tryz.zeroValue4 }
open Go.RowKit Go.Lib in
/-- cmp.isNaN[int]: 'x != x': false. (LAID: no walk: one application.) -/
theorem Tryz.cmp_isNaN_int2 (x : Int) (w : World) :
    Calls Tryz.prog 190 #[.int .i64 x] w fun e w' => e = .returned (.bool false) ∧ w' = w := Any.cmp_isNaN_int2 Tryz.laysNm237 x w
def Tryz.laysNm231_ren : Go.Shelf.Ren := ⟨fun | 31 => 172 | 37 => 190 | n => n, fun | 3 => 3 | 4 => 4 | n => n, fun | n => n⟩
theorem Tryz.laysNm231 : Go.Proofs.Lays2.n31 Tryz.prog Tryz.laysNm231_ren := {
  mixed := by kernel_rfl
  f31 := Tryz.func172.trans (congrArg some (by kernel_rfl))
  f37 := Tryz.func190.trans (congrArg some (by kernel_rfl))
  t3 := Tryz.underlying3
  a3 := Tryz.isAgg3
  z3 := Tryz.sizeOf3
  v3 := Tryz.zeroValue3
  t4 := Tryz.underlying4
  a4 := Tryz.isAgg4
  z4 := Tryz.sizeOf4
  v4 := Tryz.zeroValue4 }
open Go.RowKit Go.Lib in
/-- cmp.Less[int]: "Less reports whether x is less than y.": 'x < y'; the world is as it was. (LAID: no walk: one application.) -/
theorem Tryz.cmp_Less_int2 (x y : Int) (w : World) :
    Calls Tryz.prog 172 #[.int .i64 x, .int .i64 y] w fun e w' => e = .returned (.bool (decide (x < y))) ∧ w' = w := Any.cmp_Less_int2 Tryz.laysNm231 x y w
open Go.RowKit Go.Lib Go.Sort in
/-- slices.Compact at []int, of an argument: the slice cut to 'Lib.compact (elements)'; the n cells hold that, then zeros. (LAID: no walk: one application.) -/
theorem Tryz.slices_Compact_int_cells (b off n c : Nat) (zs : List Int) (w : World) (hz : n ≤ zs.length) (hbig : n ≤ 9223372036854775807) (hcap : n ≤ c) (hc : ∀ j, j < zs.length → w.cell? ⟨b, off + j, none⟩ = some (.int .i64 (zs.getD j 0))) (hf : ∀ j, j < n → w.frozen? ⟨b, off + j, none⟩ = false) :
    Calls Tryz.prog 116 #[.slice (some ⟨b, off, none⟩) n c] w fun e w' => e = .returned (.slice (some ⟨b, off, none⟩) (Lib.compact (zs.take n)).length c) ∧ ∃ q, w' = (w.drewN q).setCells b off ((Lib.compact (zs.take n) ++ List.replicate (n - (Lib.compact (zs.take n)).length) 0).map (Value.int .i64)) := Any.slices_Compact_int_cells Tryz.laysNm220 b off n c zs w hz hbig hcap hc hf
open Go.RowKit Go.Sort in
/-- .. and plain. (LAID: no walk: one application.) -/
theorem Tryz.slices_Sort_string_none (p : Option Addr) (cap : Nat) (w : World) :
    Calls Tryz.prog 180 #[.slice p 0 cap] w fun e w' => e = .returned (.tuple #[]) ∧ w' = w := Any.slices_Sort_string_none Tryz.lays190 p cap w
open Go.RowKit Go.Sort in
/-- .. and plain. (LAID: no walk: one application.) -/
theorem Tryz.slices_Sort_int_none (p : Option Addr) (cap : Nat) (w : World) :
    Calls Tryz.prog 93 #[.slice p 0 cap] w fun e w' => e = .returned (.tuple #[]) ∧ w' = w := Any.slices_Sort_int_none Tryz.lays189 p cap w
end Go.Proofs
/- slices.Clone at writes, holds, versions, rows. -/
namespace Go.Proofs.YtmifgnibalbgjaaGreat
open Go.RowKit Go.Lib
/-- A slice that is read: n elements of k cells. -/
def SrcV (w : World) (k : Nat) (a : Option Addr) (n : Nat) (xs : List Value) : Prop := xs.length = n * k ∧ (n = 0 ∨ ∃ b off, a = some ⟨b, off, none⟩ ∧ ∀ j u, xs[j]? = some u → w.cell? ⟨b, off + j, none⟩ = some u)
theorem SrcV.row {w : World} {E k n c : Nat} {a : Option Addr} {xs : List Value} (h : Row w E k a n c xs) : SrcV w k a n xs := by
  refine ⟨h.len, ?_⟩
  rcases Nat.eq_zero_or_pos n with h0 | h0
  · exact .inl h0
  · rcases h.out with ⟨rfl, rfl, _, _⟩ | ⟨g, cur, rfl, _⟩
    · omega
    · refine .inr ⟨g, 0, rfl, fun j u hj => ?_⟩
      obtain ⟨hj', rfl⟩ := List.getElem?_eq_some_iff.1 hj
      obtain ⟨g', e, hc⟩ := h.cellAt j hj'
      simp only [Option.some.injEq, Addr.mk.injEq, and_true] at e
      subst e
      rw [Nat.zero_add]; exact hc
theorem SrcV.below {w w' : World} {k n : Nat} {a : Option Addr} {xs : List Value} (h : SrcV w k a n xs) (b : Below w.heap.size w w') : SrcV w' k a n xs := by
  obtain ⟨h1, h2 | ⟨g, off, e, hc⟩⟩ := h
  · exact ⟨h1, .inl h2⟩
  · exact ⟨h1, .inr ⟨g, off, e, fun j u hj => (b.cell (World.block_lt_of_cell? w _ (hc j u hj))).trans (hc j u hj)⟩⟩
theorem row_of_owns {w w' : World} {E k : Nat} {v : Value} {n : Nat} {xs : List Value} (h : w'.ownsRow w.heap.size E k v n xs) : ∃ a c, v = .slice a n c ∧ Row w' E k a n c xs ∧ ∀ x ∈ blkOf a, w.heap.size ≤ x := by
  obtain ⟨hl, ⟨hv, rfl⟩ | ⟨g, cap, cur, hv, hB, hg, hnc, hcm, hcs, htk⟩⟩ := h
  · have : xs = [] := List.eq_nil_of_length_eq_zero (by simpa using hl)
    subst this
    exact ⟨none, 0, hv, Row.nil _ _ _, fun x hx => by cases hx⟩
  · exact ⟨_, cap, hv, Row.mk hg hnc hcm hcs htk, fun x hx => by simp [blkOf] at hx; omega⟩
def Tryz.laysSlE041_f44_ren : Go.Shelf.Ren := ⟨fun | 41 => 44 | n => n, fun | 22 => 39 | 23 => 43 | 4 => 4 | n => n, fun | n => n⟩
theorem Tryz.laysSlE041_f44 : Go.Proofs.SlLaysE0.n41 Tryz.prog Tryz.laysSlE041_f44_ren := {
  mixed := by kernel_rfl
  f41 := ⟨Tryz.f44.name, by decide, Tryz.func44.trans (congrArg some (by kernel_rfl))⟩
  t4 := Tryz.underlying4
  a4 := Tryz.isAgg4
  z4 := Tryz.sizeOf4
  v4 := Tryz.zeroValue4
  t22 := Tryz.underlying39
  a22 := Tryz.isAgg39
  z22 := Tryz.sizeOf39
  v22 := Tryz.zeroValue39 }
theorem cloW_info : (Tryz.prog.info? 43).map (fun i => (i.zero, i.size, i.bytes)) = some (some (.agg #[.string ⟨#[]⟩, .string ⟨#[]⟩, .bool false]), 3, 40) := by kernel_rfl
theorem cloW_size (w : World) : (Go.sizeOf 43).run Tryz.prog w = .ok 3 w := by kernel_rfl
set_option maxHeartbeats 1000000 in
theorem cloW_zero (a : Addr) (c : Nat) (w : World) :
    Calls Tryz.prog 44 #[.slice (some a) 0 c] w fun e w' => e = .returned (.slice (some ⟨w.heap.size, 0, none⟩) 0 0) ∧ w' = w.alloc (.cells #[] 43) := by
  have q : ∀ (w : World) (a : Option Addr) (n c n' c' : Nat), (binOp .eql 39 (.slice a n c) (.slice none n' c')).run Tryz.prog w = .ok (.bool a.isNone) w := fun w a n c n' c' => Lib.run_eql_slice_nil w _ _ a n c n' c' Tryz.underlying39
  go_enter Tryz.func44, Tryz.ntmps44
  go_wp2_with fail
  go_ret
  exact ⟨rfl, rfl⟩
/-- slices.Clone: new memory of the same cells. -/
theorem cloW_any (a : Option Addr) (n c : Nat) (xs : List Value) (w : World) (h : SrcV w 3 a n xs) (h1 : ∀ u ∈ xs, u.oneCell' = true) (hn : n ≤ 1000000) :
    Calls Tryz.prog 44 #[.slice a n c] w fun e w' => ∃ a' c', e = .returned (.slice a' n c') ∧ Row w' 43 3 a' n c' xs ∧ Below w.heap.size w w' ∧ ∀ x ∈ blkOf a', w.heap.size ≤ x := by
  obtain ⟨hl, hx⟩ := h
  rcases Nat.eq_zero_or_pos n with h0 | h0
  · subst h0
    obtain rfl : xs = [] := List.eq_nil_of_length_eq_zero (by simpa using hl)
    cases a with
    | none => exact (AnyE.slices_Clone_nil Tryz.laysSlE041_f44 0 c w).mono fun e w' ⟨he, hw⟩ => ⟨none, 0, he, Row.nil _ _ _, hw ▸ Below.refl _ _, fun x hx => (by cases hx)⟩
    | some a => exact (cloW_zero a c w).mono fun e w' ⟨he, hw⟩ => ⟨_, 0, he, hw ▸ Row.mk (cur := #[]) (heap_new w _) (Nat.le_refl _) (Nat.zero_le _) rfl rfl, hw ▸ bel_new w _, fun x hx => (by simp [blkOf] at hx; omega)⟩
  · rcases hx with hx | ⟨b, off, rfl, hc⟩
    · omega
    obtain ⟨i0, hi, hz0, hz1, hz2⟩ := info_parts cloW_info
    exact (AnyE.slices_Clone Tryz.laysSlE041_f44 i0 _ 3 40 hi hz0 hz1 hz2 rfl (by decide) cloW_size b off n c xs w hl (by unfold maxLen; omega) (by omega) hc h1).mono fun e w' ⟨v', he, ho, _, hb⟩ => by
      obtain ⟨a', c', e', hr, hf⟩ := row_of_owns ho
      exact ⟨a', c', by rw [he, e'], hr, hb, hf⟩
def Tryz.laysSlE041_f79_ren : Go.Shelf.Ren := ⟨fun | 41 => 79 | n => n, fun | 22 => 29 | 23 => 32 | 4 => 4 | n => n, fun | n => n⟩
theorem Tryz.laysSlE041_f79 : Go.Proofs.SlLaysE0.n41 Tryz.prog Tryz.laysSlE041_f79_ren := {
  mixed := by kernel_rfl
  f41 := ⟨Tryz.f79.name, by decide, Tryz.func79.trans (congrArg some (by kernel_rfl))⟩
  t4 := Tryz.underlying4
  a4 := Tryz.isAgg4
  z4 := Tryz.sizeOf4
  v4 := Tryz.zeroValue4
  t22 := Tryz.underlying29
  a22 := Tryz.isAgg29
  z22 := Tryz.sizeOf29
  v22 := Tryz.zeroValue29 }
theorem cloH_info : (Tryz.prog.info? 32).map (fun i => (i.zero, i.size, i.bytes)) = some (some (.agg #[.int .i64 0, .int .i64 0]), 2, 16) := by kernel_rfl
theorem cloH_size (w : World) : (Go.sizeOf 32).run Tryz.prog w = .ok 2 w := by kernel_rfl
set_option maxHeartbeats 1000000 in
theorem cloH_zero (a : Addr) (c : Nat) (w : World) :
    Calls Tryz.prog 79 #[.slice (some a) 0 c] w fun e w' => e = .returned (.slice (some ⟨w.heap.size, 0, none⟩) 0 0) ∧ w' = w.alloc (.cells #[] 32) := by
  have q : ∀ (w : World) (a : Option Addr) (n c n' c' : Nat), (binOp .eql 29 (.slice a n c) (.slice none n' c')).run Tryz.prog w = .ok (.bool a.isNone) w := fun w a n c n' c' => Lib.run_eql_slice_nil w _ _ a n c n' c' Tryz.underlying29
  go_enter Tryz.func79, Tryz.ntmps79
  go_wp2_with fail
  go_ret
  exact ⟨rfl, rfl⟩
/-- slices.Clone: new memory of the same cells. -/
theorem cloH_any (a : Option Addr) (n c : Nat) (xs : List Value) (w : World) (h : SrcV w 2 a n xs) (h1 : ∀ u ∈ xs, u.oneCell' = true) (hn : n ≤ 1000000) :
    Calls Tryz.prog 79 #[.slice a n c] w fun e w' => ∃ a' c', e = .returned (.slice a' n c') ∧ Row w' 32 2 a' n c' xs ∧ Below w.heap.size w w' ∧ ∀ x ∈ blkOf a', w.heap.size ≤ x := by
  obtain ⟨hl, hx⟩ := h
  rcases Nat.eq_zero_or_pos n with h0 | h0
  · subst h0
    obtain rfl : xs = [] := List.eq_nil_of_length_eq_zero (by simpa using hl)
    cases a with
    | none => exact (AnyE.slices_Clone_nil Tryz.laysSlE041_f79 0 c w).mono fun e w' ⟨he, hw⟩ => ⟨none, 0, he, Row.nil _ _ _, hw ▸ Below.refl _ _, fun x hx => (by cases hx)⟩
    | some a => exact (cloH_zero a c w).mono fun e w' ⟨he, hw⟩ => ⟨_, 0, he, hw ▸ Row.mk (cur := #[]) (heap_new w _) (Nat.le_refl _) (Nat.zero_le _) rfl rfl, hw ▸ bel_new w _, fun x hx => (by simp [blkOf] at hx; omega)⟩
  · rcases hx with hx | ⟨b, off, rfl, hc⟩
    · omega
    obtain ⟨i0, hi, hz0, hz1, hz2⟩ := info_parts cloH_info
    exact (AnyE.slices_Clone Tryz.laysSlE041_f79 i0 _ 2 16 hi hz0 hz1 hz2 rfl (by decide) cloH_size b off n c xs w hl (by unfold maxLen; omega) (by omega) hc h1).mono fun e w' ⟨v', he, ho, _, hb⟩ => by
      obtain ⟨a', c', e', hr, hf⟩ := row_of_owns ho
      exact ⟨a', c', by rw [he, e'], hr, hb, hf⟩
def Tryz.laysSlE041_f98_ren : Go.Shelf.Ren := ⟨fun | 41 => 98 | n => n, fun | 22 => 62 | 23 => 162 | 4 => 4 | n => n, fun | n => n⟩
theorem Tryz.laysSlE041_f98 : Go.Proofs.SlLaysE0.n41 Tryz.prog Tryz.laysSlE041_f98_ren := {
  mixed := by kernel_rfl
  f41 := ⟨Tryz.f98.name, by decide, Tryz.func98.trans (congrArg some (by kernel_rfl))⟩
  t4 := Tryz.underlying4
  a4 := Tryz.isAgg4
  z4 := Tryz.sizeOf4
  v4 := Tryz.zeroValue4
  t22 := Tryz.underlying62
  a22 := Tryz.isAgg62
  z22 := Tryz.sizeOf62
  v22 := Tryz.zeroValue62 }
theorem cloV_info : (Tryz.prog.info? 162).map (fun i => (i.zero, i.size, i.bytes)) = some (some (.agg #[.int .i64 0, .string ⟨#[]⟩, .bool false]), 3, 32) := by kernel_rfl
theorem cloV_size (w : World) : (Go.sizeOf 162).run Tryz.prog w = .ok 3 w := by kernel_rfl
set_option maxHeartbeats 1000000 in
theorem cloV_zero (a : Addr) (c : Nat) (w : World) :
    Calls Tryz.prog 98 #[.slice (some a) 0 c] w fun e w' => e = .returned (.slice (some ⟨w.heap.size, 0, none⟩) 0 0) ∧ w' = w.alloc (.cells #[] 162) := by
  have q : ∀ (w : World) (a : Option Addr) (n c n' c' : Nat), (binOp .eql 62 (.slice a n c) (.slice none n' c')).run Tryz.prog w = .ok (.bool a.isNone) w := fun w a n c n' c' => Lib.run_eql_slice_nil w _ _ a n c n' c' Tryz.underlying62
  go_enter Tryz.func98, Tryz.ntmps98
  go_wp2_with fail
  go_ret
  exact ⟨rfl, rfl⟩
/-- slices.Clone: new memory of the same cells. -/
theorem cloV_any (a : Option Addr) (n c : Nat) (xs : List Value) (w : World) (h : SrcV w 3 a n xs) (h1 : ∀ u ∈ xs, u.oneCell' = true) (hn : n ≤ 1000000) :
    Calls Tryz.prog 98 #[.slice a n c] w fun e w' => ∃ a' c', e = .returned (.slice a' n c') ∧ Row w' 162 3 a' n c' xs ∧ Below w.heap.size w w' ∧ ∀ x ∈ blkOf a', w.heap.size ≤ x := by
  obtain ⟨hl, hx⟩ := h
  rcases Nat.eq_zero_or_pos n with h0 | h0
  · subst h0
    obtain rfl : xs = [] := List.eq_nil_of_length_eq_zero (by simpa using hl)
    cases a with
    | none => exact (AnyE.slices_Clone_nil Tryz.laysSlE041_f98 0 c w).mono fun e w' ⟨he, hw⟩ => ⟨none, 0, he, Row.nil _ _ _, hw ▸ Below.refl _ _, fun x hx => (by cases hx)⟩
    | some a => exact (cloV_zero a c w).mono fun e w' ⟨he, hw⟩ => ⟨_, 0, he, hw ▸ Row.mk (cur := #[]) (heap_new w _) (Nat.le_refl _) (Nat.zero_le _) rfl rfl, hw ▸ bel_new w _, fun x hx => (by simp [blkOf] at hx; omega)⟩
  · rcases hx with hx | ⟨b, off, rfl, hc⟩
    · omega
    obtain ⟨i0, hi, hz0, hz1, hz2⟩ := info_parts cloV_info
    exact (AnyE.slices_Clone Tryz.laysSlE041_f98 i0 _ 3 32 hi hz0 hz1 hz2 rfl (by decide) cloV_size b off n c xs w hl (by unfold maxLen; omega) (by omega) hc h1).mono fun e w' ⟨v', he, ho, _, hb⟩ => by
      obtain ⟨a', c', e', hr, hf⟩ := row_of_owns ho
      exact ⟨a', c', by rw [he, e'], hr, hb, hf⟩
def Tryz.laysSlE041_f100_ren : Go.Shelf.Ren := ⟨fun | 41 => 100 | n => n, fun | 22 => 52 | 23 => 85 | 4 => 4 | n => n, fun | n => n⟩
theorem Tryz.laysSlE041_f100 : Go.Proofs.SlLaysE0.n41 Tryz.prog Tryz.laysSlE041_f100_ren := {
  mixed := by kernel_rfl
  f41 := ⟨Tryz.f100.name, by decide, Tryz.func100.trans (congrArg some (by kernel_rfl))⟩
  t4 := Tryz.underlying4
  a4 := Tryz.isAgg4
  z4 := Tryz.sizeOf4
  v4 := Tryz.zeroValue4
  t22 := Tryz.underlying52
  a22 := Tryz.isAgg52
  z22 := Tryz.sizeOf52
  v22 := Tryz.zeroValue52 }
theorem cloR_info : (Tryz.prog.info? 85).map (fun i => (i.zero, i.size, i.bytes)) = some (some (.agg #[.int .i64 0, .int .i64 0, .int .i64 0, .int .i64 0, .int .i64 0]), 5, 40) := by kernel_rfl
theorem cloR_size (w : World) : (Go.sizeOf 85).run Tryz.prog w = .ok 5 w := by kernel_rfl
set_option maxHeartbeats 1000000 in
theorem cloR_zero (a : Addr) (c : Nat) (w : World) :
    Calls Tryz.prog 100 #[.slice (some a) 0 c] w fun e w' => e = .returned (.slice (some ⟨w.heap.size, 0, none⟩) 0 0) ∧ w' = w.alloc (.cells #[] 85) := by
  have q : ∀ (w : World) (a : Option Addr) (n c n' c' : Nat), (binOp .eql 52 (.slice a n c) (.slice none n' c')).run Tryz.prog w = .ok (.bool a.isNone) w := fun w a n c n' c' => Lib.run_eql_slice_nil w _ _ a n c n' c' Tryz.underlying52
  go_enter Tryz.func100, Tryz.ntmps100
  go_wp2_with fail
  go_ret
  exact ⟨rfl, rfl⟩
/-- slices.Clone: new memory of the same cells. -/
theorem cloR_any (a : Option Addr) (n c : Nat) (xs : List Value) (w : World) (h : SrcV w 5 a n xs) (h1 : ∀ u ∈ xs, u.oneCell' = true) (hn : n ≤ 1000000) :
    Calls Tryz.prog 100 #[.slice a n c] w fun e w' => ∃ a' c', e = .returned (.slice a' n c') ∧ Row w' 85 5 a' n c' xs ∧ Below w.heap.size w w' ∧ ∀ x ∈ blkOf a', w.heap.size ≤ x := by
  obtain ⟨hl, hx⟩ := h
  rcases Nat.eq_zero_or_pos n with h0 | h0
  · subst h0
    obtain rfl : xs = [] := List.eq_nil_of_length_eq_zero (by simpa using hl)
    cases a with
    | none => exact (AnyE.slices_Clone_nil Tryz.laysSlE041_f100 0 c w).mono fun e w' ⟨he, hw⟩ => ⟨none, 0, he, Row.nil _ _ _, hw ▸ Below.refl _ _, fun x hx => (by cases hx)⟩
    | some a => exact (cloR_zero a c w).mono fun e w' ⟨he, hw⟩ => ⟨_, 0, he, hw ▸ Row.mk (cur := #[]) (heap_new w _) (Nat.le_refl _) (Nat.zero_le _) rfl rfl, hw ▸ bel_new w _, fun x hx => (by simp [blkOf] at hx; omega)⟩
  · rcases hx with hx | ⟨b, off, rfl, hc⟩
    · omega
    obtain ⟨i0, hi, hz0, hz1, hz2⟩ := info_parts cloR_info
    exact (AnyE.slices_Clone Tryz.laysSlE041_f100 i0 _ 5 40 hi hz0 hz1 hz2 rfl (by decide) cloR_size b off n c xs w hl (by unfold maxLen; omega) (by omega) hc h1).mono fun e w' ⟨v', he, ho, _, hb⟩ => by
      obtain ⟨a', c', e', hr, hf⟩ := row_of_owns ho
      exact ⟨a', c', by rw [he, e'], hr, hb, hf⟩
end Go.Proofs.YtmifgnibalbgjaaGreat
/- The cells: how many versions aren't later than a moment; what a row tells of a moment. -/
namespace Go.Proofs.YtmifgnibalbgjaaGreat
open Go.RowKit
/-- how many stand ahead. -/
def posBy {α : Type} (q : α → Bool) : List α → Nat
  | [] => 0
  | x :: r => if q x then posBy q r + 1 else 0
theorem posBy_le {α : Type} (q : α → Bool) (l : List α) : posBy q l ≤ l.length := by
  induction l with
  | nil => exact Nat.le_refl _
  | cons x r ih => unfold posBy; split <;> simp <;> omega
theorem posBy_lt {α : Type} (q : α → Bool) : ∀ (l : List α) (j : Nat) (h : j < l.length), j < posBy q l → q l[j] = true
  | [], _, h, _ => by cases h
  | x :: r, j, h, hj => by
    unfold posBy at hj
    split at hj
    · cases j with
      | zero => assumption
      | succ j => exact posBy_lt q r j (by simpa using h) (by omega)
    · omega
theorem posBy_ge {α : Type} (q : α → Bool) (R : α → α → Prop) (hq : ∀ a b, R a b → q a = false → q b = false) : ∀ (l : List α), l.Pairwise R → ∀ (j : Nat) (h : j < l.length), posBy q l ≤ j → q l[j] = false
  | [], _, _, h, _ => by cases h
  | x :: r, hs, j, h, hj => by
    obtain ⟨h1, h2⟩ := List.pairwise_cons.1 hs
    unfold posBy at hj
    split at hj
    · cases j with
      | zero => omega
      | succ j => exact posBy_ge q R hq r h2 j (by simpa using h) (by omega)
    · rename_i hx
      cases j with
      | zero => simpa using hx
      | succ j => exact hq _ _ (h1 _ (List.getElem_mem _)) (by simpa using hx)
abbrev SortV (l : List Ver) : Prop := l.Pairwise fun a b => a.at_ < b.at_
/-- how many versions aren't later than a moment. -/
def upM (l : List Ver) (t : Int) : Nat := posBy (fun v => decide (v.at_ ≤ t)) l
theorem upM_lo {l : List Ver} {t : Int} (j : Nat) (h : j < l.length) (hj : j < upM l t) : l[j].at_ ≤ t := by
  have := posBy_lt (fun v : Ver => decide (v.at_ ≤ t)) l j h hj
  simpa using this
theorem upM_hi {l : List Ver} {t : Int} (hs : SortV l) (j : Nat) (h : j < l.length) (hj : upM l t ≤ j) : t < l[j].at_ := by
  have := posBy_ge (fun v : Ver => decide (v.at_ ≤ t)) (fun a b => a.at_ < b.at_) (fun a b hab ha => by simp at ha ⊢; omega) l hs j h hj
  simpa using this
theorem upM_le (l : List Ver) (t : Int) : upM l t ≤ l.length := posBy_le _ _
/-- what a row tells of a moment. -/
def valM (l : List Ver) (t : Int) : ByteArray × Bool := if upM l t = 0 then (⟨#[]⟩, false) else ((l[upM l t - 1]?.map fun v => (v.v, v.h)).getD (⟨#[]⟩, false))
theorem srcV_ve {w : World} {a : Option Addr} {n : Nat} {l : List Ver} (h : SrcV w 3 a n (veFlat l)) : n = l.length ∧ ∀ j (hj : j < l.length), ∃ b off, a = some ⟨b, off, none⟩ ∧ veAt w b (off + j * 3) l[j] := by
  obtain ⟨h1, h2⟩ := h
  have hl := veFlat_len l
  have hn : n = l.length := by omega
  refine ⟨hn, fun j hj => ?_⟩
  rcases h2 with h2 | ⟨b, off, e, hc⟩
  · omega
  · obtain ⟨x0, x1, x2⟩ := veFlat_get l j hj
    exact ⟨b, off, e, hc _ _ x0, hc _ _ x1, hc _ _ x2⟩
set_option maxHeartbeats 400000 in
theorem moment_any (t : Int) (w : World) : Calls Tryz.prog 96 #[.int .i64 t] w fun e w' => e = .returned (.bool (decide (0 ≤ t) && decide (t ≤ 1099511627776))) ∧ w = w' := by
  cases h1 : decide (0 ≤ t) with
  | false =>
    go_enter Tryz.func96, Tryz.ntmps96
    go_wp2_with fail
    go_ret
    exact ⟨rfl, rfl⟩
  | true =>
    go_enter Tryz.func96, Tryz.ntmps96
    go_wp2_with fail
    go_ret
    exact ⟨by first | rfl | simp, rfl⟩
set_option maxHeartbeats 800000 in
theorem up1_any (bl ba : Nat) (a : Option Addr) (n c : Nat) (l : List Ver) (t : Int) (j : Nat) (hj : j < l.length) (w : World) (h : SrcV w 3 a n (veFlat l)) (hl : w.cell? ⟨bl, 0, none⟩ = some (.slice a n c)) (ht : w.cell? ⟨ba, 0, none⟩ = some (.int .i64 t)) :
    Calls Tryz.prog 178 #[.int .i64 j, .pointer (some ⟨bl, 0, none⟩), .pointer (some ⟨ba, 0, none⟩)] w fun e w' => e = .returned (.bool (decide (t < l[j].at_))) ∧ Below w.heap.size w w' := by
  obtain ⟨rfl, hx⟩ := srcV_ve h
  obtain ⟨b, off, rfl, x0, x1, x2⟩ := hx j hj
  generalize l[j] = z at *
  clear hx h
  obtain ⟨z1, z2, z3⟩ := z
  simp only at x0 x1 x2 ⊢
  generalize l.length = n at *
  go_enter Tryz.func178, Tryz.ntmps178
  go_wp2_with fail
  go_quiet (fail)
  go_wp2_with fail
  go_ret
  exact ⟨rfl, bel_drewN _ _⟩
set_option maxRecDepth 100000 in
set_option maxHeartbeats 2000000 in
theorem search_any (bl ba : Nat) (a : Option Addr) (n c : Nat) (l : List Ver) (t : Int) (w : World) (h : SrcV w 3 a n (veFlat l)) (hs : SortV l) (hn : n ≤ 1000000) (hl : w.cell? ⟨bl, 0, none⟩ = some (.slice a n c)) (ht : w.cell? ⟨ba, 0, none⟩ = some (.int .i64 t)) :
    Calls Tryz.prog 177 #[.int .i64 n, .func (.func 178) #[] #[.pointer (some ⟨bl, 0, none⟩), .pointer (some ⟨ba, 0, none⟩)]] w fun e w' => e = .returned (.int .i64 (upM l t)) ∧ Below w.heap.size w w' := by
  have hnl := (srcV_ve h).1
  have HC := Lib.hid fun W (hb : Below w.heap.size w W) j hj => up1_any bl ba a n c l t j hj W (h.below hb) ((hb.cell (World.block_lt_of_cell? w _ hl)).trans hl) ((hb.cell (World.block_lt_of_cell? w _ ht)).trans ht)
  have HLo := Lib.hid fun j (h : j < l.length) (hj : j < upM l t) => upM_lo j h hj
  have HHi := Lib.hid fun j (h : j < l.length) (hj : upM l t ≤ j) => upM_hi hs j h hj
  have hk := upM_le l t
  subst hnl
  clear h hs hl ht
  generalize upM l t = k at *
  go_enter Tryz.func177, Tryz.ntmps177
  go_wp2_with fail
  go_loopw [5, 6, 7] (fun i j _ wr => ∃ x y : Nat, x ≤ k ∧ k ≤ y ∧ y ≤ l.length ∧ i = .int .i64 x ∧ j = .int .i64 y ∧ Hid (Below w.heap.size w wr)) (fun i j _ _ => ((intOf j) - (intOf i)).toNat)
  case atStart => exact ⟨0, l.length, by omega, hk, Nat.le_refl _, rfl, rfl, Lib.hid (Below.refl _ _)⟩
  case round =>
    obtain ⟨x, y, hx, hy, hyn, rfl, rfl, HB⟩ := hrel
    by_cases hlt : x < y
    · have hm : (((x : Int) + (y : Int)) / 2).toNat = (x + y) / 2 := by omega
      have hml : (x + y) / 2 < l.length := by omega
      have hC := HC.out wr HB.out ((x + y) / 2) hml
      cases hle : decide (t < l[(x + y) / 2].at_) with
      | false =>
        rw [hle] at hC
        have hin : (x + y) / 2 < k := by
          rcases Nat.lt_or_ge ((x + y) / 2) k with h | h
          · exact h
          · have := HHi.out _ hml h; simp at hle; omega
        have HCC := Lib.hid hC
        clear hC hle
        go_wp2_with fail
        refine HCC.out.mono ?_
        rintro e w2 ⟨rfl, hb2⟩
        have HB2 := Lib.hid (HB.out.trans (hb2.mono HB.out.size))
        clear hb2
        go_wp2_with fail
        go_roundw
        case rel => exact ⟨(x + y) / 2 + 1, y, by omega, hy, hyn, by congr 1, rfl, HB2⟩
        case measure => simp [intOf]; omega
      | true =>
        rw [hle] at hC
        have hin : k ≤ (x + y) / 2 := by
          rcases Nat.lt_or_ge ((x + y) / 2) k with h | h
          · have := HLo.out _ hml h; simp at hle; omega
          · exact h
        have HCC := Lib.hid hC
        clear hC hle
        go_wp2_with fail
        refine HCC.out.mono ?_
        rintro e w2 ⟨rfl, hb2⟩
        have HB2 := Lib.hid (HB.out.trans (hb2.mono HB.out.size))
        clear hb2
        go_wp2_with fail
        go_roundw
        case rel => exact ⟨x, (x + y) / 2, hx, hin, by omega, rfl, by congr 1, HB2⟩
        case measure => simp [intOf]; omega
    · obtain rfl : x = k := by omega
      go_wp2_with fail
      go_ret
      exact ⟨rfl, HB.out⟩
set_option maxHeartbeats 800000 in
theorem up_any (a : Option Addr) (n c : Nat) (l : List Ver) (t : Int) (w : World) (h : SrcV w 3 a n (veFlat l)) (hs : SortV l) (hn : n ≤ 1000000) :
    Calls Tryz.prog 140 #[.slice a n c, .int .i64 t] w fun e w' => e = .returned (.int .i64 (upM l t)) ∧ Below w.heap.size w w' := by
  have hb1 := bel_new w (.cells #[.slice a n c] 62)
  have hb2 := bel_one hb1 (.cells #[.int .i64 t] 3)
  have h1 := heap_new w (.cells #[.slice a n c] 62)
  have h2 := hp_old (w.alloc (.cells #[.slice a n c] 62)) (.cells #[.int .i64 t] 3) _ w.heap.size (by simp) h1
  have h3 := heap_alloc_at (w.alloc (.cells #[.slice a n c] 62)) (.cells #[.int .i64 t] 3) (w.heap.size + 1) (by simp)
  have HS := Lib.hid (search_any w.heap.size (w.heap.size + 1) a n c l t _ (h.below hb2) hs hn (cell_of_heap (i := 0) (v := .slice a n c) h2 rfl).1 (cell_of_heap (i := 0) (v := .int .i64 t) h3 rfl).1)
  have HB := Lib.hid hb2
  clear h hs hb1 hb2 h1 h2 h3
  generalize upM l t = k at *
  go_enter Tryz.func140, Tryz.ntmps140
  go_wp2_with fail
  refine HS.out.mono ?_
  rintro e w2 ⟨rfl, hb⟩
  have HB2 := Lib.hid (HB.out.trans (hb.mono HB.out.size))
  clear hb
  go_wp2_with fail
  go_ret
  exact ⟨rfl, HB2.out⟩
set_option maxRecDepth 100000 in
set_option maxHeartbeats 800000 in
theorem value_any (a : Option Addr) (n c : Nat) (l : List Ver) (t : Int) (w : World) (h : SrcV w 3 a n (veFlat l)) (hs : SortV l) (hn : n ≤ 1000000) :
    Calls Tryz.prog 95 #[.slice a n c, .int .i64 t] w fun e w' => e = .returned (.tuple #[.string (valM l t).1, .bool (valM l t).2]) ∧ Below w.heap.size w w' := by
  have HU := Lib.hid (up_any a n c l t w h hs hn)
  have hk := upM_le l t
  unfold valM
  by_cases h0 : upM l t = 0
  · rw [if_pos h0]
    rw [h0] at HU
    clear h hs hk h0
    go_enter Tryz.func95, Tryz.ntmps95
    go_wp2_with fail
    refine HU.out.mono ?_
    rintro e w2 ⟨rfl, hb⟩
    go_wp2_with fail
    go_ret2
    exact ⟨rfl, hb⟩
  · rw [if_neg h0]
    obtain ⟨rfl, hx⟩ := srcV_ve h
    obtain ⟨b, off, rfl, hat⟩ := hx (upM l t - 1) (by omega)
    rw [List.getElem?_eq_getElem (by omega : upM l t - 1 < l.length)]
    simp only [Option.map_some, Option.getD_some]
    have h0i : ((upM l t : Int) == 0) = false := by rw [beq_eq_false_iff_ne]; omega
    have hpos : 1 ≤ upM l t := by omega
    clear h hs hx
    generalize l[upM l t - 1] = z at *
    generalize upM l t = k at *
    generalize l.length = n at *
    obtain ⟨z1, z2, z3⟩ := z
    have hk1 : ((k : Int) - 1).toNat = k - 1 := by omega
    go_enter Tryz.func95, Tryz.ntmps95
    go_wp2_with fail
    refine HU.out.mono ?_
    rintro e w2 ⟨rfl, hb⟩
    obtain ⟨x0, x1, x2⟩ := hat.below hb
    simp only at x0 x1 x2
    have HB := Lib.hid hb
    clear hb hat HU
    go_wp2_with fail
    go_quiet (fail)
    go_wp2_with fail
    go_ret2
    exact ⟨rfl, HB.out.trans ((bel_drewN _ _).mono HB.out.size)⟩
end Go.Proofs.YtmifgnibalbgjaaGreat
