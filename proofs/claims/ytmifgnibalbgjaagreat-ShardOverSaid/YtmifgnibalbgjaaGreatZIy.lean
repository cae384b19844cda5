/- The shelf laid at this translation: maps.Keys, slices.Sorted, slices.Sort. -/
import Derived.Shelf.SlIterI.Nil
import Derived.Shelf.SlIter.Nil
import Derived.Shelf.SortM.Plain
import Derived.Shelf.SortM.SortNone
import Derived.Ground.GgzProg
import Derived.Ground.SlgmProg
import Derived.Test.YtmifgnibalbgjaaGreatProg
import Derived.Test.YtmifgnibalbgjaaGreatZKM
namespace Go.Proofs
open Go.RowKit Go.Maps Go.Sort Go.Shelf
def Tryz.keys43_ren : Go.Shelf.Ren := ⟨fun | 7 => 43 | 10 => 94 | n => n, fun | 23 => 96 | 26 => 3 | 3 => 108 | 28 => 105 | 0 => 0 | 27 => 104 | 33 => 158 | 4 => 4 | n => n, fun | n => n⟩
theorem Tryz.keys43 : Go.Proofs.SlLaysZI.n7 Tryz.prog Tryz.keys43_ren := {
  mixed := by kernel_rfl
  f7 := ⟨Tryz.f43.name, by decide, Tryz.func43.trans (congrArg some (by kernel_rfl))⟩
  f10 := ⟨Tryz.f94.name, by decide, Tryz.func94.trans (congrArg some (by kernel_rfl))⟩
  t0 := Tryz.underlying0
  a0 := Tryz.isAgg0
  z0 := Tryz.sizeOf0
  v0 := Tryz.zeroValue0
  t4 := Tryz.underlying4
  a4 := Tryz.isAgg4
  z4 := Tryz.sizeOf4
  v4 := Tryz.zeroValue4
  t23 := Tryz.underlying96
  a23 := Tryz.isAgg96
  z23 := Tryz.sizeOf96
  v23 := Tryz.zeroValue96
  t26 := Tryz.underlying3
  a26 := Tryz.isAgg3
  z26 := Tryz.sizeOf3
  v26 := Tryz.zeroValue3
  t27 := Tryz.underlying104
  a27 := Tryz.isAgg104
  z27 := Tryz.sizeOf104
  v27 := Tryz.zeroValue104
  t28 := Tryz.underlying105
  a28 := Tryz.isAgg105
  z28 := Tryz.sizeOf105
  v28 := Tryz.zeroValue105
  t33 := Tryz.underlying158
  a33 := Tryz.isAgg158
  z33 := Tryz.sizeOf158
  v33 := Tryz.zeroValue158 }
def Tryz.sorted42_ren : Go.Shelf.Ren := ⟨fun | 6 => 42 | 8 => 92 | 9 => 93 | 11 => 137 | 13 => 139 | 12 => 138 | 23 => 175 | 24 => 176 | 14 => 166 | 15 => 167 | 16 => 168 | 17 => 169 | 18 => 170 | 19 => 171 | 20 => 172 | 21 => 173 | 22 => 174 | 25 => 196 | 26 => 197 | 27 => 198 | 28 => 199 | 29 => 200 | 30 => 190 | 31 => 206 | n => n, fun | 26 => 3 | 28 => 105 | 24 => 102 | 0 => 0 | 3 => 3 | 37 => 205 | 48 => 234 | 50 => 236 | 4 => 4 | 40 => 228 | 39 => 227 | 45 => 48 | 5 => 5 | 9 => 9 | 51 => 247 | 55 => 251 | 57 => 257 | 58 => 258 | 33 => 158 | n => n, fun | n => n⟩
theorem Tryz.sorted42 : Go.Proofs.SlLaysZI.n6 Tryz.prog Tryz.sorted42_ren := {
  mixed := by kernel_rfl
  f6 := ⟨Tryz.f42.name, by decide, Tryz.func42.trans (congrArg some (by kernel_rfl))⟩
  f8 := ⟨Tryz.f92.name, by decide, Tryz.func92.trans (congrArg some (by kernel_rfl))⟩
  f11 := ⟨Tryz.f137.name, by decide, Tryz.func137.trans (congrArg some (by kernel_rfl))⟩
  t0 := Tryz.underlying0
  a0 := Tryz.isAgg0
  z0 := Tryz.sizeOf0
  v0 := Tryz.zeroValue0
  t24 := Tryz.underlying102
  a24 := Tryz.isAgg102
  z24 := Tryz.sizeOf102
  v24 := Tryz.zeroValue102
  t26 := Tryz.underlying3
  a26 := Tryz.isAgg3
  z26 := Tryz.sizeOf3
  v26 := Tryz.zeroValue3
  t28 := Tryz.underlying105
  a28 := Tryz.isAgg105
  z28 := Tryz.sizeOf105
  v28 := Tryz.zeroValue105
  i26 := by kernel_rfl }
def Tryz.sort93_ren : Go.Shelf.Ren := ⟨fun | 5 => 93 | 8 => 139 | 7 => 138 | 19 => 175 | 20 => 176 | 10 => 166 | 11 => 167 | 12 => 168 | 13 => 169 | 14 => 170 | 15 => 171 | 16 => 172 | 17 => 173 | 18 => 174 | 30 => 196 | 31 => 197 | 32 => 198 | 33 => 199 | 34 => 200 | 35 => 190 | 40 => 206 | n => n, fun | 23 => 102 | 25 => 3 | 3 => 3 | 32 => 205 | 22 => 102 | 0 => 0 | 44 => 234 | 46 => 236 | 4 => 4 | 36 => 228 | 35 => 227 | 41 => 48 | 5 => 5 | 9 => 9 | 53 => 247 | 57 => 251 | 63 => 257 | 64 => 258 | n => n, fun | n => n⟩
theorem Tryz.sort93 : Go.Proofs.SlLaysM.n5 Tryz.prog Tryz.sort93_ren := {
  mixed := by kernel_rfl
  f5 := ⟨Tryz.f93.name, by decide, Tryz.func93.trans (congrArg some (by kernel_rfl))⟩
  f7 := ⟨Tryz.f138.name, by decide, Tryz.func138.trans (congrArg some (by kernel_rfl))⟩
  f8 := Tryz.func139.trans (congrArg some (by kernel_rfl))
  f10 := ⟨Tryz.f166.name, by decide, Tryz.func166.trans (congrArg some (by kernel_rfl))⟩
  f11 := ⟨Tryz.f167.name, by decide, Tryz.func167.trans (congrArg some (by kernel_rfl))⟩
  f12 := ⟨Tryz.f168.name, by decide, Tryz.func168.trans (congrArg some (by kernel_rfl))⟩
  f13 := ⟨Tryz.f169.name, by decide, Tryz.func169.trans (congrArg some (by kernel_rfl))⟩
  f14 := ⟨Tryz.f170.name, by decide, Tryz.func170.trans (congrArg some (by kernel_rfl))⟩
  f15 := ⟨Tryz.f171.name, by decide, Tryz.func171.trans (congrArg some (by kernel_rfl))⟩
  f16 := ⟨Tryz.f172.name, by decide, Tryz.func172.trans (congrArg some (by kernel_rfl))⟩
  f17 := ⟨Tryz.f173.name, by decide, Tryz.func173.trans (congrArg some (by kernel_rfl))⟩
  f18 := ⟨Tryz.f174.name, by decide, Tryz.func174.trans (congrArg some (by kernel_rfl))⟩
  f19 := Tryz.func175.trans (congrArg some (by kernel_rfl))
  f20 := Tryz.func176.trans (congrArg some (by kernel_rfl))
  f30 := ⟨Tryz.f196.name, by decide, Tryz.func196.trans (congrArg some (by kernel_rfl))⟩
  f31 := Tryz.func197.trans (congrArg some (by kernel_rfl))
  f32 := Tryz.func198.trans (congrArg some (by kernel_rfl))
  f33 := ⟨Tryz.f199.name, by decide, Tryz.func199.trans (congrArg some (by kernel_rfl))⟩
  f34 := ⟨Tryz.f200.name, by decide, Tryz.func200.trans (congrArg some (by kernel_rfl))⟩
  f35 := ⟨Tryz.f190.name, by decide, Tryz.func190.trans (congrArg some (by kernel_rfl))⟩
  f40 := ⟨Tryz.f206.name, by decide, Tryz.func206.trans (congrArg some (by kernel_rfl))⟩
  t0 := Tryz.underlying0
  a0 := Tryz.isAgg0
  z0 := Tryz.sizeOf0
  v0 := Tryz.zeroValue0
  t3 := Tryz.underlying3
  a3 := Tryz.isAgg3
  z3 := Tryz.sizeOf3
  v3 := Tryz.zeroValue3
  t4 := Tryz.underlying4
  a4 := Tryz.isAgg4
  z4 := Tryz.sizeOf4
  v4 := Tryz.zeroValue4
  t5 := Tryz.underlying5
  a5 := Tryz.isAgg5
  z5 := Tryz.sizeOf5
  v5 := Tryz.zeroValue5
  t9 := Tryz.underlying9
  a9 := Tryz.isAgg9
  z9 := Tryz.sizeOf9
  v9 := Tryz.zeroValue9
  t22 := Tryz.underlying102
  a22 := Tryz.isAgg102
  z22 := Tryz.sizeOf102
  v22 := Tryz.zeroValue102
  t23 := Tryz.underlying102
  a23 := Tryz.isAgg102
  z23 := Tryz.sizeOf102
  v23 := Tryz.zeroValue102
  t25 := Tryz.underlying3
  a25 := Tryz.isAgg3
  z25 := Tryz.sizeOf3
  v25 := Tryz.zeroValue3
  t32 := Tryz.underlying205
  a32 := Tryz.isAgg205
  z32 := Tryz.sizeOf205
  v32 := Tryz.zeroValue205
  t35 := Tryz.underlying227
  a35 := Tryz.isAgg227
  z35 := Tryz.sizeOf227
  v35 := Tryz.zeroValue227
  t36 := Tryz.underlying228
  a36 := Tryz.isAgg228
  z36 := Tryz.sizeOf228
  v36 := Tryz.zeroValue228
  t41 := Tryz.underlying48
  a41 := Tryz.isAgg48
  z41 := Tryz.sizeOf48
  v41 := Tryz.zeroValue48
  t44 := Tryz.underlying234
  a44 := Tryz.isAgg234
  z44 := Tryz.sizeOf234
  v44 := Tryz.zeroValue234
  t46 := Tryz.underlying236
  a46 := Tryz.isAgg236
  z46 := Tryz.sizeOf236
  v46 := Tryz.zeroValue236
  t53 := Tryz.underlying247
  a53 := Tryz.isAgg247
  z53 := Tryz.sizeOf247
  v53 := Tryz.zeroValue247
  t57 := Tryz.underlying251
  a57 := Tryz.isAgg251
  z57 := Tryz.sizeOf251
  v57 := Tryz.zeroValue251
  t63 := Tryz.underlying257
  a63 := Tryz.isAgg257
  z63 := Tryz.sizeOf257
  v63 := Tryz.zeroValue257
  t64 := Tryz.underlying258
  a64 := Tryz.isAgg258
  z64 := Tryz.sizeOf258
  v64 := Tryz.zeroValue258 }
def Tryz.keys50_ren : Go.Shelf.Ren := ⟨fun | 7 => 50 | 10 => 101 | n => n, fun | 23 => 97 | 26 => 3 | 3 => 3 | 28 => 105 | 0 => 0 | 27 => 104 | 33 => 158 | 4 => 4 | n => n, fun | n => n⟩
theorem Tryz.keys50 : Go.Proofs.SlLaysZI.n7 Tryz.prog Tryz.keys50_ren := {
  mixed := by kernel_rfl
  f7 := ⟨Tryz.f50.name, by decide, Tryz.func50.trans (congrArg some (by kernel_rfl))⟩
  f10 := ⟨Tryz.f101.name, by decide, Tryz.func101.trans (congrArg some (by kernel_rfl))⟩
  t0 := Tryz.underlying0
  a0 := Tryz.isAgg0
  z0 := Tryz.sizeOf0
  v0 := Tryz.zeroValue0
  t4 := Tryz.underlying4
  a4 := Tryz.isAgg4
  z4 := Tryz.sizeOf4
  v4 := Tryz.zeroValue4
  t23 := Tryz.underlying97
  a23 := Tryz.isAgg97
  z23 := Tryz.sizeOf97
  v23 := Tryz.zeroValue97
  t26 := Tryz.underlying3
  a26 := Tryz.isAgg3
  z26 := Tryz.sizeOf3
  v26 := Tryz.zeroValue3
  t27 := Tryz.underlying104
  a27 := Tryz.isAgg104
  z27 := Tryz.sizeOf104
  v27 := Tryz.zeroValue104
  t28 := Tryz.underlying105
  a28 := Tryz.isAgg105
  z28 := Tryz.sizeOf105
  v28 := Tryz.zeroValue105
  t33 := Tryz.underlying158
  a33 := Tryz.isAgg158
  z33 := Tryz.sizeOf158
  v33 := Tryz.zeroValue158 }
def Tryz.keys142_ren : Go.Shelf.Ren := ⟨fun | 7 => 142 | 10 => 181 | n => n, fun | 23 => 140 | 26 => 9 | 3 => 62 | 28 => 209 | 0 => 0 | 27 => 208 | 33 => 225 | 4 => 4 | n => n, fun | n => n⟩
theorem Tryz.keys142 : Go.Proofs.SlLaysZ.n7 Tryz.prog Tryz.keys142_ren := {
  mixed := by kernel_rfl
  f7 := ⟨Tryz.f142.name, by decide, Tryz.func142.trans (congrArg some (by kernel_rfl))⟩
  f10 := ⟨Tryz.f181.name, by decide, Tryz.func181.trans (congrArg some (by kernel_rfl))⟩
  t0 := Tryz.underlying0
  a0 := Tryz.isAgg0
  z0 := Tryz.sizeOf0
  v0 := Tryz.zeroValue0
  t4 := Tryz.underlying4
  a4 := Tryz.isAgg4
  z4 := Tryz.sizeOf4
  v4 := Tryz.zeroValue4
  t23 := Tryz.underlying140
  a23 := Tryz.isAgg140
  z23 := Tryz.sizeOf140
  v23 := Tryz.zeroValue140
  t26 := Tryz.underlying9
  a26 := Tryz.isAgg9
  z26 := Tryz.sizeOf9
  v26 := Tryz.zeroValue9
  t27 := Tryz.underlying208
  a27 := Tryz.isAgg208
  z27 := Tryz.sizeOf208
  v27 := Tryz.zeroValue208
  t28 := Tryz.underlying209
  a28 := Tryz.isAgg209
  z28 := Tryz.sizeOf209
  v28 := Tryz.zeroValue209
  t33 := Tryz.underlying225
  a33 := Tryz.isAgg225
  z33 := Tryz.sizeOf225
  v33 := Tryz.zeroValue225 }
def Tryz.sorted141_ren : Go.Shelf.Ren := ⟨fun | 6 => 141 | 8 => 179 | 9 => 180 | 11 => 201 | 13 => 139 | 12 => 202 | 23 => 175 | 24 => 176 | 14 => 207 | 15 => 208 | 16 => 209 | 17 => 210 | 18 => 211 | 19 => 212 | 20 => 213 | 21 => 214 | 22 => 215 | 25 => 217 | 26 => 197 | 27 => 198 | 28 => 218 | 29 => 219 | 30 => 164 | 31 => 220 | n => n, fun | 26 => 9 | 28 => 209 | 24 => 131 | 0 => 0 | 3 => 3 | 37 => 205 | 48 => 234 | 50 => 236 | 4 => 4 | 40 => 228 | 39 => 227 | 45 => 48 | 5 => 5 | 9 => 9 | 51 => 247 | 55 => 251 | 57 => 257 | 58 => 258 | 33 => 225 | n => n, fun | n => n⟩
theorem Tryz.sorted141 : Go.Proofs.SlLaysZ.n6 Tryz.prog Tryz.sorted141_ren := {
  mixed := by kernel_rfl
  f6 := ⟨Tryz.f141.name, by decide, Tryz.func141.trans (congrArg some (by kernel_rfl))⟩
  f8 := ⟨Tryz.f179.name, by decide, Tryz.func179.trans (congrArg some (by kernel_rfl))⟩
  f11 := ⟨Tryz.f201.name, by decide, Tryz.func201.trans (congrArg some (by kernel_rfl))⟩
  t0 := Tryz.underlying0
  a0 := Tryz.isAgg0
  z0 := Tryz.sizeOf0
  v0 := Tryz.zeroValue0
  t24 := Tryz.underlying131
  a24 := Tryz.isAgg131
  z24 := Tryz.sizeOf131
  v24 := Tryz.zeroValue131
  t26 := Tryz.underlying9
  a26 := Tryz.isAgg9
  z26 := Tryz.sizeOf9
  v26 := Tryz.zeroValue9
  t28 := Tryz.underlying209
  a28 := Tryz.isAgg209
  z28 := Tryz.sizeOf209
  v28 := Tryz.zeroValue209
  i26 := by kernel_rfl }
def Tryz.sort180_ren : Go.Shelf.Ren := ⟨fun | 6 => 180 | 8 => 139 | 9 => 202 | 19 => 175 | 20 => 176 | 21 => 207 | 22 => 208 | 23 => 209 | 24 => 210 | 25 => 211 | 26 => 212 | 27 => 213 | 28 => 214 | 29 => 215 | 36 => 217 | 31 => 197 | 32 => 198 | 37 => 218 | 38 => 219 | 39 => 164 | 41 => 220 | n => n, fun | 27 => 131 | 29 => 9 | 3 => 3 | 32 => 205 | 26 => 131 | 0 => 0 | 44 => 234 | 46 => 236 | 4 => 4 | 36 => 228 | 35 => 227 | 41 => 48 | 5 => 5 | 9 => 9 | 53 => 247 | 57 => 251 | 63 => 257 | 64 => 258 | n => n, fun | n => n⟩
theorem Tryz.sort180 : Go.Proofs.SlLaysM.n6 Tryz.prog Tryz.sort180_ren := {
  mixed := by kernel_rfl
  f6 := ⟨Tryz.f180.name, by decide, Tryz.func180.trans (congrArg some (by kernel_rfl))⟩
  f8 := Tryz.func139.trans (congrArg some (by kernel_rfl))
  f9 := ⟨Tryz.f202.name, by decide, Tryz.func202.trans (congrArg some (by kernel_rfl))⟩
  f19 := Tryz.func175.trans (congrArg some (by kernel_rfl))
  f20 := Tryz.func176.trans (congrArg some (by kernel_rfl))
  f21 := ⟨Tryz.f207.name, by decide, Tryz.func207.trans (congrArg some (by kernel_rfl))⟩
  f22 := ⟨Tryz.f208.name, by decide, Tryz.func208.trans (congrArg some (by kernel_rfl))⟩
  f23 := ⟨Tryz.f209.name, by decide, Tryz.func209.trans (congrArg some (by kernel_rfl))⟩
  f24 := ⟨Tryz.f210.name, by decide, Tryz.func210.trans (congrArg some (by kernel_rfl))⟩
  f25 := ⟨Tryz.f211.name, by decide, Tryz.func211.trans (congrArg some (by kernel_rfl))⟩
  f26 := ⟨Tryz.f212.name, by decide, Tryz.func212.trans (congrArg some (by kernel_rfl))⟩
  f27 := ⟨Tryz.f213.name, by decide, Tryz.func213.trans (congrArg some (by kernel_rfl))⟩
  f28 := ⟨Tryz.f214.name, by decide, Tryz.func214.trans (congrArg some (by kernel_rfl))⟩
  f29 := ⟨Tryz.f215.name, by decide, Tryz.func215.trans (congrArg some (by kernel_rfl))⟩
  f31 := Tryz.func197.trans (congrArg some (by kernel_rfl))
  f32 := Tryz.func198.trans (congrArg some (by kernel_rfl))
  f36 := ⟨Tryz.f217.name, by decide, Tryz.func217.trans (congrArg some (by kernel_rfl))⟩
  f37 := ⟨Tryz.f218.name, by decide, Tryz.func218.trans (congrArg some (by kernel_rfl))⟩
  f38 := ⟨Tryz.f219.name, by decide, Tryz.func219.trans (congrArg some (by kernel_rfl))⟩
  f39 := ⟨Tryz.f164.name, by decide, Tryz.func164.trans (congrArg some (by kernel_rfl))⟩
  f41 := ⟨Tryz.f220.name, by decide, Tryz.func220.trans (congrArg some (by kernel_rfl))⟩
  t0 := Tryz.underlying0
  a0 := Tryz.isAgg0
  z0 := Tryz.sizeOf0
  v0 := Tryz.zeroValue0
  t3 := Tryz.underlying3
  a3 := Tryz.isAgg3
  z3 := Tryz.sizeOf3
  v3 := Tryz.zeroValue3
  t4 := Tryz.underlying4
  a4 := Tryz.isAgg4
  z4 := Tryz.sizeOf4
  v4 := Tryz.zeroValue4
  t5 := Tryz.underlying5
  a5 := Tryz.isAgg5
  z5 := Tryz.sizeOf5
  v5 := Tryz.zeroValue5
  t9 := Tryz.underlying9
  a9 := Tryz.isAgg9
  z9 := Tryz.sizeOf9
  v9 := Tryz.zeroValue9
  t26 := Tryz.underlying131
  a26 := Tryz.isAgg131
  z26 := Tryz.sizeOf131
  v26 := Tryz.zeroValue131
  t27 := Tryz.underlying131
  a27 := Tryz.isAgg131
  z27 := Tryz.sizeOf131
  v27 := Tryz.zeroValue131
  t29 := Tryz.underlying9
  a29 := Tryz.isAgg9
  z29 := Tryz.sizeOf9
  v29 := Tryz.zeroValue9
  t32 := Tryz.underlying205
  a32 := Tryz.isAgg205
  z32 := Tryz.sizeOf205
  v32 := Tryz.zeroValue205
  t35 := Tryz.underlying227
  a35 := Tryz.isAgg227
  z35 := Tryz.sizeOf227
  v35 := Tryz.zeroValue227
  t36 := Tryz.underlying228
  a36 := Tryz.isAgg228
  z36 := Tryz.sizeOf228
  v36 := Tryz.zeroValue228
  t41 := Tryz.underlying48
  a41 := Tryz.isAgg48
  z41 := Tryz.sizeOf48
  v41 := Tryz.zeroValue48
  t44 := Tryz.underlying234
  a44 := Tryz.isAgg234
  z44 := Tryz.sizeOf234
  v44 := Tryz.zeroValue234
  t46 := Tryz.underlying236
  a46 := Tryz.isAgg236
  z46 := Tryz.sizeOf236
  v46 := Tryz.zeroValue236
  t53 := Tryz.underlying247
  a53 := Tryz.isAgg247
  z53 := Tryz.sizeOf247
  v53 := Tryz.zeroValue247
  t57 := Tryz.underlying251
  a57 := Tryz.isAgg251
  z57 := Tryz.sizeOf251
  v57 := Tryz.zeroValue251
  t63 := Tryz.underlying257
  a63 := Tryz.isAgg257
  z63 := Tryz.sizeOf257
  v63 := Tryz.zeroValue257
  t64 := Tryz.underlying258
  a64 := Tryz.isAgg258
  z64 := Tryz.sizeOf258
  v64 := Tryz.zeroValue258 }
end Go.Proofs
/- slices.Sorted(maps.Keys(m)) at this translation: of maps that rise. -/
namespace Go.Proofs.YtmifgnibalbgjaaGreat
open Go.RowKit Go.Maps Go.Sort Go.Shelf

theorem sorts42 (m : Nat) : AnyZI.SortsIn Tryz.prog Tryz.sorted42_ren Fence.wide m :=
  ⟨fun blk off cap ss W hH hblk hsz => callsIn_wide.2 (AnyM.slices_Sort_int Tryz.sort93 blk off cap ss W hH hblk hsz),
   fun p cap W => callsIn_wide.2 (AnyM.slices_Sort_int_none Tryz.sort93 p cap W)⟩
theorem keys43 (b : Nat) (w : World) : Calls Tryz.prog 43 #[.map (some b)] w fun e w' => e = .returned (.func (.func 94) #[] #[.pointer (some ⟨w.heap.size, 0, none⟩)]) ∧ w' = w.alloc (.cells #[.map (some b)] 96) :=
  (callsIn_wide (n := 5)).1 (AnyZI.keys_in Tryz.keys43 Fence.wide 5 trivial rfl (some b) w)
set_option maxHeartbeats 1000000 in
theorem sorted43 {b : Nat} {L : List (Int × Value)} {w : World} {D : List Nat} (hm : KMapA (intK Tryz.underlying3) b L w D) (hn : L.length ≤ 1000000) :
    Calls Tryz.prog 42 #[.func (.func 94) #[] #[.pointer (some ⟨w.heap.size, 0, none⟩)]] (w.alloc (.cells #[.map (some b)] 96)) fun e w' => ∃ a c, e = .returned (.slice a L.length c) ∧ Row w' 3 1 a L.length c (L.map fun p => .int .i64 p.1) ∧
      (∀ x ∈ blkOf a, w.heap.size < x) ∧ Below w.heap.size w w' := by
  have hown := hm.2
  have hbl := hown.lt
  have hseq : SeqGives Fence.wide 2 Tryz.prog 94 #[.pointer (some ⟨w.heap.size, 0, none⟩)] encZ (fun ss : List Int => ss.Perm (intKeys (entD (intK Tryz.underlying3) L))) (Maps.size (entD (intK Tryz.underlying3) L)) (w.alloc (.cells #[.map (some b)] 96)) :=
    AnyZI.keys_gives (ρ := Tryz.keys43_ren) { Tryz.keys43 with } Fence.wide _ trivial rfl (by omega) w.heap.size b L.length _ _ (by simp) (by simp) (by
      obtain ⟨es, clock, hb, Ft, hs, hD⟩ := hown
      exact ⟨es, clock, (Below.heap_alloc _ _ b hbl).trans hb, Ft, hs, hD⟩)
  have cS := AnyZI.sorted_in Tryz.sorted42 Fence.wide 5 trivial trivial trivial trivial rfl (by omega) (sorts42 _) (enters_of Tryz.func93 (by kernel_rfl) rfl) 94 #[.pointer (some ⟨w.heap.size, 0, none⟩)] trivial (enters_of Tryz.func94 (by kernel_rfl) rfl) _ _ (by rw [entD_size]; unfold maxLen; omega) (by rw [entD_size]; omega) _ hseq
  refine ((callsIn_wide (n := 5)).1 cS).mono ?_
  rintro e w' ⟨v, ss, rfl, hp, hrow, hnil, hb⟩
  have hlen : ss.length = L.length := by
    have := hp.length_eq
    simpa [intKeys, entD] using this
  rw [keysI _ hm.rise hp] at hrow
  have hsz : (w.alloc (.cells #[.map (some b)] 96)).heap.size = w.heap.size + 1 := by show (w.heap.push _).size = _; simp
  rw [hlen] at hrow
  obtain ⟨hl, hv⟩ := hrow
  have hv0 := hv
  obtain ⟨a, c, rfl⟩ : ∃ a c, v = .slice a L.length c := by
    rcases hv with ⟨rfl, h0⟩ | ⟨g, cap, cur, rfl, _⟩
    · exact ⟨none, 0, by rw [h0]⟩
    · exact ⟨_, _, rfl⟩
  refine ⟨a, c, rfl, ⟨by simp, ?_⟩, ?_, ((Below.refl _ w).alloc (Nat.le_refl _) _).trans (hb.mono (by rw [hsz]; omega))⟩
  · rcases hv0 with ⟨h1, h2⟩ | ⟨g, cap, cur, h1, h2, h3⟩
    · exact .inl ⟨h1, h2⟩
    · obtain ⟨e1, e2, e3, e4, e5⟩ := h3
      exact .inr ⟨g, cap, cur, h1, Nat.zero_le _, e1, e2, e3, e4, by rw [e5, List.map_map]; rfl⟩
  · rcases hv0 with ⟨h1, h2⟩ | ⟨g, cap, cur, h1, h2, h3⟩
    · simp only [Value.slice.injEq] at h1; intro x hx; rw [h1.1] at hx; cases hx
    · simp only [Value.slice.injEq] at h1; intro x hx; rw [h1.1] at hx; simp [blkOf] at hx; rw [hsz] at h2; omega
theorem keys50 (b : Nat) (w : World) : Calls Tryz.prog 50 #[.map (some b)] w fun e w' => e = .returned (.func (.func 101) #[] #[.pointer (some ⟨w.heap.size, 0, none⟩)]) ∧ w' = w.alloc (.cells #[.map (some b)] 97) :=
  (callsIn_wide (n := 5)).1 (AnyZI.keys_in Tryz.keys50 Fence.wide 5 trivial rfl (some b) w)
set_option maxHeartbeats 1000000 in
theorem sorted50 {b : Nat} {L : List (Int × Value)} {w : World} {D : List Nat} (hm : KMapA (intK Tryz.underlying3) b L w D) (hn : L.length ≤ 1000000) :
    Calls Tryz.prog 42 #[.func (.func 101) #[] #[.pointer (some ⟨w.heap.size, 0, none⟩)]] (w.alloc (.cells #[.map (some b)] 97)) fun e w' => ∃ a c, e = .returned (.slice a L.length c) ∧ Row w' 3 1 a L.length c (L.map fun p => .int .i64 p.1) ∧
      (∀ x ∈ blkOf a, w.heap.size < x) ∧ Below w.heap.size w w' := by
  have hown := hm.2
  have hbl := hown.lt
  have hseq : SeqGives Fence.wide 2 Tryz.prog 101 #[.pointer (some ⟨w.heap.size, 0, none⟩)] encZ (fun ss : List Int => ss.Perm (intKeys (entD (intK Tryz.underlying3) L))) (Maps.size (entD (intK Tryz.underlying3) L)) (w.alloc (.cells #[.map (some b)] 97)) :=
    AnyZI.keys_gives (ρ := Tryz.keys50_ren) { Tryz.keys50 with } Fence.wide _ trivial rfl (by omega) w.heap.size b L.length _ _ (by simp) (by simp) (by
      obtain ⟨es, clock, hb, Ft, hs, hD⟩ := hown
      exact ⟨es, clock, (Below.heap_alloc _ _ b hbl).trans hb, Ft, hs, hD⟩)
  have cS := AnyZI.sorted_in Tryz.sorted42 Fence.wide 5 trivial trivial trivial trivial rfl (by omega) (sorts42 _) (enters_of Tryz.func93 (by kernel_rfl) rfl) 101 #[.pointer (some ⟨w.heap.size, 0, none⟩)] trivial (enters_of Tryz.func101 (by kernel_rfl) rfl) _ _ (by rw [entD_size]; unfold maxLen; omega) (by rw [entD_size]; omega) _ hseq
  refine ((callsIn_wide (n := 5)).1 cS).mono ?_
  rintro e w' ⟨v, ss, rfl, hp, hrow, hnil, hb⟩
  have hlen : ss.length = L.length := by
    have := hp.length_eq
    simpa [intKeys, entD] using this
  rw [keysI _ hm.rise hp] at hrow
  have hsz : (w.alloc (.cells #[.map (some b)] 97)).heap.size = w.heap.size + 1 := by show (w.heap.push _).size = _; simp
  rw [hlen] at hrow
  obtain ⟨hl, hv⟩ := hrow
  have hv0 := hv
  obtain ⟨a, c, rfl⟩ : ∃ a c, v = .slice a L.length c := by
    rcases hv with ⟨rfl, h0⟩ | ⟨g, cap, cur, rfl, _⟩
    · exact ⟨none, 0, by rw [h0]⟩
    · exact ⟨_, _, rfl⟩
  refine ⟨a, c, rfl, ⟨by simp, ?_⟩, ?_, ((Below.refl _ w).alloc (Nat.le_refl _) _).trans (hb.mono (by rw [hsz]; omega))⟩
  · rcases hv0 with ⟨h1, h2⟩ | ⟨g, cap, cur, h1, h2, h3⟩
    · exact .inl ⟨h1, h2⟩
    · obtain ⟨e1, e2, e3, e4, e5⟩ := h3
      exact .inr ⟨g, cap, cur, h1, Nat.zero_le _, e1, e2, e3, e4, by rw [e5, List.map_map]; rfl⟩
  · rcases hv0 with ⟨h1, h2⟩ | ⟨g, cap, cur, h1, h2, h3⟩
    · simp only [Value.slice.injEq] at h1; intro x hx; rw [h1.1] at hx; cases hx
    · simp only [Value.slice.injEq] at h1; intro x hx; rw [h1.1] at hx; simp [blkOf] at hx; rw [hsz] at h2; omega
theorem sorts141 (m : Nat) : AnyZ.SortsIn Tryz.prog Tryz.sorted141_ren Fence.wide m :=
  ⟨fun blk off cap ss W hH hblk hsz => callsIn_wide.2 (AnyM.slices_Sort_string Tryz.sort180 blk off cap ss W hH hblk hsz),
   fun p cap W => callsIn_wide.2 (AnyM.slices_Sort_string_none Tryz.sort180 p cap W)⟩
theorem keys142 (b : Nat) (w : World) : Calls Tryz.prog 142 #[.map (some b)] w fun e w' => e = .returned (.func (.func 181) #[] #[.pointer (some ⟨w.heap.size, 0, none⟩)]) ∧ w' = w.alloc (.cells #[.map (some b)] 140) :=
  (callsIn_wide (n := 5)).1 (AnyZ.keys_in Tryz.keys142 Fence.wide 5 trivial rfl (some b) w)
set_option maxHeartbeats 1000000 in
theorem sorted142 {b : Nat} {L : List (ByteArray × Value)} {w : World} {D : List Nat} (hm : KMapA (strK Tryz.underlying9) b L w D) (hn : L.length ≤ 1000000) :
    Calls Tryz.prog 141 #[.func (.func 181) #[] #[.pointer (some ⟨w.heap.size, 0, none⟩)]] (w.alloc (.cells #[.map (some b)] 140)) fun e w' => ∃ a c, e = .returned (.slice a L.length c) ∧ Row w' 9 1 a L.length c (L.map fun p => .string p.1) ∧
      (∀ x ∈ blkOf a, w.heap.size < x) ∧ Below w.heap.size w w' := by
  have hown := hm.2
  have hbl := hown.lt
  have hseq : SeqGives Fence.wide 2 Tryz.prog 181 #[.pointer (some ⟨w.heap.size, 0, none⟩)] encStr (fun ss : List (List UInt8) => ss.Perm (strKeys (entD (strK Tryz.underlying9) L))) (Maps.size (entD (strK Tryz.underlying9) L)) (w.alloc (.cells #[.map (some b)] 140)) :=
    AnyZ.keys_gives (ρ := Tryz.keys142_ren) { Tryz.keys142 with } Fence.wide _ trivial rfl (by omega) w.heap.size b L.length _ _ (by simp) (by simp) (by
      obtain ⟨es, clock, hb, Ft, hs, hD⟩ := hown
      exact ⟨es, clock, (Below.heap_alloc _ _ b hbl).trans hb, Ft, hs, hD⟩)
  have cS := AnyZ.sorted_in Tryz.sorted141 Fence.wide 5 trivial trivial trivial trivial rfl (by omega) (sorts141 _) (enters_of Tryz.func180 (by kernel_rfl) rfl) 181 #[.pointer (some ⟨w.heap.size, 0, none⟩)] trivial (enters_of Tryz.func181 (by kernel_rfl) rfl) _ _ (by rw [entD_size]; unfold maxLen; omega) (by rw [entD_size]; omega) _ hseq
  refine ((callsIn_wide (n := 5)).1 cS).mono ?_
  rintro e w' ⟨v, ss, rfl, hp, hrow, hnil, hb⟩
  have hlen : ss.length = L.length := by
    have := hp.length_eq
    simpa [strKeys, entD] using this
  rw [keysS _ hm.rise hp] at hrow
  have hsz : (w.alloc (.cells #[.map (some b)] 140)).heap.size = w.heap.size + 1 := by show (w.heap.push _).size = _; simp
  rw [hlen] at hrow
  obtain ⟨hl, hv⟩ := hrow
  have hv0 := hv
  obtain ⟨a, c, rfl⟩ : ∃ a c, v = .slice a L.length c := by
    rcases hv with ⟨rfl, h0⟩ | ⟨g, cap, cur, rfl, _⟩
    · exact ⟨none, 0, by rw [h0]⟩
    · exact ⟨_, _, rfl⟩
  refine ⟨a, c, rfl, ⟨by simp, ?_⟩, ?_, ((Below.refl _ w).alloc (Nat.le_refl _) _).trans (hb.mono (by rw [hsz]; omega))⟩
  · rcases hv0 with ⟨h1, h2⟩ | ⟨g, cap, cur, h1, h2, h3⟩
    · exact .inl ⟨h1, h2⟩
    · obtain ⟨e1, e2, e3, e4, e5⟩ := h3
      exact .inr ⟨g, cap, cur, h1, Nat.zero_le _, e1, e2, e3, e4, by rw [e5, List.map_map]; exact List.map_congr_left fun p _ => by simp [encStr]⟩
  · rcases hv0 with ⟨h1, h2⟩ | ⟨g, cap, cur, h1, h2, h3⟩
    · simp only [Value.slice.injEq] at h1; intro x hx; rw [h1.1] at hx; cases hx
    · simp only [Value.slice.injEq] at h1; intro x hx; rw [h1.1] at hx; simp [blkOf] at hx; rw [hsz] at h2; omega
end Go.Proofs.YtmifgnibalbgjaaGreat
