/-
  The library's contracts at this program's own numbers, laid by the kit's lay-plain.
-/
import Derived.Shelf.Small.Bits
import Derived.Shelf.Utf8.RuneCount
import Derived.Shelf.Strconv.Itoa0
import Derived.Shelf.Strings.Search1
import Derived.Shelf.Strings.Search2
import Derived.Shelf.Strings.Search3
import Derived.Shelf.Strings.Count
import Derived.Shelf.LaysM
import Derived.Shelf.Strings.Shaped
import Derived.Shelf.Strings.Prefix
import Derived.Shelf.Strings.Split
import Derived.Shelf.Strings.SplitShaped
import Derived.Shelf.Unicode.DecodeSlow
import Derived.Test.YtjaokljbdoocmaaGreatDoorProg
namespace Go.Proofs
open Go.Shelf
def Tryz.lays146_ren : Go.Shelf.Ren := ⟨fun | 146 => 177 | 221 => 215 | 268 => 236 | 138 => 237 | 143 => 238 | 195 => 245 | 197 => 246 | 218 => 247 | 219 => 248 | 260 => 250 | 217 => 251 | 225 => 252 | 224 => 253 | 267 => 254 | 266 => 255 | 314 => 256 | n => n, fun | 9 => 9 | 31 => 24 | 3 => 3 | 4 => 4 | 0 => 0 | 105 => 268 | 21 => 21 | 5 => 5 | 46 => 187 | 119 => 272 | 139 => 275 | 138 => 274 | 146 => 276 | 51 => 216 | n => n, fun | 1 => 0 | 3 => 1 | 4 => 2 | n => n⟩
theorem Tryz.lays146 : Go.Proofs.Lays.n146 Tryz.prog Tryz.lays146_ren := {
  mixed := by kernel_rfl
  f138 := Tryz.func237.trans (congrArg some (by kernel_rfl))
  f143 := Tryz.func238.trans (congrArg some (by kernel_rfl))
  f146 := Tryz.func177.trans (congrArg some (by kernel_rfl))
  f195 := Tryz.func245.trans (congrArg some (by kernel_rfl))
  f197 := Tryz.func246.trans (congrArg some (by kernel_rfl))
  f217 := Tryz.func251.trans (congrArg some (by kernel_rfl))
  f218 := Tryz.func247.trans (congrArg some (by kernel_rfl))
  f219 := Tryz.func248.trans (congrArg some (by kernel_rfl))
  f221 := Tryz.func215.trans (congrArg some (by kernel_rfl))
  f224 := Tryz.func253.trans (congrArg some (by kernel_rfl))
  f225 := Tryz.func252.trans (congrArg some (by kernel_rfl))
  f260 := Tryz.func250.trans (congrArg some (by kernel_rfl))
  f266 := Tryz.func255.trans (congrArg some (by kernel_rfl))
  f267 := Tryz.func254.trans (congrArg some (by kernel_rfl))
  f268 := Tryz.func236.trans (congrArg some (by kernel_rfl))
  f314 := Tryz.func256.trans (congrArg some (by kernel_rfl))
  t0 := Tryz.underlying0
  a0 := Tryz.isAgg0
  z0 := Tryz.sizeOf0
  v0 := Tryz.zeroValue0
  t3 := Tryz.underlying3
  a3 := Tryz.isAgg3
  z3 := Tryz.sizeOf3
  v3 := Tryz.zeroValue3
  t4 := Tryz.underlying4
  a4 := Tryz.isAgg4
  z4 := Tryz.sizeOf4
  v4 := Tryz.zeroValue4
  t5 := Tryz.underlying5
  a5 := Tryz.isAgg5
  z5 := Tryz.sizeOf5
  v5 := Tryz.zeroValue5
  t9 := Tryz.underlying9
  a9 := Tryz.isAgg9
  z9 := Tryz.sizeOf9
  v9 := Tryz.zeroValue9
  t21 := Tryz.underlying21
  a21 := Tryz.isAgg21
  z21 := Tryz.sizeOf21
  v21 := Tryz.zeroValue21
  t31 := Tryz.underlying24
  a31 := Tryz.isAgg24
  z31 := Tryz.sizeOf24
  v31 := Tryz.zeroValue24
  t46 := Tryz.underlying187
  a46 := Tryz.isAgg187
  z46 := Tryz.sizeOf187
  v46 := Tryz.zeroValue187
  t51 := Tryz.underlying216
  a51 := Tryz.isAgg216
  z51 := Tryz.sizeOf216
  v51 := Tryz.zeroValue216
  t105 := Tryz.underlying268
  a105 := Tryz.isAgg268
  z105 := Tryz.sizeOf268
  v105 := Tryz.zeroValue268
  t119 := Tryz.underlying272
  a119 := Tryz.isAgg272
  z119 := Tryz.sizeOf272
  t138 := Tryz.underlying274
  a138 := Tryz.isAgg274
  z138 := Tryz.sizeOf274
  v138 := Tryz.zeroValue274
  t139 := Tryz.underlying275
  a139 := Tryz.isAgg275
  z139 := Tryz.sizeOf275
  v139 := Tryz.zeroValue275
  t146 := Tryz.underlying276
  a146 := Tryz.isAgg276
  z146 := Tryz.sizeOf276
  v146 := Tryz.zeroValue276
  g1 := by kernel_rfl
  g3 := by kernel_rfl
  g4 := by kernel_rfl }
def Tryz.lays99_ren : Go.Shelf.Ren := ⟨fun | 99 => 145 | 206 => 179 | n => n, fun | 9 => 9 | 4 => 4 | 3 => 3 | n => n, fun | n => n⟩
theorem Tryz.lays99 : Go.Proofs.Lays.n99 Tryz.prog Tryz.lays99_ren := {
  mixed := by kernel_rfl
  f99 := Tryz.func145.trans (congrArg some (by kernel_rfl))
  f206 := Tryz.func179.trans (congrArg some (by kernel_rfl))
  t3 := Tryz.underlying3
  a3 := Tryz.isAgg3
  z3 := Tryz.sizeOf3
  v3 := Tryz.zeroValue3
  t4 := Tryz.underlying4
  a4 := Tryz.isAgg4
  z4 := Tryz.sizeOf4
  v4 := Tryz.zeroValue4
  t9 := Tryz.underlying9
  a9 := Tryz.isAgg9
  z9 := Tryz.sizeOf9
  v9 := Tryz.zeroValue9 }
def Tryz.lays100_ren : Go.Shelf.Ren := ⟨fun | 100 => 178 | 207 => 216 | n => n, fun | 9 => 9 | 4 => 4 | 3 => 3 | n => n, fun | n => n⟩
theorem Tryz.lays100 : Go.Proofs.Lays.n100 Tryz.prog Tryz.lays100_ren := {
  mixed := by kernel_rfl
  f100 := Tryz.func178.trans (congrArg some (by kernel_rfl))
  f207 := Tryz.func216.trans (congrArg some (by kernel_rfl))
  t3 := Tryz.underlying3
  a3 := Tryz.isAgg3
  z3 := Tryz.sizeOf3
  v3 := Tryz.zeroValue3
  t4 := Tryz.underlying4
  a4 := Tryz.isAgg4
  z4 := Tryz.sizeOf4
  v4 := Tryz.zeroValue4
  t9 := Tryz.underlying9
  a9 := Tryz.isAgg9
  z9 := Tryz.sizeOf9
  v9 := Tryz.zeroValue9 }
end Go.Proofs
