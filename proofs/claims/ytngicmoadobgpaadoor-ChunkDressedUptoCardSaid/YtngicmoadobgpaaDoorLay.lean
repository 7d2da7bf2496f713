/- Contracts of the library laid at this program. Conditions: none. -/
import Derived.Ground.NamesProg
import Derived.Test.YtngicmoadobgpaaDoorProg
import Derived.Shelf.Strings.SlTrimAscii
namespace Go.Proofs
open Go.Shelf
def Tryd.trimN_ren : Go.Shelf.Ren := ⟨fun | 160 => 103 | 232 => 113 | 231 => 112 | 227 => 114 | 234 => 116 | 233 => 115 | 236 => 118 | 235 => 117 | 228 => 124 | 271 => 127 | 151 => 126 | 197 => 125 | 120 => 135 | 152 => 134 | 260 => 133 | 137 => 105 | 119 => 138 | 224 => 122 | 225 => 121 | 217 => 119 | 266 => 128 | n => n, fun | 9 => 9 | 4 => 4 | 3 => 3 | 5 => 5 | 117 => 149 | 116 => 148 | 0 => 0 | 124 => 152 | 21 => 21 | 105 => 156 | 46 => 136 | 119 => 164 | 139 => 167 | 138 => 166 | n => n, fun | 3 => 4 | 4 => 5 | n => n⟩
theorem Tryd.trimN : Go.Proofs.Lays.n160 Tryd.prog Tryd.trimN_ren := {
  mixed := by kernel_rfl
  f119 := Tryd.func138.trans (congrArg some (by kernel_rfl))
  f120 := Tryd.func135.trans (congrArg some (by kernel_rfl))
  f137 := Tryd.func105.trans (congrArg some (by kernel_rfl))
  f151 := Tryd.func126.trans (congrArg some (by kernel_rfl))
  f152 := Tryd.func134.trans (congrArg some (by kernel_rfl))
  f160 := Tryd.func103.trans (congrArg some (by kernel_rfl))
  f197 := Tryd.func125.trans (congrArg some (by kernel_rfl))
  f217 := Tryd.func119.trans (congrArg some (by kernel_rfl))
  f224 := Tryd.func122.trans (congrArg some (by kernel_rfl))
  f225 := Tryd.func121.trans (congrArg some (by kernel_rfl))
  f227 := Tryd.func114.trans (congrArg some (by kernel_rfl))
  f228 := Tryd.func124.trans (congrArg some (by kernel_rfl))
  f231 := Tryd.func112.trans (congrArg some (by kernel_rfl))
  f232 := Tryd.func113.trans (congrArg some (by kernel_rfl))
  f233 := Tryd.func115.trans (congrArg some (by kernel_rfl))
  f234 := Tryd.func116.trans (congrArg some (by kernel_rfl))
  f235 := Tryd.func117.trans (congrArg some (by kernel_rfl))
  f236 := Tryd.func118.trans (congrArg some (by kernel_rfl))
  f260 := Tryd.func133.trans (congrArg some (by kernel_rfl))
  f266 := Tryd.func128.trans (congrArg some (by kernel_rfl))
  f271 := Tryd.func127.trans (congrArg some (by kernel_rfl))
  t0 := Tryd.underlying0
  a0 := Tryd.isAgg0
  z0 := Tryd.sizeOf0
  v0 := Tryd.zeroValue0
  t3 := Tryd.underlying3
  a3 := Tryd.isAgg3
  z3 := Tryd.sizeOf3
  v3 := Tryd.zeroValue3
  t4 := Tryd.underlying4
  a4 := Tryd.isAgg4
  z4 := Tryd.sizeOf4
  v4 := Tryd.zeroValue4
  t5 := Tryd.underlying5
  a5 := Tryd.isAgg5
  z5 := Tryd.sizeOf5
  v5 := Tryd.zeroValue5
  t9 := Tryd.underlying9
  a9 := Tryd.isAgg9
  z9 := Tryd.sizeOf9
  v9 := Tryd.zeroValue9
  t21 := Tryd.underlying21
  a21 := Tryd.isAgg21
  z21 := Tryd.sizeOf21
  v21 := Tryd.zeroValue21
  t46 := Tryd.underlying136
  a46 := Tryd.isAgg136
  z46 := Tryd.sizeOf136
  v46 := Tryd.zeroValue136
  t105 := Tryd.underlying156
  a105 := Tryd.isAgg156
  z105 := Tryd.sizeOf156
  v105 := Tryd.zeroValue156
  t116 := Tryd.underlying148
  a116 := Tryd.isAgg148
  z116 := Tryd.sizeOf148
  t117 := Tryd.underlying149
  a117 := Tryd.isAgg149
  z117 := Tryd.sizeOf149
  v117 := Tryd.zeroValue149
  t119 := Tryd.underlying164
  a119 := Tryd.isAgg164
  z119 := Tryd.sizeOf164
  t124 := Tryd.underlying152
  a124 := Tryd.isAgg152
  z124 := Tryd.sizeOf152
  v124 := Tryd.zeroValue152
  t138 := Tryd.underlying166
  a138 := Tryd.isAgg166
  z138 := Tryd.sizeOf166
  v138 := Tryd.zeroValue166
  t139 := Tryd.underlying167
  a139 := Tryd.isAgg167
  z139 := Tryd.sizeOf167
  v139 := Tryd.zeroValue167
  g3 := by kernel_rfl
  g4 := by kernel_rfl }
end Go.Proofs
