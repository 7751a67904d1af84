/- A Builder's WriteString laid by hand (lay-shelf passes over it: the structure names types that no body of the closure names). -/
import Derived.Shelf.Strings.Builder1
import Derived.Test.YtdlabapfcghfmaaGreatDoorProg
namespace Go.Proofs
open Go.Shelf
def Tryz.lays166_ren : Go.Shelf.Ren := ⟨fun | 166 => 41 | 240 => 71 | 276 => 103 | n => n, fun | 0 => 0 | 3 => 3 | 4 => 4 | 9 => 9 | 20 => 20 | 37 => 24 | 70 => 79 | 72 => 81 | 75 => 83 | 164 => 149 | 80 => 86 | 5 => 5 | n => n, fun | n => n⟩
theorem Tryz.lays166 : Go.Proofs.Lays.n166 Tryz.prog Tryz.lays166_ren := {
  mixed := by kernel_rfl
  f166 := Tryz.func41.trans (congrArg some (by kernel_rfl))
  f240 := Tryz.func71.trans (congrArg some (by kernel_rfl))
  f276 := Tryz.func103.trans (congrArg some (by kernel_rfl))
  t0 := Tryz.underlying0
  a0 := Tryz.isAgg0
  z0 := Tryz.sizeOf0
  v0 := Tryz.zeroValue0
  t3 := Tryz.underlying3
  a3 := Tryz.isAgg3
  z3 := Tryz.sizeOf3
  v3 := Tryz.zeroValue3
  t4 := Tryz.underlying4
  a4 := Tryz.isAgg4
  z4 := Tryz.sizeOf4
  v4 := Tryz.zeroValue4
  t9 := Tryz.underlying9
  a9 := Tryz.isAgg9
  z9 := Tryz.sizeOf9
  v9 := Tryz.zeroValue9
  t20 := Tryz.underlying20
  a20 := Tryz.isAgg20
  z20 := Tryz.sizeOf20
  v20 := Tryz.zeroValue20
  t37 := Tryz.underlying24
  a37 := Tryz.isAgg24
  z37 := Tryz.sizeOf24
  v37 := Tryz.zeroValue24
  t70 := Tryz.underlying79
  a70 := Tryz.isAgg79
  z70 := Tryz.sizeOf79
  v70 := Tryz.zeroValue79
  t72 := Tryz.underlying81
  a72 := Tryz.isAgg81
  z72 := Tryz.sizeOf81
  v72 := Tryz.zeroValue81
  t75 := Tryz.underlying83
  a75 := Tryz.isAgg83
  z75 := Tryz.sizeOf83
  v75 := Tryz.zeroValue83
  t164 := Tryz.underlying149
  a164 := Tryz.isAgg149
  z164 := Tryz.sizeOf149
  v164 := Tryz.zeroValue149 }
theorem Tryz.Builder_Extra_166 : Builder.Extra Tryz.prog Tryz.lays166_ren := {
  sizeBuilder := by kernel_rfl
  liesBuilder := by kernel_rfl
  t5 := Tryz.underlying5
  a5 := Tryz.isAgg5
  z5 := Tryz.sizeOf5
  v5 := Tryz.zeroValue5
  infoByte := by kernel_rfl
  cellsByte := by kernel_rfl
  sizeByte := by kernel_rfl
  neB5 := by decide }
end Go.Proofs
