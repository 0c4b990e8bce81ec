/-
  DERIVED: THE SHELF's CONTRACTS AT THIS DUMP, IN PLAIN WORDS (tools/lay-plain.mjs out of 'LaidSrc.lean', which tools/lay-shelf.mjs wrote): THE SAME DECLARATIONS UNDER THE SAME NAMES: 'import', 'namespace', 'open', 'def', 'theorem' AND NOTHING ELSE: no command of the shelf's: FOR A HAND-IN. Each laying: the table of numbers ('.._ren') and one theorem, a field a fact of the dump's own or the kernel's comparison; each contract: ONE APPLICATION.
-/
import Derived.Ground.NamesProg
import Derived.Shelf.Strings.SlTrimAscii
import Derived.Shelf.Small.Strs
import Derived.Test.YtlgefkaafoidmaaDoorProg
namespace Go.Proofs
open Go.Shelf
def Tryd.trimL_ren : Go.Shelf.Ren := ⟨fun | 160 => 67 | 232 => 69 | 231 => 68 | 227 => 70 | 234 => 72 | 233 => 71 | 236 => 74 | 235 => 73 | 228 => 75 | 271 => 78 | 151 => 77 | 197 => 76 | 120 => 81 | 152 => 80 | 260 => 79 | 137 => 82 | 119 => 83 | 224 => 84 | 225 => 85 | 217 => 86 | 266 => 87 | n => n, fun | 9 => 9 | 4 => 4 | 3 => 3 | 5 => 5 | 117 => 124 | 116 => 123 | 0 => 0 | 124 => 127 | 21 => 21 | 105 => 129 | 46 => 102 | 119 => 133 | 139 => 136 | 138 => 135 | n => n, fun | 3 => 1 | 4 => 2 | n => n⟩
theorem Tryd.trimL : Go.Proofs.Lays.n160 Tryd.prog Tryd.trimL_ren := {
  mixed := by kernel_rfl
  f119 := Tryd.func83.trans (congrArg some (by kernel_rfl))
  f120 := Tryd.func81.trans (congrArg some (by kernel_rfl))
  f137 := Tryd.func82.trans (congrArg some (by kernel_rfl))
  f151 := Tryd.func77.trans (congrArg some (by kernel_rfl))
  f152 := Tryd.func80.trans (congrArg some (by kernel_rfl))
  f160 := Tryd.func67.trans (congrArg some (by kernel_rfl))
  f197 := Tryd.func76.trans (congrArg some (by kernel_rfl))
  f217 := Tryd.func86.trans (congrArg some (by kernel_rfl))
  f224 := Tryd.func84.trans (congrArg some (by kernel_rfl))
  f225 := Tryd.func85.trans (congrArg some (by kernel_rfl))
  f227 := Tryd.func70.trans (congrArg some (by kernel_rfl))
  f228 := Tryd.func75.trans (congrArg some (by kernel_rfl))
  f231 := Tryd.func68.trans (congrArg some (by kernel_rfl))
  f232 := Tryd.func69.trans (congrArg some (by kernel_rfl))
  f233 := Tryd.func71.trans (congrArg some (by kernel_rfl))
  f234 := Tryd.func72.trans (congrArg some (by kernel_rfl))
  f235 := Tryd.func73.trans (congrArg some (by kernel_rfl))
  f236 := Tryd.func74.trans (congrArg some (by kernel_rfl))
  f260 := Tryd.func79.trans (congrArg some (by kernel_rfl))
  f266 := Tryd.func87.trans (congrArg some (by kernel_rfl))
  f271 := Tryd.func78.trans (congrArg some (by kernel_rfl))
  t0 := Tryd.underlying0
  a0 := Tryd.isAgg0
  z0 := Tryd.sizeOf0
  v0 := Tryd.zeroValue0
  t3 := Tryd.underlying3
  a3 := Tryd.isAgg3
  z3 := Tryd.sizeOf3
  v3 := Tryd.zeroValue3
  t4 := Tryd.underlying4
  a4 := Tryd.isAgg4
  z4 := Tryd.sizeOf4
  v4 := Tryd.zeroValue4
  t5 := Tryd.underlying5
  a5 := Tryd.isAgg5
  z5 := Tryd.sizeOf5
  v5 := Tryd.zeroValue5
  t9 := Tryd.underlying9
  a9 := Tryd.isAgg9
  z9 := Tryd.sizeOf9
  v9 := Tryd.zeroValue9
  t21 := Tryd.underlying21
  a21 := Tryd.isAgg21
  z21 := Tryd.sizeOf21
  v21 := Tryd.zeroValue21
  t46 := Tryd.underlying102
  a46 := Tryd.isAgg102
  z46 := Tryd.sizeOf102
  v46 := Tryd.zeroValue102
  t105 := Tryd.underlying129
  a105 := Tryd.isAgg129
  z105 := Tryd.sizeOf129
  v105 := Tryd.zeroValue129
  t116 := Tryd.underlying123
  a116 := Tryd.isAgg123
  z116 := Tryd.sizeOf123
  t117 := Tryd.underlying124
  a117 := Tryd.isAgg124
  z117 := Tryd.sizeOf124
  v117 := Tryd.zeroValue124
  t119 := Tryd.underlying133
  a119 := Tryd.isAgg133
  z119 := Tryd.sizeOf133
  t124 := Tryd.underlying127
  a124 := Tryd.isAgg127
  z124 := Tryd.sizeOf127
  v124 := Tryd.zeroValue127
  t138 := Tryd.underlying135
  a138 := Tryd.isAgg135
  z138 := Tryd.sizeOf135
  v138 := Tryd.zeroValue135
  t139 := Tryd.underlying136
  a139 := Tryd.isAgg136
  z139 := Tryd.sizeOf136
  v139 := Tryd.zeroValue136
  g3 := by kernel_rfl
  g4 := by kernel_rfl }
end Go.Proofs
