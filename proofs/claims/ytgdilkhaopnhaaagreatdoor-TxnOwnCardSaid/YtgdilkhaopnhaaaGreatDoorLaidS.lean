/-
  DERIVED: THE SHELF's CONTRACTS AT THIS DUMP, IN PLAIN WORDS (tools/lay-plain.mjs out of 'LaidSrc.lean', which tools/lay-shelf.mjs wrote): THE SAME DECLARATIONS UNDER THE SAME NAMES: 'import', 'namespace', 'open', 'def', 'theorem' AND NOTHING ELSE: no command of the shelf's: FOR A HAND-IN. Each laying: the table of numbers ('.._ren') and one theorem, a field a fact of the dump's own or the kernel's comparison; each contract: ONE APPLICATION.
-/
import Derived.Ground.NamesProg
import Derived.Shelf.Strings.SlTrimAscii
import Derived.Shelf.Small.Strs
import Derived.Test.YtgdilkhaopnhaaaGreatDoorProg
namespace Go.Proofs
open Go.Shelf
def Tryz.trimL_ren : Go.Shelf.Ren := ⟨fun | 160 => 69 | 232 => 77 | 231 => 76 | 227 => 78 | 234 => 80 | 233 => 79 | 236 => 82 | 235 => 81 | 228 => 93 | 271 => 96 | 151 => 95 | 197 => 94 | 120 => 107 | 152 => 106 | 260 => 105 | 137 => 111 | 119 => 112 | 224 => 113 | 225 => 114 | 217 => 117 | 266 => 119 | n => n, fun | 9 => 9 | 4 => 4 | 3 => 3 | 5 => 5 | 117 => 134 | 116 => 133 | 0 => 0 | 124 => 137 | 21 => 21 | 105 => 147 | 46 => 106 | 119 => 162 | 139 => 165 | 138 => 164 | n => n, fun | 3 => 1 | 4 => 2 | n => n⟩
theorem Tryz.trimL : Go.Proofs.Lays.n160 Tryz.prog Tryz.trimL_ren := {
  mixed := by kernel_rfl
  f119 := Tryz.func112.trans (congrArg some (by kernel_rfl))
  f120 := Tryz.func107.trans (congrArg some (by kernel_rfl))
  f137 := Tryz.func111.trans (congrArg some (by kernel_rfl))
  f151 := Tryz.func95.trans (congrArg some (by kernel_rfl))
  f152 := Tryz.func106.trans (congrArg some (by kernel_rfl))
  f160 := Tryz.func69.trans (congrArg some (by kernel_rfl))
  f197 := Tryz.func94.trans (congrArg some (by kernel_rfl))
  f217 := Tryz.func117.trans (congrArg some (by kernel_rfl))
  f224 := Tryz.func113.trans (congrArg some (by kernel_rfl))
  f225 := Tryz.func114.trans (congrArg some (by kernel_rfl))
  f227 := Tryz.func78.trans (congrArg some (by kernel_rfl))
  f228 := Tryz.func93.trans (congrArg some (by kernel_rfl))
  f231 := Tryz.func76.trans (congrArg some (by kernel_rfl))
  f232 := Tryz.func77.trans (congrArg some (by kernel_rfl))
  f233 := Tryz.func79.trans (congrArg some (by kernel_rfl))
  f234 := Tryz.func80.trans (congrArg some (by kernel_rfl))
  f235 := Tryz.func81.trans (congrArg some (by kernel_rfl))
  f236 := Tryz.func82.trans (congrArg some (by kernel_rfl))
  f260 := Tryz.func105.trans (congrArg some (by kernel_rfl))
  f266 := Tryz.func119.trans (congrArg some (by kernel_rfl))
  f271 := Tryz.func96.trans (congrArg some (by kernel_rfl))
  t0 := Tryz.underlying0
  a0 := Tryz.isAgg0
  z0 := Tryz.sizeOf0
  v0 := Tryz.zeroValue0
  t3 := Tryz.underlying3
  a3 := Tryz.isAgg3
  z3 := Tryz.sizeOf3
  v3 := Tryz.zeroValue3
  t4 := Tryz.underlying4
  a4 := Tryz.isAgg4
  z4 := Tryz.sizeOf4
  v4 := Tryz.zeroValue4
  t5 := Tryz.underlying5
  a5 := Tryz.isAgg5
  z5 := Tryz.sizeOf5
  v5 := Tryz.zeroValue5
  t9 := Tryz.underlying9
  a9 := Tryz.isAgg9
  z9 := Tryz.sizeOf9
  v9 := Tryz.zeroValue9
  t21 := Tryz.underlying21
  a21 := Tryz.isAgg21
  z21 := Tryz.sizeOf21
  v21 := Tryz.zeroValue21
  t46 := Tryz.underlying106
  a46 := Tryz.isAgg106
  z46 := Tryz.sizeOf106
  v46 := Tryz.zeroValue106
  t105 := Tryz.underlying147
  a105 := Tryz.isAgg147
  z105 := Tryz.sizeOf147
  v105 := Tryz.zeroValue147
  t116 := Tryz.underlying133
  a116 := Tryz.isAgg133
  z116 := Tryz.sizeOf133
  t117 := Tryz.underlying134
  a117 := Tryz.isAgg134
  z117 := Tryz.sizeOf134
  v117 := Tryz.zeroValue134
  t119 := Tryz.underlying162
  a119 := Tryz.isAgg162
  z119 := Tryz.sizeOf162
  t124 := Tryz.underlying137
  a124 := Tryz.isAgg137
  z124 := Tryz.sizeOf137
  v124 := Tryz.zeroValue137
  t138 := Tryz.underlying164
  a138 := Tryz.isAgg164
  z138 := Tryz.sizeOf164
  v138 := Tryz.zeroValue164
  t139 := Tryz.underlying165
  a139 := Tryz.isAgg165
  z139 := Tryz.sizeOf165
  v139 := Tryz.zeroValue165
  g3 := by kernel_rfl
  g4 := by kernel_rfl }
def Tryz.compL_ren : Go.Shelf.Ren := ⟨fun | 106 => 103 | 213 => 110 | 265 => 116 | n => n, fun | 9 => 9 | 3 => 3 | n => n, fun | n => n⟩
theorem Tryz.compL : Go.Proofs.Lays.n106 Tryz.prog Tryz.compL_ren := {
  mixed := by kernel_rfl
  f106 := Tryz.func103.trans (congrArg some (by kernel_rfl))
  f213 := Tryz.func110.trans (congrArg some (by kernel_rfl))
  f265 := Tryz.func116.trans (congrArg some (by kernel_rfl))
  t3 := Tryz.underlying3
  a3 := Tryz.isAgg3
  z3 := Tryz.sizeOf3
  v3 := Tryz.zeroValue3
  t9 := Tryz.underlying9
  a9 := Tryz.isAgg9
  z9 := Tryz.sizeOf9
  v9 := Tryz.zeroValue9 }
end Go.Proofs
