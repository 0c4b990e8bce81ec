/-
  DERIVED: THE SHELF's CONTRACTS AT THIS DUMP, IN PLAIN WORDS (tools/lay-plain.mjs out of 'YtidikciankcopaaDoorLaidSrc.lean', which tools/lay-shelf.mjs wrote): THE SAME DECLARATIONS UNDER THE SAME NAMES: 'import', 'namespace', 'open', 'def', 'theorem' AND NOTHING ELSE: no command of the shelf's: FOR A HAND-IN. Each laying: the table of numbers ('.._ren') and one theorem, a field a fact of the dump's own or the kernel's comparison; each contract: ONE APPLICATION.
-/
import Derived.Ground.NamesProg
import Derived.Shelf.Strings.SlTrimAscii
import Derived.Test.YtidikciankcopaaDoorProg
namespace Go.Proofs
open Go.Shelf
def Tryd.trimL_ren : Go.Shelf.Ren := ⟨fun | 160 => 70 | 232 => 72 | 231 => 71 | 227 => 73 | 234 => 75 | 233 => 74 | 236 => 77 | 235 => 76 | 228 => 78 | 271 => 81 | 151 => 80 | 197 => 79 | 120 => 84 | 152 => 83 | 260 => 82 | 137 => 85 | 119 => 86 | 224 => 87 | 225 => 88 | 217 => 89 | 266 => 90 | n => n, fun | 9 => 9 | 4 => 4 | 3 => 3 | 5 => 5 | 117 => 137 | 116 => 136 | 0 => 0 | 124 => 140 | 21 => 21 | 105 => 142 | 46 => 119 | 119 => 146 | 139 => 149 | 138 => 148 | n => n, fun | 3 => 1 | 4 => 2 | n => n⟩
theorem Tryd.trimL : Go.Proofs.Lays.n160 Tryd.prog Tryd.trimL_ren := {
  mixed := by kernel_rfl
  f119 := Tryd.func86.trans (congrArg some (by kernel_rfl))
  f120 := Tryd.func84.trans (congrArg some (by kernel_rfl))
  f137 := Tryd.func85.trans (congrArg some (by kernel_rfl))
  f151 := Tryd.func80.trans (congrArg some (by kernel_rfl))
  f152 := Tryd.func83.trans (congrArg some (by kernel_rfl))
  f160 := Tryd.func70.trans (congrArg some (by kernel_rfl))
  f197 := Tryd.func79.trans (congrArg some (by kernel_rfl))
  f217 := Tryd.func89.trans (congrArg some (by kernel_rfl))
  f224 := Tryd.func87.trans (congrArg some (by kernel_rfl))
  f225 := Tryd.func88.trans (congrArg some (by kernel_rfl))
  f227 := Tryd.func73.trans (congrArg some (by kernel_rfl))
  f228 := Tryd.func78.trans (congrArg some (by kernel_rfl))
  f231 := Tryd.func71.trans (congrArg some (by kernel_rfl))
  f232 := Tryd.func72.trans (congrArg some (by kernel_rfl))
  f233 := Tryd.func74.trans (congrArg some (by kernel_rfl))
  f234 := Tryd.func75.trans (congrArg some (by kernel_rfl))
  f235 := Tryd.func76.trans (congrArg some (by kernel_rfl))
  f236 := Tryd.func77.trans (congrArg some (by kernel_rfl))
  f260 := Tryd.func82.trans (congrArg some (by kernel_rfl))
  f266 := Tryd.func90.trans (congrArg some (by kernel_rfl))
  f271 := Tryd.func81.trans (congrArg some (by kernel_rfl))
  t0 := Tryd.underlying0
  a0 := Tryd.isAgg0
  z0 := Tryd.sizeOf0
  v0 := Tryd.zeroValue0
  t3 := Tryd.underlying3
  a3 := Tryd.isAgg3
  z3 := Tryd.sizeOf3
  v3 := Tryd.zeroValue3
  t4 := Tryd.underlying4
  a4 := Tryd.isAgg4
  z4 := Tryd.sizeOf4
  v4 := Tryd.zeroValue4
  t5 := Tryd.underlying5
  a5 := Tryd.isAgg5
  z5 := Tryd.sizeOf5
  v5 := Tryd.zeroValue5
  t9 := Tryd.underlying9
  a9 := Tryd.isAgg9
  z9 := Tryd.sizeOf9
  v9 := Tryd.zeroValue9
  t21 := Tryd.underlying21
  a21 := Tryd.isAgg21
  z21 := Tryd.sizeOf21
  v21 := Tryd.zeroValue21
  t46 := Tryd.underlying119
  a46 := Tryd.isAgg119
  z46 := Tryd.sizeOf119
  v46 := Tryd.zeroValue119
  t105 := Tryd.underlying142
  a105 := Tryd.isAgg142
  z105 := Tryd.sizeOf142
  v105 := Tryd.zeroValue142
  t116 := Tryd.underlying136
  a116 := Tryd.isAgg136
  z116 := Tryd.sizeOf136
  t117 := Tryd.underlying137
  a117 := Tryd.isAgg137
  z117 := Tryd.sizeOf137
  v117 := Tryd.zeroValue137
  t119 := Tryd.underlying146
  a119 := Tryd.isAgg146
  z119 := Tryd.sizeOf146
  t124 := Tryd.underlying140
  a124 := Tryd.isAgg140
  z124 := Tryd.sizeOf140
  v124 := Tryd.zeroValue140
  t138 := Tryd.underlying148
  a138 := Tryd.isAgg148
  z138 := Tryd.sizeOf148
  v138 := Tryd.zeroValue148
  t139 := Tryd.underlying149
  a139 := Tryd.isAgg149
  z139 := Tryd.sizeOf149
  v139 := Tryd.zeroValue149
  g3 := by kernel_rfl
  g4 := by kernel_rfl }
end Go.Proofs
