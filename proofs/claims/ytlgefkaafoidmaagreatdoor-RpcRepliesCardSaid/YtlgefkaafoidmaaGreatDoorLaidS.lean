/-
  DERIVED: THE SHELF's CONTRACTS AT THIS DUMP, IN PLAIN WORDS (tools/lay-plain.mjs out of 'LaidSrc.lean', which tools/lay-shelf.mjs wrote): THE SAME DECLARATIONS UNDER THE SAME NAMES: 'import', 'namespace', 'open', 'def', 'theorem' AND NOTHING ELSE: no command of the shelf's: FOR A HAND-IN. Each laying: the table of numbers ('.._ren') and one theorem, a field a fact of the dump's own or the kernel's comparison; each contract: ONE APPLICATION.
-/
import Derived.Ground.NamesProg
import Derived.Shelf.Strings.SlTrimAscii
import Derived.Shelf.Small.Strs
import Derived.Test.YtlgefkaafoidmaaGreatDoorProg
namespace Go.Proofs
open Go.Shelf
def Tryz.trimL_ren : Go.Shelf.Ren := ⟨fun | 160 => 96 | 232 => 98 | 231 => 97 | 227 => 99 | 234 => 101 | 233 => 100 | 236 => 103 | 235 => 102 | 228 => 104 | 271 => 107 | 151 => 106 | 197 => 105 | 120 => 110 | 152 => 109 | 260 => 108 | 137 => 111 | 119 => 112 | 224 => 113 | 225 => 114 | 217 => 115 | 266 => 116 | n => n, fun | 9 => 9 | 4 => 4 | 3 => 3 | 5 => 5 | 117 => 134 | 116 => 133 | 0 => 0 | 124 => 137 | 21 => 21 | 105 => 139 | 46 => 106 | 119 => 143 | 139 => 146 | 138 => 145 | n => n, fun | 3 => 1 | 4 => 2 | n => n⟩
theorem Tryz.trimL : Go.Proofs.Lays.n160 Tryz.prog Tryz.trimL_ren := {
  mixed := by kernel_rfl
  f119 := Tryz.func112.trans (congrArg some (by kernel_rfl))
  f120 := Tryz.func110.trans (congrArg some (by kernel_rfl))
  f137 := Tryz.func111.trans (congrArg some (by kernel_rfl))
  f151 := Tryz.func106.trans (congrArg some (by kernel_rfl))
  f152 := Tryz.func109.trans (congrArg some (by kernel_rfl))
  f160 := Tryz.func96.trans (congrArg some (by kernel_rfl))
  f197 := Tryz.func105.trans (congrArg some (by kernel_rfl))
  f217 := Tryz.func115.trans (congrArg some (by kernel_rfl))
  f224 := Tryz.func113.trans (congrArg some (by kernel_rfl))
  f225 := Tryz.func114.trans (congrArg some (by kernel_rfl))
  f227 := Tryz.func99.trans (congrArg some (by kernel_rfl))
  f228 := Tryz.func104.trans (congrArg some (by kernel_rfl))
  f231 := Tryz.func97.trans (congrArg some (by kernel_rfl))
  f232 := Tryz.func98.trans (congrArg some (by kernel_rfl))
  f233 := Tryz.func100.trans (congrArg some (by kernel_rfl))
  f234 := Tryz.func101.trans (congrArg some (by kernel_rfl))
  f235 := Tryz.func102.trans (congrArg some (by kernel_rfl))
  f236 := Tryz.func103.trans (congrArg some (by kernel_rfl))
  f260 := Tryz.func108.trans (congrArg some (by kernel_rfl))
  f266 := Tryz.func116.trans (congrArg some (by kernel_rfl))
  f271 := Tryz.func107.trans (congrArg some (by kernel_rfl))
  t0 := Tryz.underlying0
  a0 := Tryz.isAgg0
  z0 := Tryz.sizeOf0
  v0 := Tryz.zeroValue0
  t3 := Tryz.underlying3
  a3 := Tryz.isAgg3
  z3 := Tryz.sizeOf3
  v3 := Tryz.zeroValue3
  t4 := Tryz.underlying4
  a4 := Tryz.isAgg4
  z4 := Tryz.sizeOf4
  v4 := Tryz.zeroValue4
  t5 := Tryz.underlying5
  a5 := Tryz.isAgg5
  z5 := Tryz.sizeOf5
  v5 := Tryz.zeroValue5
  t9 := Tryz.underlying9
  a9 := Tryz.isAgg9
  z9 := Tryz.sizeOf9
  v9 := Tryz.zeroValue9
  t21 := Tryz.underlying21
  a21 := Tryz.isAgg21
  z21 := Tryz.sizeOf21
  v21 := Tryz.zeroValue21
  t46 := Tryz.underlying106
  a46 := Tryz.isAgg106
  z46 := Tryz.sizeOf106
  v46 := Tryz.zeroValue106
  t105 := Tryz.underlying139
  a105 := Tryz.isAgg139
  z105 := Tryz.sizeOf139
  v105 := Tryz.zeroValue139
  t116 := Tryz.underlying133
  a116 := Tryz.isAgg133
  z116 := Tryz.sizeOf133
  t117 := Tryz.underlying134
  a117 := Tryz.isAgg134
  z117 := Tryz.sizeOf134
  v117 := Tryz.zeroValue134
  t119 := Tryz.underlying143
  a119 := Tryz.isAgg143
  z119 := Tryz.sizeOf143
  t124 := Tryz.underlying137
  a124 := Tryz.isAgg137
  z124 := Tryz.sizeOf137
  v124 := Tryz.zeroValue137
  t138 := Tryz.underlying145
  a138 := Tryz.isAgg145
  z138 := Tryz.sizeOf145
  v138 := Tryz.zeroValue145
  t139 := Tryz.underlying146
  a139 := Tryz.isAgg146
  z139 := Tryz.sizeOf146
  v139 := Tryz.zeroValue146
  g3 := by kernel_rfl
  g4 := by kernel_rfl }
end Go.Proofs
