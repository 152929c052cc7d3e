/- slices.SortFunc and slices.Compact at []string off the shelf, laid plainly. -/
import Derived.Test.YtialmfbjkegjoaaProg
import Derived.Shelf.SlSortCmp.NoneTotal
import Derived.Shelf.Slices.CompactS
import Derived.Shelf.Spec.SlicesGrow
set_option linter.unusedVariables false
set_option linter.unusedSimpArgs false
namespace Go.Proofs
open Go.Shelf Go.RowKit
def Try.laysSort_ren : Go.Shelf.Ren := ⟨fun | 6 => 94 | 15 => 115 | 14 => 114 | 28 => 138 | 29 => 139 | 20 => 130 | 21 => 131 | 22 => 132 | 23 => 133 | 24 => 134 | 25 => 135 | 26 => 136 | 27 => 137 | 46 => 146 | 47 => 147 | 48 => 148 | 49 => 149 | 50 => 150 | 57 => 152 | n => n, fun | 22 => 45 | 24 => 9 | 25 => 138 | 3 => 3 | 39 => 162 | 0 => 0 | 53 => 198 | 55 => 73 | 4 => 4 | 46 => 192 | 45 => 191 | 50 => 92 | 5 => 5 | 9 => 9 | 66 => 203 | 70 => 207 | 76 => 209 | 77 => 210 | n => n, fun | n => n⟩
theorem Try.laysSort : Go.Proofs.SlLaysF.n6 Try.prog Try.laysSort_ren := {
  mixed := by kernel_rfl
  f6 := ⟨Try.f94.name, by decide, Try.func94.trans (congrArg some (by kernel_rfl))⟩
  f14 := ⟨Try.f114.name, by decide, Try.func114.trans (congrArg some (by kernel_rfl))⟩
  f15 := Try.func115.trans (congrArg some (by kernel_rfl))
  f20 := ⟨Try.f130.name, by decide, Try.func130.trans (congrArg some (by kernel_rfl))⟩
  f21 := ⟨Try.f131.name, by decide, Try.func131.trans (congrArg some (by kernel_rfl))⟩
  f22 := ⟨Try.f132.name, by decide, Try.func132.trans (congrArg some (by kernel_rfl))⟩
  f23 := ⟨Try.f133.name, by decide, Try.func133.trans (congrArg some (by kernel_rfl))⟩
  f24 := ⟨Try.f134.name, by decide, Try.func134.trans (congrArg some (by kernel_rfl))⟩
  f25 := ⟨Try.f135.name, by decide, Try.func135.trans (congrArg some (by kernel_rfl))⟩
  f26 := ⟨Try.f136.name, by decide, Try.func136.trans (congrArg some (by kernel_rfl))⟩
  f27 := ⟨Try.f137.name, by decide, Try.func137.trans (congrArg some (by kernel_rfl))⟩
  f28 := Try.func138.trans (congrArg some (by kernel_rfl))
  f29 := Try.func139.trans (congrArg some (by kernel_rfl))
  f46 := ⟨Try.f146.name, by decide, Try.func146.trans (congrArg some (by kernel_rfl))⟩
  f47 := Try.func147.trans (congrArg some (by kernel_rfl))
  f48 := Try.func148.trans (congrArg some (by kernel_rfl))
  f49 := ⟨Try.f149.name, by decide, Try.func149.trans (congrArg some (by kernel_rfl))⟩
  f50 := ⟨Try.f150.name, by decide, Try.func150.trans (congrArg some (by kernel_rfl))⟩
  f57 := ⟨Try.f152.name, by decide, Try.func152.trans (congrArg some (by kernel_rfl))⟩
  t0 := Try.underlying0
  a0 := Try.isAgg0
  z0 := Try.sizeOf0
  v0 := Try.zeroValue0
  t3 := Try.underlying3
  a3 := Try.isAgg3
  z3 := Try.sizeOf3
  v3 := Try.zeroValue3
  t4 := Try.underlying4
  a4 := Try.isAgg4
  z4 := Try.sizeOf4
  v4 := Try.zeroValue4
  t5 := Try.underlying5
  a5 := Try.isAgg5
  z5 := Try.sizeOf5
  v5 := Try.zeroValue5
  t9 := Try.underlying9
  a9 := Try.isAgg9
  z9 := Try.sizeOf9
  v9 := Try.zeroValue9
  t22 := Try.underlying45
  a22 := Try.isAgg45
  z22 := Try.sizeOf45
  v22 := Try.zeroValue45
  a24 := Try.isAgg9
  z24 := Try.sizeOf9
  t25 := Try.underlying138
  a25 := Try.isAgg138
  z25 := Try.sizeOf138
  v25 := Try.zeroValue138
  t39 := Try.underlying162
  a39 := Try.isAgg162
  z39 := Try.sizeOf162
  v39 := Try.zeroValue162
  t45 := Try.underlying191
  a45 := Try.isAgg191
  z45 := Try.sizeOf191
  v45 := Try.zeroValue191
  t46 := Try.underlying192
  a46 := Try.isAgg192
  z46 := Try.sizeOf192
  v46 := Try.zeroValue192
  t50 := Try.underlying92
  a50 := Try.isAgg92
  z50 := Try.sizeOf92
  v50 := Try.zeroValue92
  t53 := Try.underlying198
  a53 := Try.isAgg198
  z53 := Try.sizeOf198
  v53 := Try.zeroValue198
  t55 := Try.underlying73
  a55 := Try.isAgg73
  z55 := Try.sizeOf73
  v55 := Try.zeroValue73
  t66 := Try.underlying203
  a66 := Try.isAgg203
  z66 := Try.sizeOf203
  v66 := Try.zeroValue203
  t70 := Try.underlying207
  a70 := Try.isAgg207
  z70 := Try.sizeOf207
  v70 := Try.zeroValue207
  t76 := Try.underlying209
  a76 := Try.isAgg209
  z76 := Try.sizeOf209
  v76 := Try.zeroValue209
  t77 := Try.underlying210
  a77 := Try.isAgg210
  z77 := Try.sizeOf210
  v77 := Try.zeroValue210 }

def Try.laysCompact_ren : Go.Shelf.Ren := ⟨fun | 194 => 95 | n => n, fun | 0 => 0 | 3 => 3 | 4 => 4 | 9 => 9 | 31 => 45 | n => n, fun | n => n⟩
theorem Try.laysCompact : Go.Proofs.Lays.n194 Try.prog Try.laysCompact_ren := {
  mixed := by kernel_rfl
  f194 := Try.func95.trans (congrArg some (by kernel_rfl))
  t0 := Try.underlying0
  a0 := Try.isAgg0
  z0 := Try.sizeOf0
  v0 := Try.zeroValue0
  t3 := Try.underlying3
  a3 := Try.isAgg3
  z3 := Try.sizeOf3
  v3 := Try.zeroValue3
  t4 := Try.underlying4
  a4 := Try.isAgg4
  z4 := Try.sizeOf4
  v4 := Try.zeroValue4
  t9 := Try.underlying9
  a9 := Try.isAgg9
  z9 := Try.sizeOf9
  v9 := Try.zeroValue9
  t31 := Try.underlying45
  a31 := Try.isAgg45
  z31 := Try.sizeOf45
  v31 := Try.zeroValue45 }
def Try.laysGrow_ren : Go.Shelf.Ren := ⟨fun | 4 => 113 | n => n, fun | 22 => 45 | 25 => 9 | 3 => 3 | 4 => 4 | 9 => 9 | 20 => 20 | 0 => 0 | n => n, fun | n => n⟩
theorem Try.laysGrow : Go.Proofs.Lays8.n4 Try.prog Try.laysGrow_ren := {
  mixed := by kernel_rfl
  f4 := ⟨Try.f113.name, by decide, Try.func113.trans (congrArg some (by kernel_rfl))⟩
  t0 := Try.underlying0
  a0 := Try.isAgg0
  z0 := Try.sizeOf0
  v0 := Try.zeroValue0
  t3 := Try.underlying3
  a3 := Try.isAgg3
  z3 := Try.sizeOf3
  v3 := Try.zeroValue3
  t4 := Try.underlying4
  a4 := Try.isAgg4
  z4 := Try.sizeOf4
  v4 := Try.zeroValue4
  t9 := Try.underlying9
  a9 := Try.isAgg9
  z9 := Try.sizeOf9
  v9 := Try.zeroValue9
  t20 := Try.underlying20
  a20 := Try.isAgg20
  z20 := Try.sizeOf20
  v20 := Try.zeroValue20
  t22 := Try.underlying45
  a22 := Try.isAgg45
  z22 := Try.sizeOf45
  v22 := Try.zeroValue45 }

end Go.Proofs
