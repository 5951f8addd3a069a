/- Clock: the shelf's contract of slices.SortFunc at edges, laid at this program (printed by lay-plain.mjs, then named). No condition. -/
import Derived.Shelf.SlGeneric
import Derived.Shelf.SlSortCmp.WholeK
import Derived.Ground.SlsfProg
import Derived.Test.YtkgodolhcoeaeaaProg
namespace Go.Proofs
open Go.Shelf
def Try.sortE_ren : Go.Shelf.Ren := ⟨fun | 6 => 56 | 15 => 60 | 14 => 59 | 28 => 70 | 29 => 55 | 20 => 62 | 21 => 63 | 22 => 64 | 23 => 65 | 24 => 66 | 25 => 67 | 26 => 68 | 27 => 69 | 46 => 72 | 47 => 73 | 48 => 74 | 49 => 75 | 50 => 76 | 57 => 77 | n => n, fun | 22 => 88 | 24 => 94 | 25 => 96 | 3 => 3 | 39 => 78 | 0 => 0 | 53 => 111 | 55 => 68 | 4 => 4 | 46 => 104 | 45 => 103 | 50 => 108 | 5 => 5 | 9 => 9 | 66 => 112 | 70 => 115 | 76 => 117 | 77 => 118 | n => n, fun | n => n⟩
theorem Try.sortE : Go.Proofs.SlLaysF0.n6 Try.prog Try.sortE_ren := {
  mixed := by kernel_rfl
  f6 := ⟨Try.f56.name, by decide, Try.func56.trans (congrArg some (by kernel_rfl))⟩
  f14 := ⟨Try.f59.name, by decide, Try.func59.trans (congrArg some (by kernel_rfl))⟩
  f15 := Try.func60.trans (congrArg some (by kernel_rfl))
  f20 := ⟨Try.f62.name, by decide, Try.func62.trans (congrArg some (by kernel_rfl))⟩
  f21 := ⟨Try.f63.name, by decide, Try.func63.trans (congrArg some (by kernel_rfl))⟩
  f22 := ⟨Try.f64.name, by decide, Try.func64.trans (congrArg some (by kernel_rfl))⟩
  f23 := ⟨Try.f65.name, by decide, Try.func65.trans (congrArg some (by kernel_rfl))⟩
  f24 := ⟨Try.f66.name, by decide, Try.func66.trans (congrArg some (by kernel_rfl))⟩
  f25 := ⟨Try.f67.name, by decide, Try.func67.trans (congrArg some (by kernel_rfl))⟩
  f26 := ⟨Try.f68.name, by decide, Try.func68.trans (congrArg some (by kernel_rfl))⟩
  f27 := ⟨Try.f69.name, by decide, Try.func69.trans (congrArg some (by kernel_rfl))⟩
  f28 := Try.func70.trans (congrArg some (by kernel_rfl))
  f29 := Try.func55.trans (congrArg some (by kernel_rfl))
  f46 := ⟨Try.f72.name, by decide, Try.func72.trans (congrArg some (by kernel_rfl))⟩
  f47 := Try.func73.trans (congrArg some (by kernel_rfl))
  f48 := Try.func74.trans (congrArg some (by kernel_rfl))
  f49 := ⟨Try.f75.name, by decide, Try.func75.trans (congrArg some (by kernel_rfl))⟩
  f50 := ⟨Try.f76.name, by decide, Try.func76.trans (congrArg some (by kernel_rfl))⟩
  f57 := ⟨Try.f77.name, by decide, Try.func77.trans (congrArg some (by kernel_rfl))⟩
  t0 := Try.underlying0
  a0 := Try.isAgg0
  z0 := Try.sizeOf0
  v0 := Try.zeroValue0
  t3 := Try.underlying3
  a3 := Try.isAgg3
  z3 := Try.sizeOf3
  v3 := Try.zeroValue3
  t4 := Try.underlying4
  a4 := Try.isAgg4
  z4 := Try.sizeOf4
  v4 := Try.zeroValue4
  t5 := Try.underlying5
  a5 := Try.isAgg5
  z5 := Try.sizeOf5
  v5 := Try.zeroValue5
  t9 := Try.underlying9
  a9 := Try.isAgg9
  z9 := Try.sizeOf9
  v9 := Try.zeroValue9
  t22 := Try.underlying88
  a22 := Try.isAgg88
  z22 := Try.sizeOf88
  v22 := Try.zeroValue88
  t25 := Try.underlying96
  a25 := Try.isAgg96
  z25 := Try.sizeOf96
  v25 := Try.zeroValue96
  t39 := Try.underlying78
  a39 := Try.isAgg78
  z39 := Try.sizeOf78
  v39 := Try.zeroValue78
  t45 := Try.underlying103
  a45 := Try.isAgg103
  z45 := Try.sizeOf103
  v45 := Try.zeroValue103
  t46 := Try.underlying104
  a46 := Try.isAgg104
  z46 := Try.sizeOf104
  v46 := Try.zeroValue104
  t50 := Try.underlying108
  a50 := Try.isAgg108
  z50 := Try.sizeOf108
  v50 := Try.zeroValue108
  t53 := Try.underlying111
  a53 := Try.isAgg111
  z53 := Try.sizeOf111
  v53 := Try.zeroValue111
  t55 := Try.underlying68
  a55 := Try.isAgg68
  z55 := Try.sizeOf68
  v55 := Try.zeroValue68
  t66 := Try.underlying112
  a66 := Try.isAgg112
  z66 := Try.sizeOf112
  v66 := Try.zeroValue112
  t70 := Try.underlying115
  a70 := Try.isAgg115
  z70 := Try.sizeOf115
  v70 := Try.zeroValue115
  t76 := Try.underlying117
  a76 := Try.isAgg117
  z76 := Try.sizeOf117
  v76 := Try.zeroValue117
  t77 := Try.underlying118
  a77 := Try.isAgg118
  z77 := Try.sizeOf118
  v77 := Try.zeroValue118 }
end Go.Proofs
