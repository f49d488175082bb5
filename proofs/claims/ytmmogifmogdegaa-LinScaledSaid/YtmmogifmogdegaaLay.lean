/-
  LAYINGS of library functions at this dump, in plain words (printed by the kit's own commands).
-/
import Derived.Shelf.SlSortCmp.WholeK
import Derived.Shelf.SlicesG.Cmp
import Derived.Test.YtmmogifmogdegaaRows
namespace Go.Proofs.Ytmmogifmogdegaa
open Go.Shelf
def Try.sortRg_ren : Go.Shelf.Ren := ⟨fun | 6 => 39 | 15 => 48 | 14 => 47 | 28 => 67 | 29 => 68 | 20 => 59 | 21 => 60 | 22 => 61 | 23 => 62 | 24 => 63 | 25 => 64 | 26 => 65 | 27 => 66 | 46 => 69 | 47 => 70 | 48 => 71 | 49 => 72 | 50 => 73 | 57 => 74 | n => n, fun | 22 => 29 | 24 => 60 | 25 => 72 | 3 => 3 | 39 => 80 | 0 => 0 | 53 => 91 | 55 => 93 | 4 => 4 | 46 => 85 | 45 => 84 | 50 => 43 | 5 => 5 | 9 => 9 | 66 => 94 | 70 => 98 | 76 => 100 | 77 => 75 | n => n, fun | n => n⟩
theorem Try.sortRg : Go.Proofs.SlLaysF0.n6 Try.prog Try.sortRg_ren := {
  mixed := by kernel_rfl
  f6 := ⟨Try.f39.name, by decide, Try.func39.trans (congrArg some (by kernel_rfl))⟩
  f14 := ⟨Try.f47.name, by decide, Try.func47.trans (congrArg some (by kernel_rfl))⟩
  f15 := Try.func48.trans (congrArg some (by kernel_rfl))
  f20 := ⟨Try.f59.name, by decide, Try.func59.trans (congrArg some (by kernel_rfl))⟩
  f21 := ⟨Try.f60.name, by decide, Try.func60.trans (congrArg some (by kernel_rfl))⟩
  f22 := ⟨Try.f61.name, by decide, Try.func61.trans (congrArg some (by kernel_rfl))⟩
  f23 := ⟨Try.f62.name, by decide, Try.func62.trans (congrArg some (by kernel_rfl))⟩
  f24 := ⟨Try.f63.name, by decide, Try.func63.trans (congrArg some (by kernel_rfl))⟩
  f25 := ⟨Try.f64.name, by decide, Try.func64.trans (congrArg some (by kernel_rfl))⟩
  f26 := ⟨Try.f65.name, by decide, Try.func65.trans (congrArg some (by kernel_rfl))⟩
  f27 := ⟨Try.f66.name, by decide, Try.func66.trans (congrArg some (by kernel_rfl))⟩
  f28 := Try.func67.trans (congrArg some (by kernel_rfl))
  f29 := Try.func68.trans (congrArg some (by kernel_rfl))
  f46 := ⟨Try.f69.name, by decide, Try.func69.trans (congrArg some (by kernel_rfl))⟩
  f47 := Try.func70.trans (congrArg some (by kernel_rfl))
  f48 := Try.func71.trans (congrArg some (by kernel_rfl))
  f49 := ⟨Try.f72.name, by decide, Try.func72.trans (congrArg some (by kernel_rfl))⟩
  f50 := ⟨Try.f73.name, by decide, Try.func73.trans (congrArg some (by kernel_rfl))⟩
  f57 := ⟨Try.f74.name, by decide, Try.func74.trans (congrArg some (by kernel_rfl))⟩
  t0 := Try.underlying0
  a0 := Try.isAgg0
  z0 := Try.sizeOf0
  v0 := Try.zeroValue0
  t3 := Try.underlying3
  a3 := Try.isAgg3
  z3 := Try.sizeOf3
  v3 := Try.zeroValue3
  t4 := Try.underlying4
  a4 := Try.isAgg4
  z4 := Try.sizeOf4
  v4 := Try.zeroValue4
  t5 := Try.underlying5
  a5 := Try.isAgg5
  z5 := Try.sizeOf5
  v5 := Try.zeroValue5
  t9 := Try.underlying9
  a9 := Try.isAgg9
  z9 := Try.sizeOf9
  v9 := Try.zeroValue9
  t22 := Try.underlying29
  a22 := Try.isAgg29
  z22 := Try.sizeOf29
  v22 := Try.zeroValue29
  t25 := Try.underlying72
  a25 := Try.isAgg72
  z25 := Try.sizeOf72
  v25 := Try.zeroValue72
  t39 := Try.underlying80
  a39 := Try.isAgg80
  z39 := Try.sizeOf80
  v39 := Try.zeroValue80
  t45 := Try.underlying84
  a45 := Try.isAgg84
  z45 := Try.sizeOf84
  v45 := Try.zeroValue84
  t46 := Try.underlying85
  a46 := Try.isAgg85
  z46 := Try.sizeOf85
  v46 := Try.zeroValue85
  t50 := Try.underlying43
  a50 := Try.isAgg43
  z50 := Try.sizeOf43
  v50 := Try.zeroValue43
  t53 := Try.underlying91
  a53 := Try.isAgg91
  z53 := Try.sizeOf91
  v53 := Try.zeroValue91
  t55 := Try.underlying93
  a55 := Try.isAgg93
  z55 := Try.sizeOf93
  v55 := Try.zeroValue93
  t66 := Try.underlying94
  a66 := Try.isAgg94
  z66 := Try.sizeOf94
  v66 := Try.zeroValue94
  t70 := Try.underlying98
  a70 := Try.isAgg98
  z70 := Try.sizeOf98
  v70 := Try.zeroValue98
  t76 := Try.underlying100
  a76 := Try.isAgg100
  z76 := Try.sizeOf100
  v76 := Try.zeroValue100
  t77 := Try.underlying75
  a77 := Try.isAgg75
  z77 := Try.sizeOf75
  v77 := Try.zeroValue75 }
def Try.cmpInt_ren : Go.Shelf.Ren := ⟨fun | 5 => 41 | 7 => 49 | n => n, fun | 22 => 3 | 3 => 3 | 4 => 4 | n => n, fun | n => n⟩
theorem Try.cmpInt : Go.Proofs.SlLaysC2.n5 Try.prog Try.cmpInt_ren := {
  mixed := by kernel_rfl
  f5 := ⟨Try.f41.name, by decide, Try.func41.trans (congrArg some (by kernel_rfl))⟩
  f7 := ⟨Try.f49.name, by decide, Try.func49.trans (congrArg some (by kernel_rfl))⟩
  t3 := Try.underlying3
  a3 := Try.isAgg3
  z3 := Try.sizeOf3
  v3 := Try.zeroValue3
  t4 := Try.underlying4
  a4 := Try.isAgg4
  z4 := Try.sizeOf4
  v4 := Try.zeroValue4
  t22 := Try.underlying3
  a22 := Try.isAgg3
  z22 := Try.sizeOf3
  v22 := Try.zeroValue3 }

end Go.Proofs.Ytmmogifmogdegaa
