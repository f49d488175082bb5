/-
  LAYINGS of library functions at this dump, in plain words (printed by the kit's own commands).
-/
import Derived.Shelf.SlSortCmp.WholeK
import Derived.Shelf.SlicesG.Cmp
import Derived.Test.YtkhiogcdamjocaaRows
namespace Go.Proofs.Ytkhiogcdamjocaa
open Go.Shelf
def Try.sortRg_ren : Go.Shelf.Ren := ⟨fun | 6 => 65 | 15 => 69 | 14 => 68 | 28 => 79 | 29 => 80 | 20 => 71 | 21 => 72 | 22 => 73 | 23 => 74 | 24 => 75 | 25 => 76 | 26 => 77 | 27 => 78 | 46 => 81 | 47 => 82 | 48 => 83 | 49 => 84 | 50 => 85 | 57 => 86 | n => n, fun | 22 => 46 | 24 => 84 | 25 => 100 | 3 => 3 | 39 => 82 | 0 => 0 | 53 => 112 | 55 => 114 | 4 => 4 | 46 => 105 | 45 => 104 | 50 => 109 | 5 => 5 | 9 => 9 | 66 => 115 | 70 => 119 | 76 => 121 | 77 => 122 | n => n, fun | n => n⟩
theorem Try.sortRg : Go.Proofs.SlLaysF0.n6 Try.prog Try.sortRg_ren := {
  mixed := by kernel_rfl
  f6 := ⟨Try.f65.name, by decide, Try.func65.trans (congrArg some (by kernel_rfl))⟩
  f14 := ⟨Try.f68.name, by decide, Try.func68.trans (congrArg some (by kernel_rfl))⟩
  f15 := Try.func69.trans (congrArg some (by kernel_rfl))
  f20 := ⟨Try.f71.name, by decide, Try.func71.trans (congrArg some (by kernel_rfl))⟩
  f21 := ⟨Try.f72.name, by decide, Try.func72.trans (congrArg some (by kernel_rfl))⟩
  f22 := ⟨Try.f73.name, by decide, Try.func73.trans (congrArg some (by kernel_rfl))⟩
  f23 := ⟨Try.f74.name, by decide, Try.func74.trans (congrArg some (by kernel_rfl))⟩
  f24 := ⟨Try.f75.name, by decide, Try.func75.trans (congrArg some (by kernel_rfl))⟩
  f25 := ⟨Try.f76.name, by decide, Try.func76.trans (congrArg some (by kernel_rfl))⟩
  f26 := ⟨Try.f77.name, by decide, Try.func77.trans (congrArg some (by kernel_rfl))⟩
  f27 := ⟨Try.f78.name, by decide, Try.func78.trans (congrArg some (by kernel_rfl))⟩
  f28 := Try.func79.trans (congrArg some (by kernel_rfl))
  f29 := Try.func80.trans (congrArg some (by kernel_rfl))
  f46 := ⟨Try.f81.name, by decide, Try.func81.trans (congrArg some (by kernel_rfl))⟩
  f47 := Try.func82.trans (congrArg some (by kernel_rfl))
  f48 := Try.func83.trans (congrArg some (by kernel_rfl))
  f49 := ⟨Try.f84.name, by decide, Try.func84.trans (congrArg some (by kernel_rfl))⟩
  f50 := ⟨Try.f85.name, by decide, Try.func85.trans (congrArg some (by kernel_rfl))⟩
  f57 := ⟨Try.f86.name, by decide, Try.func86.trans (congrArg some (by kernel_rfl))⟩
  t0 := Try.underlying0
  a0 := Try.isAgg0
  z0 := Try.sizeOf0
  v0 := Try.zeroValue0
  t3 := Try.underlying3
  a3 := Try.isAgg3
  z3 := Try.sizeOf3
  v3 := Try.zeroValue3
  t4 := Try.underlying4
  a4 := Try.isAgg4
  z4 := Try.sizeOf4
  v4 := Try.zeroValue4
  t5 := Try.underlying5
  a5 := Try.isAgg5
  z5 := Try.sizeOf5
  v5 := Try.zeroValue5
  t9 := Try.underlying9
  a9 := Try.isAgg9
  z9 := Try.sizeOf9
  v9 := Try.zeroValue9
  t22 := Try.underlying46
  a22 := Try.isAgg46
  z22 := Try.sizeOf46
  v22 := Try.zeroValue46
  t25 := Try.underlying100
  a25 := Try.isAgg100
  z25 := Try.sizeOf100
  v25 := Try.zeroValue100
  t39 := Try.underlying82
  a39 := Try.isAgg82
  z39 := Try.sizeOf82
  v39 := Try.zeroValue82
  t45 := Try.underlying104
  a45 := Try.isAgg104
  z45 := Try.sizeOf104
  v45 := Try.zeroValue104
  t46 := Try.underlying105
  a46 := Try.isAgg105
  z46 := Try.sizeOf105
  v46 := Try.zeroValue105
  t50 := Try.underlying109
  a50 := Try.isAgg109
  z50 := Try.sizeOf109
  v50 := Try.zeroValue109
  t53 := Try.underlying112
  a53 := Try.isAgg112
  z53 := Try.sizeOf112
  v53 := Try.zeroValue112
  t55 := Try.underlying114
  a55 := Try.isAgg114
  z55 := Try.sizeOf114
  v55 := Try.zeroValue114
  t66 := Try.underlying115
  a66 := Try.isAgg115
  z66 := Try.sizeOf115
  v66 := Try.zeroValue115
  t70 := Try.underlying119
  a70 := Try.isAgg119
  z70 := Try.sizeOf119
  v70 := Try.zeroValue119
  t76 := Try.underlying121
  a76 := Try.isAgg121
  z76 := Try.sizeOf121
  v76 := Try.zeroValue121
  t77 := Try.underlying122
  a77 := Try.isAgg122
  z77 := Try.sizeOf122
  v77 := Try.zeroValue122 }
def Try.cmpInt_ren : Go.Shelf.Ren := ⟨fun | 5 => 67 | 7 => 70 | n => n, fun | 22 => 3 | 3 => 3 | 4 => 4 | n => n, fun | n => n⟩
theorem Try.cmpInt : Go.Proofs.SlLaysC2.n5 Try.prog Try.cmpInt_ren := {
  mixed := by kernel_rfl
  f5 := ⟨Try.f67.name, by decide, Try.func67.trans (congrArg some (by kernel_rfl))⟩
  f7 := ⟨Try.f70.name, by decide, Try.func70.trans (congrArg some (by kernel_rfl))⟩
  t3 := Try.underlying3
  a3 := Try.isAgg3
  z3 := Try.sizeOf3
  v3 := Try.zeroValue3
  t4 := Try.underlying4
  a4 := Try.isAgg4
  z4 := Try.sizeOf4
  v4 := Try.zeroValue4
  t22 := Try.underlying3
  a22 := Try.isAgg3
  z22 := Try.sizeOf3
  v22 := Try.zeroValue3 }

end Go.Proofs.Ytkhiogcdamjocaa
