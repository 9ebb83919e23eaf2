import Derived.Shelf.SlSortCmp.NoneTotal
import Derived.Ground.SlsfProg
import Derived.Test.YtggchhmgeafoaaaProg
set_option linter.unusedVariables false
set_option linter.unusedSimpArgs false
set_option linter.unnecessarySimpa false
namespace Go.Proofs
open Go.Shelf
def Try.sortS_ren : Go.Shelf.Ren := ⟨fun | 6 => 35 | 15 => 45 | 14 => 44 | 28 => 64 | 29 => 65 | 20 => 56 | 21 => 57 | 22 => 58 | 23 => 59 | 24 => 60 | 25 => 61 | 26 => 62 | 27 => 63 | 46 => 69 | 47 => 70 | 48 => 71 | 49 => 72 | 50 => 73 | 57 => 75 | n => n, fun | 22 => 22 | 24 => 24 | 25 => 69 | 3 => 3 | 39 => 76 | 0 => 0 | 53 => 92 | 55 => 72 | 4 => 4 | 46 => 85 | 45 => 84 | 50 => 89 | 5 => 5 | 9 => 9 | 66 => 98 | 70 => 102 | 76 => 104 | 77 => 105 | n => n, fun | n => n⟩
theorem Try.sortS : Go.Proofs.SlLaysF0.n6 Try.prog Try.sortS_ren := {
 mixed := by kernel_rfl
 f6 := ⟨Try.f35.name, by decide, Try.func35.trans (congrArg some (by kernel_rfl))⟩
 f14 := ⟨Try.f44.name, by decide, Try.func44.trans (congrArg some (by kernel_rfl))⟩
 f15 := Try.func45.trans (congrArg some (by kernel_rfl))
 f20 := ⟨Try.f56.name, by decide, Try.func56.trans (congrArg some (by kernel_rfl))⟩
 f21 := ⟨Try.f57.name, by decide, Try.func57.trans (congrArg some (by kernel_rfl))⟩
 f22 := ⟨Try.f58.name, by decide, Try.func58.trans (congrArg some (by kernel_rfl))⟩
 f23 := ⟨Try.f59.name, by decide, Try.func59.trans (congrArg some (by kernel_rfl))⟩
 f24 := ⟨Try.f60.name, by decide, Try.func60.trans (congrArg some (by kernel_rfl))⟩
 f25 := ⟨Try.f61.name, by decide, Try.func61.trans (congrArg some (by kernel_rfl))⟩
 f26 := ⟨Try.f62.name, by decide, Try.func62.trans (congrArg some (by kernel_rfl))⟩
 f27 := ⟨Try.f63.name, by decide, Try.func63.trans (congrArg some (by kernel_rfl))⟩
 f28 := Try.func64.trans (congrArg some (by kernel_rfl))
 f29 := Try.func65.trans (congrArg some (by kernel_rfl))
 f46 := ⟨Try.f69.name, by decide, Try.func69.trans (congrArg some (by kernel_rfl))⟩
 f47 := Try.func70.trans (congrArg some (by kernel_rfl))
 f48 := Try.func71.trans (congrArg some (by kernel_rfl))
 f49 := ⟨Try.f72.name, by decide, Try.func72.trans (congrArg some (by kernel_rfl))⟩
 f50 := ⟨Try.f73.name, by decide, Try.func73.trans (congrArg some (by kernel_rfl))⟩
 f57 := ⟨Try.f75.name, by decide, Try.func75.trans (congrArg some (by kernel_rfl))⟩
 t0 := Try.underlying0
 a0 := Try.isAgg0
 z0 := Try.sizeOf0
 v0 := Try.zeroValue0
 t3 := Try.underlying3
 a3 := Try.isAgg3
 z3 := Try.sizeOf3
 v3 := Try.zeroValue3
 t4 := Try.underlying4
 a4 := Try.isAgg4
 z4 := Try.sizeOf4
 v4 := Try.zeroValue4
 t5 := Try.underlying5
 a5 := Try.isAgg5
 z5 := Try.sizeOf5
 v5 := Try.zeroValue5
 t9 := Try.underlying9
 a9 := Try.isAgg9
 z9 := Try.sizeOf9
 v9 := Try.zeroValue9
 t22 := Try.underlying22
 a22 := Try.isAgg22
 z22 := Try.sizeOf22
 v22 := Try.zeroValue22
 t25 := Try.underlying69
 a25 := Try.isAgg69
 z25 := Try.sizeOf69
 v25 := Try.zeroValue69
 t39 := Try.underlying76
 a39 := Try.isAgg76
 z39 := Try.sizeOf76
 v39 := Try.zeroValue76
 t45 := Try.underlying84
 a45 := Try.isAgg84
 z45 := Try.sizeOf84
 v45 := Try.zeroValue84
 t46 := Try.underlying85
 a46 := Try.isAgg85
 z46 := Try.sizeOf85
 v46 := Try.zeroValue85
 t50 := Try.underlying89
 a50 := Try.isAgg89
 z50 := Try.sizeOf89
 v50 := Try.zeroValue89
 t53 := Try.underlying92
 a53 := Try.isAgg92
 z53 := Try.sizeOf92
 v53 := Try.zeroValue92
 t55 := Try.underlying72
 a55 := Try.isAgg72
 z55 := Try.sizeOf72
 v55 := Try.zeroValue72
 t66 := Try.underlying98
 a66 := Try.isAgg98
 z66 := Try.sizeOf98
 v66 := Try.zeroValue98
 t70 := Try.underlying102
 a70 := Try.isAgg102
 z70 := Try.sizeOf102
 v70 := Try.zeroValue102
 t76 := Try.underlying104
 a76 := Try.isAgg104
 z76 := Try.sizeOf104
 v76 := Try.zeroValue104
 t77 := Try.underlying105
 a77 := Try.isAgg105
 z77 := Try.sizeOf105
 v77 := Try.zeroValue105 }
end Go.Proofs
