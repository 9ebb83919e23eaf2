import Derived.Shelf.SlSortCmp.NoneTotal
import Derived.Ground.SlsfProg
import Derived.Test.YtoljgjdloegnoaaProg
set_option linter.unusedVariables false
set_option linter.unusedSimpArgs false
set_option linter.unnecessarySimpa false
namespace Go.Proofs
open Go.Shelf
def Try.sortS_ren : Go.Shelf.Ren := ⟨fun | 6 => 36 | 15 => 44 | 14 => 43 | 28 => 56 | 29 => 57 | 20 => 48 | 21 => 49 | 22 => 50 | 23 => 51 | 24 => 52 | 25 => 53 | 26 => 54 | 27 => 55 | 46 => 59 | 47 => 60 | 48 => 61 | 49 => 62 | 50 => 63 | 57 => 64 | n => n, fun | 22 => 34 | 24 => 30 | 25 => 65 | 3 => 3 | 39 => 73 | 0 => 0 | 53 => 83 | 55 => 39 | 4 => 4 | 46 => 77 | 45 => 76 | 50 => 66 | 5 => 5 | 9 => 9 | 66 => 85 | 70 => 89 | 76 => 91 | 77 => 92 | n => n, fun | n => n⟩
theorem Try.sortS : Go.Proofs.SlLaysF0.n6 Try.prog Try.sortS_ren := {
 mixed := by kernel_rfl
 f6 := ⟨Try.f36.name, by decide, Try.func36.trans (congrArg some (by kernel_rfl))⟩
 f14 := ⟨Try.f43.name, by decide, Try.func43.trans (congrArg some (by kernel_rfl))⟩
 f15 := Try.func44.trans (congrArg some (by kernel_rfl))
 f20 := ⟨Try.f48.name, by decide, Try.func48.trans (congrArg some (by kernel_rfl))⟩
 f21 := ⟨Try.f49.name, by decide, Try.func49.trans (congrArg some (by kernel_rfl))⟩
 f22 := ⟨Try.f50.name, by decide, Try.func50.trans (congrArg some (by kernel_rfl))⟩
 f23 := ⟨Try.f51.name, by decide, Try.func51.trans (congrArg some (by kernel_rfl))⟩
 f24 := ⟨Try.f52.name, by decide, Try.func52.trans (congrArg some (by kernel_rfl))⟩
 f25 := ⟨Try.f53.name, by decide, Try.func53.trans (congrArg some (by kernel_rfl))⟩
 f26 := ⟨Try.f54.name, by decide, Try.func54.trans (congrArg some (by kernel_rfl))⟩
 f27 := ⟨Try.f55.name, by decide, Try.func55.trans (congrArg some (by kernel_rfl))⟩
 f28 := Try.func56.trans (congrArg some (by kernel_rfl))
 f29 := Try.func57.trans (congrArg some (by kernel_rfl))
 f46 := ⟨Try.f59.name, by decide, Try.func59.trans (congrArg some (by kernel_rfl))⟩
 f47 := Try.func60.trans (congrArg some (by kernel_rfl))
 f48 := Try.func61.trans (congrArg some (by kernel_rfl))
 f49 := ⟨Try.f62.name, by decide, Try.func62.trans (congrArg some (by kernel_rfl))⟩
 f50 := ⟨Try.f63.name, by decide, Try.func63.trans (congrArg some (by kernel_rfl))⟩
 f57 := ⟨Try.f64.name, by decide, Try.func64.trans (congrArg some (by kernel_rfl))⟩
 t0 := Try.underlying0
 a0 := Try.isAgg0
 z0 := Try.sizeOf0
 v0 := Try.zeroValue0
 t3 := Try.underlying3
 a3 := Try.isAgg3
 z3 := Try.sizeOf3
 v3 := Try.zeroValue3
 t4 := Try.underlying4
 a4 := Try.isAgg4
 z4 := Try.sizeOf4
 v4 := Try.zeroValue4
 t5 := Try.underlying5
 a5 := Try.isAgg5
 z5 := Try.sizeOf5
 v5 := Try.zeroValue5
 t9 := Try.underlying9
 a9 := Try.isAgg9
 z9 := Try.sizeOf9
 v9 := Try.zeroValue9
 t22 := Try.underlying34
 a22 := Try.isAgg34
 z22 := Try.sizeOf34
 v22 := Try.zeroValue34
 t25 := Try.underlying65
 a25 := Try.isAgg65
 z25 := Try.sizeOf65
 v25 := Try.zeroValue65
 t39 := Try.underlying73
 a39 := Try.isAgg73
 z39 := Try.sizeOf73
 v39 := Try.zeroValue73
 t45 := Try.underlying76
 a45 := Try.isAgg76
 z45 := Try.sizeOf76
 v45 := Try.zeroValue76
 t46 := Try.underlying77
 a46 := Try.isAgg77
 z46 := Try.sizeOf77
 v46 := Try.zeroValue77
 t50 := Try.underlying66
 a50 := Try.isAgg66
 z50 := Try.sizeOf66
 v50 := Try.zeroValue66
 t53 := Try.underlying83
 a53 := Try.isAgg83
 z53 := Try.sizeOf83
 v53 := Try.zeroValue83
 t55 := Try.underlying39
 a55 := Try.isAgg39
 z55 := Try.sizeOf39
 v55 := Try.zeroValue39
 t66 := Try.underlying85
 a66 := Try.isAgg85
 z66 := Try.sizeOf85
 v66 := Try.zeroValue85
 t70 := Try.underlying89
 a70 := Try.isAgg89
 z70 := Try.sizeOf89
 v70 := Try.zeroValue89
 t76 := Try.underlying91
 a76 := Try.isAgg91
 z76 := Try.sizeOf91
 v76 := Try.zeroValue91
 t77 := Try.underlying92
 a77 := Try.isAgg92
 z77 := Try.sizeOf92
 v77 := Try.zeroValue92 }
end Go.Proofs
