/- A part of what the law leans on: the abstract machine, the contracts, the rows. -/
import Derived.Shelf.SlGeneric
import Derived.Shelf.SlSortCmp.NoneTotal
import Derived.Ground.SlsfProg
import Derived.Test.YtdjanabcicdmlaaProg
-- laid by the kit's shelf_lay_g and lay-plain.mjs for this seat: slices.SortFunc at []api.Edge
namespace Go.Proofs
open Go.Shelf
def Try.sortEdges_ren : Go.Shelf.Ren := ⟨fun | 6 => 30 | 15 => 40 | 14 => 39 | 28 => 52 | 29 => 53 | 20 => 44 | 21 => 45 | 22 => 46 | 23 => 47 | 24 => 48 | 25 => 49 | 26 => 50 | 27 => 51 | 46 => 55 | 47 => 56 | 48 => 57 | 49 => 58 | 50 => 59 | 57 => 60 | n => n, fun | 22 => 22 | 24 => 39 | 25 => 47 | 3 => 3 | 39 => 57 | 0 => 0 | 53 => 70 | 55 => 72 | 4 => 4 | 46 => 63 | 45 => 62 | 50 => 67 | 5 => 5 | 9 => 9 | 66 => 73 | 70 => 77 | 76 => 79 | 77 => 80 | n => n, fun | n => n⟩
theorem Try.sortEdges : Go.Proofs.SlLaysF0.n6 Try.prog Try.sortEdges_ren := {
  mixed := by kernel_rfl
  f6 := ⟨Try.f30.name, by decide, Try.func30.trans (congrArg some (by kernel_rfl))⟩
  f14 := ⟨Try.f39.name, by decide, Try.func39.trans (congrArg some (by kernel_rfl))⟩
  f15 := Try.func40.trans (congrArg some (by kernel_rfl))
  f20 := ⟨Try.f44.name, by decide, Try.func44.trans (congrArg some (by kernel_rfl))⟩
  f21 := ⟨Try.f45.name, by decide, Try.func45.trans (congrArg some (by kernel_rfl))⟩
  f22 := ⟨Try.f46.name, by decide, Try.func46.trans (congrArg some (by kernel_rfl))⟩
  f23 := ⟨Try.f47.name, by decide, Try.func47.trans (congrArg some (by kernel_rfl))⟩
  f24 := ⟨Try.f48.name, by decide, Try.func48.trans (congrArg some (by kernel_rfl))⟩
  f25 := ⟨Try.f49.name, by decide, Try.func49.trans (congrArg some (by kernel_rfl))⟩
  f26 := ⟨Try.f50.name, by decide, Try.func50.trans (congrArg some (by kernel_rfl))⟩
  f27 := ⟨Try.f51.name, by decide, Try.func51.trans (congrArg some (by kernel_rfl))⟩
  f28 := Try.func52.trans (congrArg some (by kernel_rfl))
  f29 := Try.func53.trans (congrArg some (by kernel_rfl))
  f46 := ⟨Try.f55.name, by decide, Try.func55.trans (congrArg some (by kernel_rfl))⟩
  f47 := Try.func56.trans (congrArg some (by kernel_rfl))
  f48 := Try.func57.trans (congrArg some (by kernel_rfl))
  f49 := ⟨Try.f58.name, by decide, Try.func58.trans (congrArg some (by kernel_rfl))⟩
  f50 := ⟨Try.f59.name, by decide, Try.func59.trans (congrArg some (by kernel_rfl))⟩
  f57 := ⟨Try.f60.name, by decide, Try.func60.trans (congrArg some (by kernel_rfl))⟩
  t0 := Try.underlying0
  a0 := Try.isAgg0
  z0 := Try.sizeOf0
  v0 := Try.zeroValue0
  t3 := Try.underlying3
  a3 := Try.isAgg3
  z3 := Try.sizeOf3
  v3 := Try.zeroValue3
  t4 := Try.underlying4
  a4 := Try.isAgg4
  z4 := Try.sizeOf4
  v4 := Try.zeroValue4
  t5 := Try.underlying5
  a5 := Try.isAgg5
  z5 := Try.sizeOf5
  v5 := Try.zeroValue5
  t9 := Try.underlying9
  a9 := Try.isAgg9
  z9 := Try.sizeOf9
  v9 := Try.zeroValue9
  t22 := Try.underlying22
  a22 := Try.isAgg22
  z22 := Try.sizeOf22
  v22 := Try.zeroValue22
  t25 := Try.underlying47
  a25 := Try.isAgg47
  z25 := Try.sizeOf47
  v25 := Try.zeroValue47
  t39 := Try.underlying57
  a39 := Try.isAgg57
  z39 := Try.sizeOf57
  v39 := Try.zeroValue57
  t45 := Try.underlying62
  a45 := Try.isAgg62
  z45 := Try.sizeOf62
  v45 := Try.zeroValue62
  t46 := Try.underlying63
  a46 := Try.isAgg63
  z46 := Try.sizeOf63
  v46 := Try.zeroValue63
  t50 := Try.underlying67
  a50 := Try.isAgg67
  z50 := Try.sizeOf67
  v50 := Try.zeroValue67
  t53 := Try.underlying70
  a53 := Try.isAgg70
  z53 := Try.sizeOf70
  v53 := Try.zeroValue70
  t55 := Try.underlying72
  a55 := Try.isAgg72
  z55 := Try.sizeOf72
  v55 := Try.zeroValue72
  t66 := Try.underlying73
  a66 := Try.isAgg73
  z66 := Try.sizeOf73
  v66 := Try.zeroValue73
  t70 := Try.underlying77
  a70 := Try.isAgg77
  z70 := Try.sizeOf77
  v70 := Try.zeroValue77
  t76 := Try.underlying79
  a76 := Try.isAgg79
  z76 := Try.sizeOf79
  v76 := Try.zeroValue79
  t77 := Try.underlying80
  a77 := Try.isAgg80
  z77 := Try.sizeOf80
  v77 := Try.zeroValue80 }
end Go.Proofs
