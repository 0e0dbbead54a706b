/- The library's slices.SortFunc at pairs of whole numbers, laid at this program's numbers (written by the kit's shelf tools): no condition. -/
import Derived.Shelf.SlSortCmp.NoneTotal
import Derived.Shelf.SlGeneric
import Derived.Ground.SlsfProg
import Derived.Test.YthkklpegjcnjoaaProg
namespace Go.Proofs
open Go.Shelf
def Try.sortPairs_ren:Go.Shelf.Ren:=⟨fun | 6=>87 | 15=>96 | 14=>95 | 28=>106 | 29=>107 | 20=>98 | 21=>99 | 22=>100 | 23=>101 | 24=>102 | 25=>103 | 26=>104 | 27=>105 | 46=>108 | 47=>109 | 48=>110 | 49=>111 | 50=>112 | 57=>113 | n=>n,fun | 22=>37 | 24=>39 | 25=>100 | 3=>3 | 39=>101 | 0=>0 | 53=>121 | 55=>123 | 4=>4 | 46=>114 | 45=>113 | 50=>118 | 5=>5 | 9=>9 | 66=>125 | 70=>129 | 76=>131 | 77=>82 | n=>n,fun | n=>n⟩
theorem Try.sortPairs:Go.Proofs.SlLaysF0.n6 Try.prog Try.sortPairs_ren:={
 mixed:=by kernel_rfl
 f6:=⟨Try.f87.name,by decide,Try.func87.trans (congrArg some (by kernel_rfl))⟩
 f14:=⟨Try.f95.name,by decide,Try.func95.trans (congrArg some (by kernel_rfl))⟩
 f15:=Try.func96.trans (congrArg some (by kernel_rfl))
 f20:=⟨Try.f98.name,by decide,Try.func98.trans (congrArg some (by kernel_rfl))⟩
 f21:=⟨Try.f99.name,by decide,Try.func99.trans (congrArg some (by kernel_rfl))⟩
 f22:=⟨Try.f100.name,by decide,Try.func100.trans (congrArg some (by kernel_rfl))⟩
 f23:=⟨Try.f101.name,by decide,Try.func101.trans (congrArg some (by kernel_rfl))⟩
 f24:=⟨Try.f102.name,by decide,Try.func102.trans (congrArg some (by kernel_rfl))⟩
 f25:=⟨Try.f103.name,by decide,Try.func103.trans (congrArg some (by kernel_rfl))⟩
 f26:=⟨Try.f104.name,by decide,Try.func104.trans (congrArg some (by kernel_rfl))⟩
 f27:=⟨Try.f105.name,by decide,Try.func105.trans (congrArg some (by kernel_rfl))⟩
 f28:=Try.func106.trans (congrArg some (by kernel_rfl))
 f29:=Try.func107.trans (congrArg some (by kernel_rfl))
 f46:=⟨Try.f108.name,by decide,Try.func108.trans (congrArg some (by kernel_rfl))⟩
 f47:=Try.func109.trans (congrArg some (by kernel_rfl))
 f48:=Try.func110.trans (congrArg some (by kernel_rfl))
 f49:=⟨Try.f111.name,by decide,Try.func111.trans (congrArg some (by kernel_rfl))⟩
 f50:=⟨Try.f112.name,by decide,Try.func112.trans (congrArg some (by kernel_rfl))⟩
 f57:=⟨Try.f113.name,by decide,Try.func113.trans (congrArg some (by kernel_rfl))⟩
 t0:=Try.underlying0
 a0:=Try.isAgg0
 z0:=Try.sizeOf0
 v0:=Try.zeroValue0
 t3:=Try.underlying3
 a3:=Try.isAgg3
 z3:=Try.sizeOf3
 v3:=Try.zeroValue3
 t4:=Try.underlying4
 a4:=Try.isAgg4
 z4:=Try.sizeOf4
 v4:=Try.zeroValue4
 t5:=Try.underlying5
 a5:=Try.isAgg5
 z5:=Try.sizeOf5
 v5:=Try.zeroValue5
 t9:=Try.underlying9
 a9:=Try.isAgg9
 z9:=Try.sizeOf9
 v9:=Try.zeroValue9
 t22:=Try.underlying37
 a22:=Try.isAgg37
 z22:=Try.sizeOf37
 v22:=Try.zeroValue37
 t25:=Try.underlying100
 a25:=Try.isAgg100
 z25:=Try.sizeOf100
 v25:=Try.zeroValue100
 t39:=Try.underlying101
 a39:=Try.isAgg101
 z39:=Try.sizeOf101
 v39:=Try.zeroValue101
 t45:=Try.underlying113
 a45:=Try.isAgg113
 z45:=Try.sizeOf113
 v45:=Try.zeroValue113
 t46:=Try.underlying114
 a46:=Try.isAgg114
 z46:=Try.sizeOf114
 v46:=Try.zeroValue114
 t50:=Try.underlying118
 a50:=Try.isAgg118
 z50:=Try.sizeOf118
 v50:=Try.zeroValue118
 t53:=Try.underlying121
 a53:=Try.isAgg121
 z53:=Try.sizeOf121
 v53:=Try.zeroValue121
 t55:=Try.underlying123
 a55:=Try.isAgg123
 z55:=Try.sizeOf123
 v55:=Try.zeroValue123
 t66:=Try.underlying125
 a66:=Try.isAgg125
 z66:=Try.sizeOf125
 v66:=Try.zeroValue125
 t70:=Try.underlying129
 a70:=Try.isAgg129
 z70:=Try.sizeOf129
 v70:=Try.zeroValue129
 t76:=Try.underlying131
 a76:=Try.isAgg131
 z76:=Try.sizeOf131
 v76:=Try.zeroValue131
 t77:=Try.underlying82
 a77:=Try.isAgg82
 z77:=Try.sizeOf82
 v77:=Try.zeroValue82 }
end Go.Proofs
