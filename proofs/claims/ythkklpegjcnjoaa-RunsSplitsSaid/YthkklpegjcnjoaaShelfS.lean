/- The library's sort.Search, laid at this program's numbers (written by the kit's shelf tools): no condition. -/
import Derived.Shelf.SlSorted.Search
import Derived.Ground.SlsoProg
import Derived.Test.YthkklpegjcnjoaaProg
namespace Go.Proofs
open Go.Shelf
def Try.search_ren:Go.Shelf.Ren:=⟨fun | 16=>76 | n=>n,fun | 3=>3 | 35=>34 | 4=>4 | 38=>101 | n=>n,fun | n=>n⟩
theorem Try.search:Go.Proofs.SlLaysO.n16 Try.prog Try.search_ren:={
 mixed:=by kernel_rfl
 f16:=Try.func76.trans (congrArg some (by kernel_rfl))
 t3:=Try.underlying3
 a3:=Try.isAgg3
 z3:=Try.sizeOf3
 v3:=Try.zeroValue3
 t4:=Try.underlying4
 a4:=Try.isAgg4
 z4:=Try.sizeOf4
 v4:=Try.zeroValue4
 t35:=Try.underlying34
 a35:=Try.isAgg34
 z35:=Try.sizeOf34
 v35:=Try.zeroValue34
 t38:=Try.underlying101
 a38:=Try.isAgg101
 z38:=Try.sizeOf101
 v38:=Try.zeroValue101 }
end Go.Proofs
