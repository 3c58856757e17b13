/- What maps.Keys at claims leans on at this program: the library's text as the shelf knows it (laid by lay-plain.mjs). -/
import Derived.Shelf.SlIterI.Nil
import Derived.Shelf.SortM.Plain
import Derived.Shelf.SortM.SortNone
import Derived.Test.YtgmgofcclddkiaaProg
namespace Go.Proofs
open Go.Shelf
def Try.keysC_ren : Go.Shelf.Ren := ⟨fun | 7 => 42 | 10 => 49 | n => n, fun | 23 => 87 | 26 => 3 | 3 => 62 | 28 => 82 | 0 => 0 | 27 => 81 | 33 => 95 | 4 => 4 | n => n, fun | n => n⟩
theorem Try.keysC : Go.Proofs.SlLaysZI.n7 Try.prog Try.keysC_ren := {
  mixed := by kernel_rfl
  f7 := ⟨Try.f42.name, by decide, Try.func42.trans (congrArg some (by kernel_rfl))⟩
  f10 := ⟨Try.f49.name, by decide, Try.func49.trans (congrArg some (by kernel_rfl))⟩
  t0 := Try.underlying0
  a0 := Try.isAgg0
  z0 := Try.sizeOf0
  v0 := Try.zeroValue0
  t4 := Try.underlying4
  a4 := Try.isAgg4
  z4 := Try.sizeOf4
  v4 := Try.zeroValue4
  t23 := Try.underlying87
  a23 := Try.isAgg87
  z23 := Try.sizeOf87
  v23 := Try.zeroValue87
  t26 := Try.underlying3
  a26 := Try.isAgg3
  z26 := Try.sizeOf3
  v26 := Try.zeroValue3
  t27 := Try.underlying81
  a27 := Try.isAgg81
  z27 := Try.sizeOf81
  v27 := Try.zeroValue81
  t28 := Try.underlying82
  a28 := Try.isAgg82
  z28 := Try.sizeOf82
  v28 := Try.zeroValue82
  t33 := Try.underlying95
  a33 := Try.isAgg95
  z33 := Try.sizeOf95
  v33 := Try.zeroValue95 }
end Go.Proofs
