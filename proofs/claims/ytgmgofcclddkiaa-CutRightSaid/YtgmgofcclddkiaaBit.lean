/- What nextPowerOfTwo and the shift register's Next lean on at this program: the library's texts as the shelf knows them (laid by lay-plain.mjs). -/
import Derived.Shelf.SlSortCmp.Xorshift
import Derived.Test.YtgmgofcclddkiaaProg
namespace Go.Proofs
open Go.Shelf
def Try.npot_ren : Go.Shelf.Ren := ⟨fun | 47 => 76 | 15 => 52 | 28 => 64 | 29 => 65 | n => n, fun | 3 => 3 | 39 => 96 | 53 => 117 | 55 => 119 | 4 => 4 | 5 => 5 | 9 => 9 | n => n, fun | n => n⟩
theorem Try.npot : Go.Proofs.SlLaysF0.n47 Try.prog Try.npot_ren := {
  mixed := by kernel_rfl
  f15 := Try.func52.trans (congrArg some (by kernel_rfl))
  f28 := Try.func64.trans (congrArg some (by kernel_rfl))
  f29 := Try.func65.trans (congrArg some (by kernel_rfl))
  f47 := Try.func76.trans (congrArg some (by kernel_rfl))
  t3 := Try.underlying3
  a3 := Try.isAgg3
  z3 := Try.sizeOf3
  v3 := Try.zeroValue3
  t4 := Try.underlying4
  a4 := Try.isAgg4
  z4 := Try.sizeOf4
  v4 := Try.zeroValue4
  t5 := Try.underlying5
  a5 := Try.isAgg5
  z5 := Try.sizeOf5
  v5 := Try.zeroValue5
  t9 := Try.underlying9
  a9 := Try.isAgg9
  z9 := Try.sizeOf9
  v9 := Try.zeroValue9
  t39 := Try.underlying96
  a39 := Try.isAgg96
  z39 := Try.sizeOf96
  v39 := Try.zeroValue96
  t53 := Try.underlying117
  a53 := Try.isAgg117
  z53 := Try.sizeOf117
  v53 := Try.zeroValue117
  t55 := Try.underlying119
  a55 := Try.isAgg119
  z55 := Try.sizeOf119
  v55 := Try.zeroValue119 }
def Try.xnext_ren : Go.Shelf.Ren := ⟨fun | 48 => 77 | n => n, fun | 76 => 134 | 55 => 119 | 0 => 0 | 66 => 126 | 39 => 96 | n => n, fun | n => n⟩
theorem Try.xnext : Go.Proofs.SlLaysF0.n48 Try.prog Try.xnext_ren := {
  mixed := by kernel_rfl
  f48 := Try.func77.trans (congrArg some (by kernel_rfl))
  t0 := Try.underlying0
  a0 := Try.isAgg0
  z0 := Try.sizeOf0
  v0 := Try.zeroValue0
  t39 := Try.underlying96
  a39 := Try.isAgg96
  z39 := Try.sizeOf96
  v39 := Try.zeroValue96
  t55 := Try.underlying119
  a55 := Try.isAgg119
  z55 := Try.sizeOf119
  v55 := Try.zeroValue119
  t66 := Try.underlying126
  a66 := Try.isAgg126
  z66 := Try.sizeOf126
  v66 := Try.zeroValue126
  t76 := Try.underlying134
  a76 := Try.isAgg134
  z76 := Try.sizeOf134
  v76 := Try.zeroValue134 }
end Go.Proofs
