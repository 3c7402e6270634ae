/-
  The shelf contract of slices.SortFunc laid at this program (written by the kit tool lay-plain; numbers of this seat).
-/
import Derived.Shelf.SlGeneric
import Derived.Ground.SlsfProg
import Derived.Shelf.SlSortCmp.WholeK
import Derived.Test.YtnbanbfnabhjjaaProg
namespace Go.Proofs
open Go.Shelf
def Try.laysSlF06_f117_ren : Go.Shelf.Ren := ⟨fun | 6 => 117 | 15 => 110 | 14 => 127 | 28 => 124 | 29 => 125 | 20 => 131 | 21 => 132 | 22 => 133 | 23 => 134 | 24 => 135 | 25 => 136 | 26 => 137 | 27 => 138 | 46 => 139 | 47 => 140 | 48 => 141 | 49 => 142 | 50 => 143 | 57 => 144 | n => n, fun | 22 => 110 | 24 => 123 | 25 => 166 | 3 => 3 | 39 => 154 | 0 => 0 | 53 => 170 | 55 => 22 | 4 => 4 | 46 => 178 | 45 => 177 | 50 => 28 | 5 => 5 | 9 => 9 | 66 => 183 | 70 => 187 | 76 => 189 | 77 => 190 | n => n, fun | n => n⟩
theorem Try.laysSlF06_f117 : Go.Proofs.SlLaysF0.n6 Try.prog Try.laysSlF06_f117_ren := {
  mixed := by kernel_rfl
  f6 := ⟨Try.f117.name, by decide, Try.func117.trans (congrArg some (by kernel_rfl))⟩
  f14 := ⟨Try.f127.name, by decide, Try.func127.trans (congrArg some (by kernel_rfl))⟩
  f15 := Try.func110.trans (congrArg some (by kernel_rfl))
  f20 := ⟨Try.f131.name, by decide, Try.func131.trans (congrArg some (by kernel_rfl))⟩
  f21 := ⟨Try.f132.name, by decide, Try.func132.trans (congrArg some (by kernel_rfl))⟩
  f22 := ⟨Try.f133.name, by decide, Try.func133.trans (congrArg some (by kernel_rfl))⟩
  f23 := ⟨Try.f134.name, by decide, Try.func134.trans (congrArg some (by kernel_rfl))⟩
  f24 := ⟨Try.f135.name, by decide, Try.func135.trans (congrArg some (by kernel_rfl))⟩
  f25 := ⟨Try.f136.name, by decide, Try.func136.trans (congrArg some (by kernel_rfl))⟩
  f26 := ⟨Try.f137.name, by decide, Try.func137.trans (congrArg some (by kernel_rfl))⟩
  f27 := ⟨Try.f138.name, by decide, Try.func138.trans (congrArg some (by kernel_rfl))⟩
  f28 := Try.func124.trans (congrArg some (by kernel_rfl))
  f29 := Try.func125.trans (congrArg some (by kernel_rfl))
  f46 := ⟨Try.f139.name, by decide, Try.func139.trans (congrArg some (by kernel_rfl))⟩
  f47 := Try.func140.trans (congrArg some (by kernel_rfl))
  f48 := Try.func141.trans (congrArg some (by kernel_rfl))
  f49 := ⟨Try.f142.name, by decide, Try.func142.trans (congrArg some (by kernel_rfl))⟩
  f50 := ⟨Try.f143.name, by decide, Try.func143.trans (congrArg some (by kernel_rfl))⟩
  f57 := ⟨Try.f144.name, by decide, Try.func144.trans (congrArg some (by kernel_rfl))⟩
  t0 := Try.underlying0
  a0 := Try.isAgg0
  z0 := Try.sizeOf0
  v0 := Try.zeroValue0
  t3 := Try.underlying3
  a3 := Try.isAgg3
  z3 := Try.sizeOf3
  v3 := Try.zeroValue3
  t4 := Try.underlying4
  a4 := Try.isAgg4
  z4 := Try.sizeOf4
  v4 := Try.zeroValue4
  t5 := Try.underlying5
  a5 := Try.isAgg5
  z5 := Try.sizeOf5
  v5 := Try.zeroValue5
  t9 := Try.underlying9
  a9 := Try.isAgg9
  z9 := Try.sizeOf9
  v9 := Try.zeroValue9
  t22 := Try.underlying110
  a22 := Try.isAgg110
  z22 := Try.sizeOf110
  v22 := Try.zeroValue110
  t25 := Try.underlying166
  a25 := Try.isAgg166
  z25 := Try.sizeOf166
  v25 := Try.zeroValue166
  t39 := Try.underlying154
  a39 := Try.isAgg154
  z39 := Try.sizeOf154
  v39 := Try.zeroValue154
  t45 := Try.underlying177
  a45 := Try.isAgg177
  z45 := Try.sizeOf177
  v45 := Try.zeroValue177
  t46 := Try.underlying178
  a46 := Try.isAgg178
  z46 := Try.sizeOf178
  v46 := Try.zeroValue178
  t50 := Try.underlying28
  a50 := Try.isAgg28
  z50 := Try.sizeOf28
  v50 := Try.zeroValue28
  t53 := Try.underlying170
  a53 := Try.isAgg170
  z53 := Try.sizeOf170
  v53 := Try.zeroValue170
  t55 := Try.underlying22
  a55 := Try.isAgg22
  z55 := Try.sizeOf22
  v55 := Try.zeroValue22
  t66 := Try.underlying183
  a66 := Try.isAgg183
  z66 := Try.sizeOf183
  v66 := Try.zeroValue183
  t70 := Try.underlying187
  a70 := Try.isAgg187
  z70 := Try.sizeOf187
  v70 := Try.zeroValue187
  t76 := Try.underlying189
  a76 := Try.isAgg189
  z76 := Try.sizeOf189
  v76 := Try.zeroValue189
  t77 := Try.underlying190
  a77 := Try.isAgg190
  z77 := Try.sizeOf190
  v77 := Try.zeroValue190 }
end Go.Proofs
