/-
  DERIVED: THE SHELF's CONTRACTS AT THIS DUMP, IN PLAIN WORDS (tools/lay-plain.mjs out of 'YtndfdgdahinkpaaLinkSort.lean', which tools/lay-shelf.mjs wrote): THE SAME DECLARATIONS UNDER THE SAME NAMES: 'import', 'namespace', 'open', 'def', 'theorem' AND NOTHING ELSE: no command of the shelf's: FOR A HAND-IN. Each laying: the table of numbers ('.._ren') and one theorem, a field a fact of the dump's own or the kernel's comparison; each contract: ONE APPLICATION.
-/
import Derived.Shelf.SlSortCmp.WholeK
import Derived.Ground.SlsfProg
import Derived.Test.YtndfdgdahinkpaaProg
namespace Go.Proofs
open Go.Shelf
def LySort.cells_ren : Go.Shelf.Ren := ⟨fun | 6 => 80 | 15 => 100 | 14 => 99 | 28 => 126 | 29 => 127 | 20 => 118 | 21 => 119 | 22 => 120 | 23 => 121 | 24 => 122 | 25 => 123 | 26 => 124 | 27 => 125 | 46 => 138 | 47 => 139 | 48 => 140 | 49 => 141 | 50 => 142 | 57 => 144 | n => n, fun | 22 => 64 | 24 => 31 | 25 => 153 | 3 => 3 | 39 => 167 | 0 => 0 | 53 => 190 | 55 => 192 | 4 => 4 | 46 => 184 | 45 => 183 | 50 => 144 | 5 => 5 | 9 => 9 | 66 => 196 | 70 => 200 | 76 => 202 | 77 => 203 | n => n, fun | n => n⟩
theorem LySort.cells : Go.Proofs.SlLaysF0.n6 Try.prog LySort.cells_ren := {
  mixed := by kernel_rfl
  f6 := ⟨Try.f80.name, by decide, Try.func80.trans (congrArg some (by kernel_rfl))⟩
  f14 := ⟨Try.f99.name, by decide, Try.func99.trans (congrArg some (by kernel_rfl))⟩
  f15 := Try.func100.trans (congrArg some (by kernel_rfl))
  f20 := ⟨Try.f118.name, by decide, Try.func118.trans (congrArg some (by kernel_rfl))⟩
  f21 := ⟨Try.f119.name, by decide, Try.func119.trans (congrArg some (by kernel_rfl))⟩
  f22 := ⟨Try.f120.name, by decide, Try.func120.trans (congrArg some (by kernel_rfl))⟩
  f23 := ⟨Try.f121.name, by decide, Try.func121.trans (congrArg some (by kernel_rfl))⟩
  f24 := ⟨Try.f122.name, by decide, Try.func122.trans (congrArg some (by kernel_rfl))⟩
  f25 := ⟨Try.f123.name, by decide, Try.func123.trans (congrArg some (by kernel_rfl))⟩
  f26 := ⟨Try.f124.name, by decide, Try.func124.trans (congrArg some (by kernel_rfl))⟩
  f27 := ⟨Try.f125.name, by decide, Try.func125.trans (congrArg some (by kernel_rfl))⟩
  f28 := Try.func126.trans (congrArg some (by kernel_rfl))
  f29 := Try.func127.trans (congrArg some (by kernel_rfl))
  f46 := ⟨Try.f138.name, by decide, Try.func138.trans (congrArg some (by kernel_rfl))⟩
  f47 := Try.func139.trans (congrArg some (by kernel_rfl))
  f48 := Try.func140.trans (congrArg some (by kernel_rfl))
  f49 := ⟨Try.f141.name, by decide, Try.func141.trans (congrArg some (by kernel_rfl))⟩
  f50 := ⟨Try.f142.name, by decide, Try.func142.trans (congrArg some (by kernel_rfl))⟩
  f57 := ⟨Try.f144.name, by decide, Try.func144.trans (congrArg some (by kernel_rfl))⟩
  t0 := Try.underlying0
  a0 := Try.isAgg0
  z0 := Try.sizeOf0
  v0 := Try.zeroValue0
  t3 := Try.underlying3
  a3 := Try.isAgg3
  z3 := Try.sizeOf3
  v3 := Try.zeroValue3
  t4 := Try.underlying4
  a4 := Try.isAgg4
  z4 := Try.sizeOf4
  v4 := Try.zeroValue4
  t5 := Try.underlying5
  a5 := Try.isAgg5
  z5 := Try.sizeOf5
  v5 := Try.zeroValue5
  t9 := Try.underlying9
  a9 := Try.isAgg9
  z9 := Try.sizeOf9
  v9 := Try.zeroValue9
  t22 := Try.underlying64
  a22 := Try.isAgg64
  z22 := Try.sizeOf64
  v22 := Try.zeroValue64
  t25 := Try.underlying153
  a25 := Try.isAgg153
  z25 := Try.sizeOf153
  v25 := Try.zeroValue153
  t39 := Try.underlying167
  a39 := Try.isAgg167
  z39 := Try.sizeOf167
  v39 := Try.zeroValue167
  t45 := Try.underlying183
  a45 := Try.isAgg183
  z45 := Try.sizeOf183
  v45 := Try.zeroValue183
  t46 := Try.underlying184
  a46 := Try.isAgg184
  z46 := Try.sizeOf184
  v46 := Try.zeroValue184
  t50 := Try.underlying144
  a50 := Try.isAgg144
  z50 := Try.sizeOf144
  v50 := Try.zeroValue144
  t53 := Try.underlying190
  a53 := Try.isAgg190
  z53 := Try.sizeOf190
  v53 := Try.zeroValue190
  t55 := Try.underlying192
  a55 := Try.isAgg192
  z55 := Try.sizeOf192
  v55 := Try.zeroValue192
  t66 := Try.underlying196
  a66 := Try.isAgg196
  z66 := Try.sizeOf196
  v66 := Try.zeroValue196
  t70 := Try.underlying200
  a70 := Try.isAgg200
  z70 := Try.sizeOf200
  v70 := Try.zeroValue200
  t76 := Try.underlying202
  a76 := Try.isAgg202
  z76 := Try.sizeOf202
  v76 := Try.zeroValue202
  t77 := Try.underlying203
  a77 := Try.isAgg203
  z77 := Try.sizeOf203
  v77 := Try.zeroValue203 }
end Go.Proofs
