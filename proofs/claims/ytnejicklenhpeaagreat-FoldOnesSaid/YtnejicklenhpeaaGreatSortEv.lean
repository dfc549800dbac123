/-
  DERIVED: THE SHELF's CONTRACTS AT THIS DUMP, IN PLAIN WORDS (tools/lay-plain.mjs out of 'YtnejicklenhpeaaGreatSortEv.lean', which tools/lay-shelf.mjs wrote): THE SAME DECLARATIONS UNDER THE SAME NAMES: 'import', 'namespace', 'open', 'def', 'theorem' AND NOTHING ELSE: no command of the shelf's: FOR A HAND-IN. Each laying: the table of numbers ('.._ren') and one theorem, a field a fact of the dump's own or the kernel's comparison; each contract: ONE APPLICATION.
-/
import Derived.Shelf.SlSortCmp.WholeK
import Derived.Ground.SlsfProg
import Derived.Test.YtnejicklenhpeaaGreatProg
namespace Go.Proofs
open Go.Shelf
def LySort.evs_ren : Go.Shelf.Ren := ⟨fun | 6 => 73 | 15 => 129 | 14 => 128 | 28 => 181 | 29 => 182 | 20 => 173 | 21 => 174 | 22 => 175 | 23 => 176 | 24 => 177 | 25 => 178 | 26 => 179 | 27 => 180 | 46 => 228 | 47 => 229 | 48 => 230 | 49 => 231 | 50 => 232 | 57 => 257 | n => n, fun | 22 => 59 | 24 => 54 | 25 => 135 | 3 => 3 | 39 => 192 | 0 => 0 | 53 => 265 | 55 => 267 | 4 => 4 | 46 => 259 | 45 => 258 | 50 => 100 | 5 => 5 | 9 => 9 | 66 => 298 | 70 => 302 | 76 => 320 | 77 => 225 | n => n, fun | n => n⟩
theorem LySort.evs : Go.Proofs.SlLaysF0.n6 Tryz.prog LySort.evs_ren := {
  mixed := by kernel_rfl
  f6 := ⟨Tryz.f73.name, by decide, Tryz.func73.trans (congrArg some (by kernel_rfl))⟩
  f14 := ⟨Tryz.f128.name, by decide, Tryz.func128.trans (congrArg some (by kernel_rfl))⟩
  f15 := Tryz.func129.trans (congrArg some (by kernel_rfl))
  f20 := ⟨Tryz.f173.name, by decide, Tryz.func173.trans (congrArg some (by kernel_rfl))⟩
  f21 := ⟨Tryz.f174.name, by decide, Tryz.func174.trans (congrArg some (by kernel_rfl))⟩
  f22 := ⟨Tryz.f175.name, by decide, Tryz.func175.trans (congrArg some (by kernel_rfl))⟩
  f23 := ⟨Tryz.f176.name, by decide, Tryz.func176.trans (congrArg some (by kernel_rfl))⟩
  f24 := ⟨Tryz.f177.name, by decide, Tryz.func177.trans (congrArg some (by kernel_rfl))⟩
  f25 := ⟨Tryz.f178.name, by decide, Tryz.func178.trans (congrArg some (by kernel_rfl))⟩
  f26 := ⟨Tryz.f179.name, by decide, Tryz.func179.trans (congrArg some (by kernel_rfl))⟩
  f27 := ⟨Tryz.f180.name, by decide, Tryz.func180.trans (congrArg some (by kernel_rfl))⟩
  f28 := Tryz.func181.trans (congrArg some (by kernel_rfl))
  f29 := Tryz.func182.trans (congrArg some (by kernel_rfl))
  f46 := ⟨Tryz.f228.name, by decide, Tryz.func228.trans (congrArg some (by kernel_rfl))⟩
  f47 := Tryz.func229.trans (congrArg some (by kernel_rfl))
  f48 := Tryz.func230.trans (congrArg some (by kernel_rfl))
  f49 := ⟨Tryz.f231.name, by decide, Tryz.func231.trans (congrArg some (by kernel_rfl))⟩
  f50 := ⟨Tryz.f232.name, by decide, Tryz.func232.trans (congrArg some (by kernel_rfl))⟩
  f57 := ⟨Tryz.f257.name, by decide, Tryz.func257.trans (congrArg some (by kernel_rfl))⟩
  t0 := Tryz.underlying0
  a0 := Tryz.isAgg0
  z0 := Tryz.sizeOf0
  v0 := Tryz.zeroValue0
  t3 := Tryz.underlying3
  a3 := Tryz.isAgg3
  z3 := Tryz.sizeOf3
  v3 := Tryz.zeroValue3
  t4 := Tryz.underlying4
  a4 := Tryz.isAgg4
  z4 := Tryz.sizeOf4
  v4 := Tryz.zeroValue4
  t5 := Tryz.underlying5
  a5 := Tryz.isAgg5
  z5 := Tryz.sizeOf5
  v5 := Tryz.zeroValue5
  t9 := Tryz.underlying9
  a9 := Tryz.isAgg9
  z9 := Tryz.sizeOf9
  v9 := Tryz.zeroValue9
  t22 := Tryz.underlying59
  a22 := Tryz.isAgg59
  z22 := Tryz.sizeOf59
  v22 := Tryz.zeroValue59
  t25 := Tryz.underlying135
  a25 := Tryz.isAgg135
  z25 := Tryz.sizeOf135
  v25 := Tryz.zeroValue135
  t39 := Tryz.underlying192
  a39 := Tryz.isAgg192
  z39 := Tryz.sizeOf192
  v39 := Tryz.zeroValue192
  t45 := Tryz.underlying258
  a45 := Tryz.isAgg258
  z45 := Tryz.sizeOf258
  v45 := Tryz.zeroValue258
  t46 := Tryz.underlying259
  a46 := Tryz.isAgg259
  z46 := Tryz.sizeOf259
  v46 := Tryz.zeroValue259
  t50 := Tryz.underlying100
  a50 := Tryz.isAgg100
  z50 := Tryz.sizeOf100
  v50 := Tryz.zeroValue100
  t53 := Tryz.underlying265
  a53 := Tryz.isAgg265
  z53 := Tryz.sizeOf265
  v53 := Tryz.zeroValue265
  t55 := Tryz.underlying267
  a55 := Tryz.isAgg267
  z55 := Tryz.sizeOf267
  v55 := Tryz.zeroValue267
  t66 := Tryz.underlying298
  a66 := Tryz.isAgg298
  z66 := Tryz.sizeOf298
  v66 := Tryz.zeroValue298
  t70 := Tryz.underlying302
  a70 := Tryz.isAgg302
  z70 := Tryz.sizeOf302
  v70 := Tryz.zeroValue302
  t76 := Tryz.underlying320
  a76 := Tryz.isAgg320
  z76 := Tryz.sizeOf320
  v76 := Tryz.zeroValue320
  t77 := Tryz.underlying225
  a77 := Tryz.isAgg225
  z77 := Tryz.sizeOf225
  v77 := Tryz.zeroValue225 }
end Go.Proofs
