/-
  DERIVED: THE SHELF's CONTRACTS AT THIS DUMP, IN PLAIN WORDS (tools/lay-plain.mjs out of 'TryzShelfB.lean', which tools/lay-shelf.mjs wrote): THE SAME DECLARATIONS UNDER THE SAME NAMES: 'import', 'namespace', 'open', 'def', 'theorem' AND NOTHING ELSE: no command of the shelf's: FOR A HAND-IN. Each laying: the table of numbers ('.._ren') and one theorem, a field a fact of the dump's own or the kernel's comparison; each contract: ONE APPLICATION.
-/
import Derived.Shelf.SlSortCmp.WholeK
import Derived.Shelf.SlSortCmp.NoneTotal
import Derived.Ground.SlsfProg
import Derived.Test.YtkfelkaiknjlhaaGreatDoorProg
namespace Go.Proofs
open Go.Shelf
def Tryz.sortEdge_ren : Go.Shelf.Ren := ⟨fun | 6 => 178 | 15 => 170 | 14 => 209 | 28 => 204 | 29 => 205 | 20 => 231 | 21 => 232 | 22 => 233 | 23 => 234 | 24 => 235 | 25 => 236 | 26 => 237 | 27 => 238 | 46 => 247 | 47 => 226 | 48 => 227 | 49 => 248 | 50 => 249 | 57 => 253 | n => n, fun | 22 => 38 | 24 => 78 | 25 => 290 | 3 => 3 | 39 => 253 | 0 => 0 | 53 => 270 | 55 => 316 | 4 => 4 | 46 => 307 | 45 => 306 | 50 => 312 | 5 => 5 | 9 => 9 | 66 => 337 | 70 => 341 | 76 => 358 | 77 => 359 | n => n, fun | n => n⟩
theorem Tryz.sortEdge : Go.Proofs.SlLaysF0.n6 Tryz.prog Tryz.sortEdge_ren := {
  mixed := by kernel_rfl
  f6 := ⟨Tryz.f178.name, by decide, Tryz.func178.trans (congrArg some (by kernel_rfl))⟩
  f14 := ⟨Tryz.f209.name, by decide, Tryz.func209.trans (congrArg some (by kernel_rfl))⟩
  f15 := Tryz.func170.trans (congrArg some (by kernel_rfl))
  f20 := ⟨Tryz.f231.name, by decide, Tryz.func231.trans (congrArg some (by kernel_rfl))⟩
  f21 := ⟨Tryz.f232.name, by decide, Tryz.func232.trans (congrArg some (by kernel_rfl))⟩
  f22 := ⟨Tryz.f233.name, by decide, Tryz.func233.trans (congrArg some (by kernel_rfl))⟩
  f23 := ⟨Tryz.f234.name, by decide, Tryz.func234.trans (congrArg some (by kernel_rfl))⟩
  f24 := ⟨Tryz.f235.name, by decide, Tryz.func235.trans (congrArg some (by kernel_rfl))⟩
  f25 := ⟨Tryz.f236.name, by decide, Tryz.func236.trans (congrArg some (by kernel_rfl))⟩
  f26 := ⟨Tryz.f237.name, by decide, Tryz.func237.trans (congrArg some (by kernel_rfl))⟩
  f27 := ⟨Tryz.f238.name, by decide, Tryz.func238.trans (congrArg some (by kernel_rfl))⟩
  f28 := Tryz.func204.trans (congrArg some (by kernel_rfl))
  f29 := Tryz.func205.trans (congrArg some (by kernel_rfl))
  f46 := ⟨Tryz.f247.name, by decide, Tryz.func247.trans (congrArg some (by kernel_rfl))⟩
  f47 := Tryz.func226.trans (congrArg some (by kernel_rfl))
  f48 := Tryz.func227.trans (congrArg some (by kernel_rfl))
  f49 := ⟨Tryz.f248.name, by decide, Tryz.func248.trans (congrArg some (by kernel_rfl))⟩
  f50 := ⟨Tryz.f249.name, by decide, Tryz.func249.trans (congrArg some (by kernel_rfl))⟩
  f57 := ⟨Tryz.f253.name, by decide, Tryz.func253.trans (congrArg some (by kernel_rfl))⟩
  t0 := Tryz.underlying0
  a0 := Tryz.isAgg0
  z0 := Tryz.sizeOf0
  v0 := Tryz.zeroValue0
  t3 := Tryz.underlying3
  a3 := Tryz.isAgg3
  z3 := Tryz.sizeOf3
  v3 := Tryz.zeroValue3
  t4 := Tryz.underlying4
  a4 := Tryz.isAgg4
  z4 := Tryz.sizeOf4
  v4 := Tryz.zeroValue4
  t5 := Tryz.underlying5
  a5 := Tryz.isAgg5
  z5 := Tryz.sizeOf5
  v5 := Tryz.zeroValue5
  t9 := Tryz.underlying9
  a9 := Tryz.isAgg9
  z9 := Tryz.sizeOf9
  v9 := Tryz.zeroValue9
  t22 := Tryz.underlying38
  a22 := Tryz.isAgg38
  z22 := Tryz.sizeOf38
  v22 := Tryz.zeroValue38
  t25 := Tryz.underlying290
  a25 := Tryz.isAgg290
  z25 := Tryz.sizeOf290
  v25 := Tryz.zeroValue290
  t39 := Tryz.underlying253
  a39 := Tryz.isAgg253
  z39 := Tryz.sizeOf253
  v39 := Tryz.zeroValue253
  t45 := Tryz.underlying306
  a45 := Tryz.isAgg306
  z45 := Tryz.sizeOf306
  v45 := Tryz.zeroValue306
  t46 := Tryz.underlying307
  a46 := Tryz.isAgg307
  z46 := Tryz.sizeOf307
  v46 := Tryz.zeroValue307
  t50 := Tryz.underlying312
  a50 := Tryz.isAgg312
  z50 := Tryz.sizeOf312
  v50 := Tryz.zeroValue312
  t53 := Tryz.underlying270
  a53 := Tryz.isAgg270
  z53 := Tryz.sizeOf270
  v53 := Tryz.zeroValue270
  t55 := Tryz.underlying316
  a55 := Tryz.isAgg316
  z55 := Tryz.sizeOf316
  v55 := Tryz.zeroValue316
  t66 := Tryz.underlying337
  a66 := Tryz.isAgg337
  z66 := Tryz.sizeOf337
  v66 := Tryz.zeroValue337
  t70 := Tryz.underlying341
  a70 := Tryz.isAgg341
  z70 := Tryz.sizeOf341
  v70 := Tryz.zeroValue341
  t76 := Tryz.underlying358
  a76 := Tryz.isAgg358
  z76 := Tryz.sizeOf358
  v76 := Tryz.zeroValue358
  t77 := Tryz.underlying359
  a77 := Tryz.isAgg359
  z77 := Tryz.sizeOf359
  v77 := Tryz.zeroValue359 }
end Go.Proofs
