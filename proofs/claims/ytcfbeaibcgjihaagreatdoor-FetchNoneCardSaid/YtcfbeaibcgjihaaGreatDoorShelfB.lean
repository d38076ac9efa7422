/-
  DERIVED: THE SHELF's CONTRACTS AT THIS DUMP, IN PLAIN WORDS (tools/lay-plain.mjs out of 'TryzShelfB.lean', which tools/lay-shelf.mjs wrote): THE SAME DECLARATIONS UNDER THE SAME NAMES: 'import', 'namespace', 'open', 'def', 'theorem' AND NOTHING ELSE: no command of the shelf's: FOR A HAND-IN. Each laying: the table of numbers ('.._ren') and one theorem, a field a fact of the dump's own or the kernel's comparison; each contract: ONE APPLICATION.
-/
import Derived.Shelf.SlSortCmp.WholeK
import Derived.Shelf.SlSortCmp.NoneTotal
import Derived.Ground.SlsfProg
import Derived.Test.YtcfbeaibcgjihaaGreatDoorProg
namespace Go.Proofs
open Go.Shelf
def Tryz.sortEdge_ren : Go.Shelf.Ren := ⟨fun | 6 => 225 | 15 => 179 | 14 => 261 | 28 => 221 | 29 => 222 | 20 => 279 | 21 => 280 | 22 => 281 | 23 => 282 | 24 => 283 | 25 => 284 | 26 => 285 | 27 => 286 | 46 => 294 | 47 => 270 | 48 => 271 | 49 => 295 | 50 => 296 | 57 => 299 | n => n, fun | 22 => 28 | 24 => 27 | 25 => 346 | 3 => 3 | 39 => 285 | 0 => 0 | 53 => 330 | 55 => 342 | 4 => 4 | 46 => 362 | 45 => 361 | 50 => 94 | 5 => 5 | 9 => 9 | 66 => 388 | 70 => 392 | 76 => 404 | 77 => 405 | n => n, fun | n => n⟩
theorem Tryz.sortEdge : Go.Proofs.SlLaysF0.n6 Tryz.prog Tryz.sortEdge_ren := {
  mixed := by kernel_rfl
  f6 := ⟨Tryz.f225.name, by decide, Tryz.func225.trans (congrArg some (by kernel_rfl))⟩
  f14 := ⟨Tryz.f261.name, by decide, Tryz.func261.trans (congrArg some (by kernel_rfl))⟩
  f15 := Tryz.func179.trans (congrArg some (by kernel_rfl))
  f20 := ⟨Tryz.f279.name, by decide, Tryz.func279.trans (congrArg some (by kernel_rfl))⟩
  f21 := ⟨Tryz.f280.name, by decide, Tryz.func280.trans (congrArg some (by kernel_rfl))⟩
  f22 := ⟨Tryz.f281.name, by decide, Tryz.func281.trans (congrArg some (by kernel_rfl))⟩
  f23 := ⟨Tryz.f282.name, by decide, Tryz.func282.trans (congrArg some (by kernel_rfl))⟩
  f24 := ⟨Tryz.f283.name, by decide, Tryz.func283.trans (congrArg some (by kernel_rfl))⟩
  f25 := ⟨Tryz.f284.name, by decide, Tryz.func284.trans (congrArg some (by kernel_rfl))⟩
  f26 := ⟨Tryz.f285.name, by decide, Tryz.func285.trans (congrArg some (by kernel_rfl))⟩
  f27 := ⟨Tryz.f286.name, by decide, Tryz.func286.trans (congrArg some (by kernel_rfl))⟩
  f28 := Tryz.func221.trans (congrArg some (by kernel_rfl))
  f29 := Tryz.func222.trans (congrArg some (by kernel_rfl))
  f46 := ⟨Tryz.f294.name, by decide, Tryz.func294.trans (congrArg some (by kernel_rfl))⟩
  f47 := Tryz.func270.trans (congrArg some (by kernel_rfl))
  f48 := Tryz.func271.trans (congrArg some (by kernel_rfl))
  f49 := ⟨Tryz.f295.name, by decide, Tryz.func295.trans (congrArg some (by kernel_rfl))⟩
  f50 := ⟨Tryz.f296.name, by decide, Tryz.func296.trans (congrArg some (by kernel_rfl))⟩
  f57 := ⟨Tryz.f299.name, by decide, Tryz.func299.trans (congrArg some (by kernel_rfl))⟩
  t0 := Tryz.underlying0
  a0 := Tryz.isAgg0
  z0 := Tryz.sizeOf0
  v0 := Tryz.zeroValue0
  t3 := Tryz.underlying3
  a3 := Tryz.isAgg3
  z3 := Tryz.sizeOf3
  v3 := Tryz.zeroValue3
  t4 := Tryz.underlying4
  a4 := Tryz.isAgg4
  z4 := Tryz.sizeOf4
  v4 := Tryz.zeroValue4
  t5 := Tryz.underlying5
  a5 := Tryz.isAgg5
  z5 := Tryz.sizeOf5
  v5 := Tryz.zeroValue5
  t9 := Tryz.underlying9
  a9 := Tryz.isAgg9
  z9 := Tryz.sizeOf9
  v9 := Tryz.zeroValue9
  t22 := Tryz.underlying28
  a22 := Tryz.isAgg28
  z22 := Tryz.sizeOf28
  v22 := Tryz.zeroValue28
  t25 := Tryz.underlying346
  a25 := Tryz.isAgg346
  z25 := Tryz.sizeOf346
  v25 := Tryz.zeroValue346
  t39 := Tryz.underlying285
  a39 := Tryz.isAgg285
  z39 := Tryz.sizeOf285
  v39 := Tryz.zeroValue285
  t45 := Tryz.underlying361
  a45 := Tryz.isAgg361
  z45 := Tryz.sizeOf361
  v45 := Tryz.zeroValue361
  t46 := Tryz.underlying362
  a46 := Tryz.isAgg362
  z46 := Tryz.sizeOf362
  v46 := Tryz.zeroValue362
  t50 := Tryz.underlying94
  a50 := Tryz.isAgg94
  z50 := Tryz.sizeOf94
  v50 := Tryz.zeroValue94
  t53 := Tryz.underlying330
  a53 := Tryz.isAgg330
  z53 := Tryz.sizeOf330
  v53 := Tryz.zeroValue330
  t55 := Tryz.underlying342
  a55 := Tryz.isAgg342
  z55 := Tryz.sizeOf342
  v55 := Tryz.zeroValue342
  t66 := Tryz.underlying388
  a66 := Tryz.isAgg388
  z66 := Tryz.sizeOf388
  v66 := Tryz.zeroValue388
  t70 := Tryz.underlying392
  a70 := Tryz.isAgg392
  z70 := Tryz.sizeOf392
  v70 := Tryz.zeroValue392
  t76 := Tryz.underlying404
  a76 := Tryz.isAgg404
  z76 := Tryz.sizeOf404
  v76 := Tryz.zeroValue404
  t77 := Tryz.underlying405
  a77 := Tryz.isAgg405
  z77 := Tryz.sizeOf405
  v77 := Tryz.zeroValue405 }
end Go.Proofs
