/-
  DERIVED: THE SHELF's CONTRACTS AT THIS DUMP, IN PLAIN WORDS (tools/lay-plain.mjs out of 'TryzShelfB.lean', which tools/lay-shelf.mjs wrote): THE SAME DECLARATIONS UNDER THE SAME NAMES: 'import', 'namespace', 'open', 'def', 'theorem' AND NOTHING ELSE: no command of the shelf's: FOR A HAND-IN. Each laying: the table of numbers ('.._ren') and one theorem, a field a fact of the dump's own or the kernel's comparison; each contract: ONE APPLICATION.
-/
import Derived.Shelf.SlSortCmp.WholeK
import Derived.Shelf.SlSortCmp.NoneTotal
import Derived.Ground.SlsfProg
import Derived.Test.YthcpblejnhhhdaaGreatProg
namespace Go.Proofs
open Go.Shelf
def Tryz.sortEdge_ren : Go.Shelf.Ren := ⟨fun | 6 => 108 | 15 => 105 | 14 => 147 | 28 => 144 | 29 => 145 | 20 => 180 | 21 => 181 | 22 => 182 | 23 => 183 | 24 => 184 | 25 => 185 | 26 => 186 | 27 => 187 | 46 => 202 | 47 => 196 | 48 => 197 | 49 => 203 | 50 => 204 | 57 => 210 | n => n, fun | 22 => 22 | 24 => 56 | 25 => 214 | 3 => 3 | 39 => 210 | 0 => 0 | 53 => 254 | 55 => 256 | 4 => 4 | 46 => 275 | 45 => 274 | 50 => 71 | 5 => 5 | 9 => 9 | 66 => 300 | 70 => 304 | 76 => 312 | 77 => 313 | n => n, fun | n => n⟩
theorem Tryz.sortEdge : Go.Proofs.SlLaysF0.n6 Tryz.prog Tryz.sortEdge_ren := {
  mixed := by kernel_rfl
  f6 := ⟨Tryz.f108.name, by decide, Tryz.func108.trans (congrArg some (by kernel_rfl))⟩
  f14 := ⟨Tryz.f147.name, by decide, Tryz.func147.trans (congrArg some (by kernel_rfl))⟩
  f15 := Tryz.func105.trans (congrArg some (by kernel_rfl))
  f20 := ⟨Tryz.f180.name, by decide, Tryz.func180.trans (congrArg some (by kernel_rfl))⟩
  f21 := ⟨Tryz.f181.name, by decide, Tryz.func181.trans (congrArg some (by kernel_rfl))⟩
  f22 := ⟨Tryz.f182.name, by decide, Tryz.func182.trans (congrArg some (by kernel_rfl))⟩
  f23 := ⟨Tryz.f183.name, by decide, Tryz.func183.trans (congrArg some (by kernel_rfl))⟩
  f24 := ⟨Tryz.f184.name, by decide, Tryz.func184.trans (congrArg some (by kernel_rfl))⟩
  f25 := ⟨Tryz.f185.name, by decide, Tryz.func185.trans (congrArg some (by kernel_rfl))⟩
  f26 := ⟨Tryz.f186.name, by decide, Tryz.func186.trans (congrArg some (by kernel_rfl))⟩
  f27 := ⟨Tryz.f187.name, by decide, Tryz.func187.trans (congrArg some (by kernel_rfl))⟩
  f28 := Tryz.func144.trans (congrArg some (by kernel_rfl))
  f29 := Tryz.func145.trans (congrArg some (by kernel_rfl))
  f46 := ⟨Tryz.f202.name, by decide, Tryz.func202.trans (congrArg some (by kernel_rfl))⟩
  f47 := Tryz.func196.trans (congrArg some (by kernel_rfl))
  f48 := Tryz.func197.trans (congrArg some (by kernel_rfl))
  f49 := ⟨Tryz.f203.name, by decide, Tryz.func203.trans (congrArg some (by kernel_rfl))⟩
  f50 := ⟨Tryz.f204.name, by decide, Tryz.func204.trans (congrArg some (by kernel_rfl))⟩
  f57 := ⟨Tryz.f210.name, by decide, Tryz.func210.trans (congrArg some (by kernel_rfl))⟩
  t0 := Tryz.underlying0
  a0 := Tryz.isAgg0
  z0 := Tryz.sizeOf0
  v0 := Tryz.zeroValue0
  t3 := Tryz.underlying3
  a3 := Tryz.isAgg3
  z3 := Tryz.sizeOf3
  v3 := Tryz.zeroValue3
  t4 := Tryz.underlying4
  a4 := Tryz.isAgg4
  z4 := Tryz.sizeOf4
  v4 := Tryz.zeroValue4
  t5 := Tryz.underlying5
  a5 := Tryz.isAgg5
  z5 := Tryz.sizeOf5
  v5 := Tryz.zeroValue5
  t9 := Tryz.underlying9
  a9 := Tryz.isAgg9
  z9 := Tryz.sizeOf9
  v9 := Tryz.zeroValue9
  t22 := Tryz.underlying22
  a22 := Tryz.isAgg22
  z22 := Tryz.sizeOf22
  v22 := Tryz.zeroValue22
  t25 := Tryz.underlying214
  a25 := Tryz.isAgg214
  z25 := Tryz.sizeOf214
  v25 := Tryz.zeroValue214
  t39 := Tryz.underlying210
  a39 := Tryz.isAgg210
  z39 := Tryz.sizeOf210
  v39 := Tryz.zeroValue210
  t45 := Tryz.underlying274
  a45 := Tryz.isAgg274
  z45 := Tryz.sizeOf274
  v45 := Tryz.zeroValue274
  t46 := Tryz.underlying275
  a46 := Tryz.isAgg275
  z46 := Tryz.sizeOf275
  v46 := Tryz.zeroValue275
  t50 := Tryz.underlying71
  a50 := Tryz.isAgg71
  z50 := Tryz.sizeOf71
  v50 := Tryz.zeroValue71
  t53 := Tryz.underlying254
  a53 := Tryz.isAgg254
  z53 := Tryz.sizeOf254
  v53 := Tryz.zeroValue254
  t55 := Tryz.underlying256
  a55 := Tryz.isAgg256
  z55 := Tryz.sizeOf256
  v55 := Tryz.zeroValue256
  t66 := Tryz.underlying300
  a66 := Tryz.isAgg300
  z66 := Tryz.sizeOf300
  v66 := Tryz.zeroValue300
  t70 := Tryz.underlying304
  a70 := Tryz.isAgg304
  z70 := Tryz.sizeOf304
  v70 := Tryz.zeroValue304
  t76 := Tryz.underlying312
  a76 := Tryz.isAgg312
  z76 := Tryz.sizeOf312
  v76 := Tryz.zeroValue312
  t77 := Tryz.underlying313
  a77 := Tryz.isAgg313
  z77 := Tryz.sizeOf313
  v77 := Tryz.zeroValue313 }
end Go.Proofs
