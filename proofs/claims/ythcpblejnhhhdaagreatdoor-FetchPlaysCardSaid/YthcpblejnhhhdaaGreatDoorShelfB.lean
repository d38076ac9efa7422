/-
  DERIVED: THE SHELF's CONTRACTS AT THIS DUMP, IN PLAIN WORDS (tools/lay-plain.mjs out of 'TryzShelfB.lean', which tools/lay-shelf.mjs wrote): THE SAME DECLARATIONS UNDER THE SAME NAMES: 'import', 'namespace', 'open', 'def', 'theorem' AND NOTHING ELSE: no command of the shelf's: FOR A HAND-IN. Each laying: the table of numbers ('.._ren') and one theorem, a field a fact of the dump's own or the kernel's comparison; each contract: ONE APPLICATION.
-/
import Derived.Shelf.SlSortCmp.WholeK
import Derived.Shelf.SlSortCmp.NoneTotal
import Derived.Ground.SlsfProg
import Derived.Test.YthcpblejnhhhdaaGreatDoorProg
namespace Go.Proofs
open Go.Shelf
def Tryz.sortEdge_ren : Go.Shelf.Ren := ⟨fun | 6 => 166 | 15 => 117 | 14 => 199 | 28 => 157 | 29 => 158 | 20 => 219 | 21 => 220 | 22 => 221 | 23 => 222 | 24 => 223 | 25 => 224 | 26 => 225 | 27 => 226 | 46 => 235 | 47 => 211 | 48 => 212 | 49 => 236 | 50 => 237 | 57 => 241 | n => n, fun | 22 => 28 | 24 => 27 | 25 => 283 | 3 => 3 | 39 => 211 | 0 => 0 | 53 => 271 | 55 => 273 | 4 => 4 | 46 => 300 | 45 => 299 | 50 => 68 | 5 => 5 | 9 => 9 | 66 => 326 | 70 => 330 | 76 => 344 | 77 => 345 | n => n, fun | n => n⟩
theorem Tryz.sortEdge : Go.Proofs.SlLaysF0.n6 Tryz.prog Tryz.sortEdge_ren := {
  mixed := by kernel_rfl
  f6 := ⟨Tryz.f166.name, by decide, Tryz.func166.trans (congrArg some (by kernel_rfl))⟩
  f14 := ⟨Tryz.f199.name, by decide, Tryz.func199.trans (congrArg some (by kernel_rfl))⟩
  f15 := Tryz.func117.trans (congrArg some (by kernel_rfl))
  f20 := ⟨Tryz.f219.name, by decide, Tryz.func219.trans (congrArg some (by kernel_rfl))⟩
  f21 := ⟨Tryz.f220.name, by decide, Tryz.func220.trans (congrArg some (by kernel_rfl))⟩
  f22 := ⟨Tryz.f221.name, by decide, Tryz.func221.trans (congrArg some (by kernel_rfl))⟩
  f23 := ⟨Tryz.f222.name, by decide, Tryz.func222.trans (congrArg some (by kernel_rfl))⟩
  f24 := ⟨Tryz.f223.name, by decide, Tryz.func223.trans (congrArg some (by kernel_rfl))⟩
  f25 := ⟨Tryz.f224.name, by decide, Tryz.func224.trans (congrArg some (by kernel_rfl))⟩
  f26 := ⟨Tryz.f225.name, by decide, Tryz.func225.trans (congrArg some (by kernel_rfl))⟩
  f27 := ⟨Tryz.f226.name, by decide, Tryz.func226.trans (congrArg some (by kernel_rfl))⟩
  f28 := Tryz.func157.trans (congrArg some (by kernel_rfl))
  f29 := Tryz.func158.trans (congrArg some (by kernel_rfl))
  f46 := ⟨Tryz.f235.name, by decide, Tryz.func235.trans (congrArg some (by kernel_rfl))⟩
  f47 := Tryz.func211.trans (congrArg some (by kernel_rfl))
  f48 := Tryz.func212.trans (congrArg some (by kernel_rfl))
  f49 := ⟨Tryz.f236.name, by decide, Tryz.func236.trans (congrArg some (by kernel_rfl))⟩
  f50 := ⟨Tryz.f237.name, by decide, Tryz.func237.trans (congrArg some (by kernel_rfl))⟩
  f57 := ⟨Tryz.f241.name, by decide, Tryz.func241.trans (congrArg some (by kernel_rfl))⟩
  t0 := Tryz.underlying0
  a0 := Tryz.isAgg0
  z0 := Tryz.sizeOf0
  v0 := Tryz.zeroValue0
  t3 := Tryz.underlying3
  a3 := Tryz.isAgg3
  z3 := Tryz.sizeOf3
  v3 := Tryz.zeroValue3
  t4 := Tryz.underlying4
  a4 := Tryz.isAgg4
  z4 := Tryz.sizeOf4
  v4 := Tryz.zeroValue4
  t5 := Tryz.underlying5
  a5 := Tryz.isAgg5
  z5 := Tryz.sizeOf5
  v5 := Tryz.zeroValue5
  t9 := Tryz.underlying9
  a9 := Tryz.isAgg9
  z9 := Tryz.sizeOf9
  v9 := Tryz.zeroValue9
  t22 := Tryz.underlying28
  a22 := Tryz.isAgg28
  z22 := Tryz.sizeOf28
  v22 := Tryz.zeroValue28
  t25 := Tryz.underlying283
  a25 := Tryz.isAgg283
  z25 := Tryz.sizeOf283
  v25 := Tryz.zeroValue283
  t39 := Tryz.underlying211
  a39 := Tryz.isAgg211
  z39 := Tryz.sizeOf211
  v39 := Tryz.zeroValue211
  t45 := Tryz.underlying299
  a45 := Tryz.isAgg299
  z45 := Tryz.sizeOf299
  v45 := Tryz.zeroValue299
  t46 := Tryz.underlying300
  a46 := Tryz.isAgg300
  z46 := Tryz.sizeOf300
  v46 := Tryz.zeroValue300
  t50 := Tryz.underlying68
  a50 := Tryz.isAgg68
  z50 := Tryz.sizeOf68
  v50 := Tryz.zeroValue68
  t53 := Tryz.underlying271
  a53 := Tryz.isAgg271
  z53 := Tryz.sizeOf271
  v53 := Tryz.zeroValue271
  t55 := Tryz.underlying273
  a55 := Tryz.isAgg273
  z55 := Tryz.sizeOf273
  v55 := Tryz.zeroValue273
  t66 := Tryz.underlying326
  a66 := Tryz.isAgg326
  z66 := Tryz.sizeOf326
  v66 := Tryz.zeroValue326
  t70 := Tryz.underlying330
  a70 := Tryz.isAgg330
  z70 := Tryz.sizeOf330
  v70 := Tryz.zeroValue330
  t76 := Tryz.underlying344
  a76 := Tryz.isAgg344
  z76 := Tryz.sizeOf344
  v76 := Tryz.zeroValue344
  t77 := Tryz.underlying345
  a77 := Tryz.isAgg345
  z77 := Tryz.sizeOf345
  v77 := Tryz.zeroValue345 }
end Go.Proofs
