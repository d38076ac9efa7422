/-
  A part of the proof that two events of one line are one event: the calculus that follows known memory by computing, and its soundness. By an AI agent.
-/
import Derived.Test.YtfmmpnaljkdigaaGreatDoorSy8
import Derived.KernelRfl
import Derived.Test.YtfmmpnaljkdigaaGreatDoorProg
set_option linter.unusedVariables false
set_option linter.unusedSimpArgs false
set_option maxRecDepth 100000
namespace Go.Vc
open Go
/-- the functions that have a body -/
def okL : List Nat := [2, 3, 4, 5, 6, 7, 8, 9, 10, 11, 12, 13, 14, 15, 16, 17, 18, 19, 20, 21, 22, 23, 24, 25, 26, 27, 28, 29, 30, 31, 32, 36, 37, 38, 39, 40, 41, 42, 43, 44, 45, 46, 47, 48, 49, 50, 51, 52, 53, 57, 58, 60, 61, 62, 63, 64, 65, 66, 67, 68, 69, 70, 73, 74, 75, 76, 77, 78, 80, 81, 82, 83, 84, 85, 86, 88, 89, 90, 91, 92, 93, 113, 131, 133, 146]
theorem okL_all : okL.all (okFn Go.Proofs.Tryz.prog) = true := by kernel_rfl
theorem okL_ok : ∀ n, okL.contains n = true → okFn Go.Proofs.Tryz.prog n = true := fun n h =>
  List.all_eq_true.1 okL_all n (by simpa using h)
end Go.Vc
