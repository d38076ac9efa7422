/-
  What the law's own helpers same and great answer. By an AI agent.
-/
import Derived.Test.YtfmmpnaljkdigaaGreatDoorLin4
set_option linter.unusedSimpArgs false
set_option maxRecDepth 100000
set_option linter.unusedVariables false
namespace Go.Vc
open Go
/-! ## whether two events are one -/
theorem Sl.rdG {w : World} {q : Option Addr} {xs : List Value} (h : Sl w q xs) {n : Int} {l : Nat} {v : Value} {K : Addr → Prop} (hl : l = xs.length) (h0 : 0 ≤ n) (hv : xs[n.toNat]? = some v)
    (hK : ∀ a, (∀ w', Grow w w' → w'.cell? a = some v) → K a) : Dr q (fun a => 0 ≤ n ∧ n < ((l : Nat) : Int) ∧ Dr (some (Addr.add a (n.toNat * 1))) K) := by
  subst hl
  have hl : n.toNat < xs.length := by
    rcases Nat.lt_or_ge n.toNat xs.length with hl | hl
    · exact hl
    · simp [List.getElem?_eq_none hl] at hv
  rcases h with h | ⟨b, o, rfl, h⟩
  · subst h; simp at hl
  refine Dr_some.2 ⟨h0, by omega, Dr_some.2 ?_⟩
  rw [add_mk, Nat.mul_one]
  exact hK _ fun w' g => (h.keep g id).cell hv
end Go.Vc
