/-
  A part of the proof that two events of one line are one event: the calculus that follows known memory by computing, and its soundness. By an AI agent.
-/
import Derived.Test.YtfmmpnaljkdigaaGreatDoorLb3
set_option linter.unusedVariables false
set_option linter.unusedSimpArgs false
namespace Go.Vc
open Go
section
variable {P : Program}
/-- 'make([]T, n)', T of one cell. -/
theorem sv_makeSlice {ts e : TypeId} {i : TypeInfo} {z : Value} {by_ : Nat} (hu : P.underlying ts = some (.slice e)) (hi : P.info? e = some i) (hz : i.zero = some z) (hzc : z.cells = #[z]) (hk : i.size = 1) (hb : i.bytes = by_)
    {w : World} {n : Int} {K : Value → World → Prop} (h0 : 0 ≤ n) (hn : by_ * n ≤ 281474976710656) (hm : n ≤ 9223372036854775807)
    (hK : ∀ b w', b = w.heap.size → w'.heap.size = b + 1 → Grow w w' → Own e 1 w' (some ⟨b, 0, none⟩) n.toNat (List.replicate n.toNat z) → K (.slice (some ⟨b, 0, none⟩) n.toNat n.toNat) w') :
    sv P (Instr.makeSlice ts (.int .i64 n) (.int .i64 n)) K w := by
  subst hb
  have hw := wrap_id (n := n) (by omega) hm
  have hlt : ¬ ((i.bytes : Int) * n > 2 ^ 48) := by
    have : (2 : Int) ^ 48 = 281474976710656 := by decide
    omega
  unfold Instr.makeSlice
  simp only [sv_bind, sv_underlying hu, asInt, asIntOf, sv_pure, sv_typeInfo hi, hw, sv_ite, sv_askRoom, sv_sizeOf hi, hk, Nat.mul_one]
  have h1 : ¬ n < 0 := by omega
  have h2 : ¬ n > n := by omega
  simp only [h1, h2, hlt, decide_false, Bool.or_self, Bool.false_eq_true, if_false]
  have key : ∀ (cs : Array Value), cs = (List.replicate n.toNat z).toArray → sv P (newRow e cs) (fun a w => K (.slice (some a) n.toNat n.toNat) w) w := by
    intro cs hcs
    subst hcs
    unfold newRow
    rw [sv_bind, sv_newObj]
    refine newV fun b w' hb hb' hs g => hK b w' hb hs g (.inr ⟨b, 0, _, rfl, hb', by simp, by omega, by simp, fun j hj => by simp at hj; simp [hj]⟩)
  by_cases hz0 : n.toNat = 0
  · rw [if_pos hz0]
    refine key _ ?_
    rw [hz0]; apply Array.toList_inj.1; simp
  · rw [if_neg hz0, sv_zeroValue hi hz]
    refine key _ ?_
    apply Array.toList_inj.1
    rw [hzc]
    simp
    apply List.ext_getElem
    · simp
    · intro j h1 h2; simp [Nat.mod_one]
end
end Go.Vc
