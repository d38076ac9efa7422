/-
  A part of the proof that two events of one line are one event: the calculus that follows known memory by computing, and its soundness. By an AI agent.
-/
import Derived.OrdersHeld
set_option linter.unusedVariables false
set_option linter.unusedSimpArgs false
namespace Go.Vc
open Go
/-! A region whose order is open, S kept by every operation but one that waits for all the others. -/
section
variable {P : Program} {ops : Array Oper} {Q : Exit → Act → World → Prop} {S : World → Prop}
/-- Operation i waits for each other one. -/
def isLast (ops : Array Oper) (i : Nat) : Bool :=
  match ops[i]? with
  | none => false
  | some o => (List.range ops.size).all fun j => j == i || o.after.any fun e => Region.binds .any e && e.on == j
theorem isLast_waits {i j : Nat} {o : Oper} (ho : ops[i]? = some o) (hl : isLast ops i = true) (hj : j < ops.size) (hne : j ≠ i) :
    ∃ e, e ∈ o.after ∧ Region.binds .any e = true ∧ e.on = j := by
  simp only [isLast, ho, List.all_eq_true, List.mem_range] at hl
  have := hl j hj
  simp only [Bool.or_eq_true, beq_iff_eq, Array.any_eq_true] at this
  rcases this with h | ⟨k, hk, h⟩
  · exact absurd h hne
  · simp only [Bool.and_eq_true, beq_iff_eq] at h
    exact ⟨_, Array.getElem_mem hk, h.1, h.2⟩
theorem isLast_end {i : Nat} {listed : Array Bool} (hl : isLast ops i = true) (hr : i ∈ Region.ready .any ops listed) : Region.ready .any ops (listed.setIfInBounds i true) = [] := by
  rcases hx : Region.ready .any ops (listed.setIfInBounds i true) with _ | ⟨j, js⟩
  · rfl
  · exfalso
    have hj : j ∈ Region.ready .any ops (listed.setIfInBounds i true) := by rw [hx]; simp
    obtain ⟨hu, oj, hoj, _⟩ := mem_ready.1 hj
    obtain ⟨hui, oi, hoi, hall⟩ := mem_ready.1 hr
    have hjs : j < ops.size := by
      rcases Nat.lt_or_ge j ops.size with h | h
      · exact h
      · simp [Array.getElem?_eq_none h] at hoj
    by_cases e : j = i
    · subst e
      by_cases hb : j < listed.size
      · simp [hb] at hu
      · simp [Array.getElem?_eq_none (Nat.le_of_not_lt hb)] at hui
    · obtain ⟨e', he', hb, hon⟩ := isLast_waits hoi hl hjs e
      have h1 := hall e' he' hb
      rw [getD_set_ne true (Ne.symm e)] at hu
      rw [hon] at h1
      by_cases hb : j < listed.size
      · simp [hb] at h1 hu; rw [h1] at hu; cases hu
      · simp [Array.getElem?_eq_none (Nat.le_of_not_lt hb)] at h1
def anyL (P : Program) (ops : Array Oper) (Q : Exit → Act → World → Prop) (S : World → Prop) : Nat → Array Bool → Act → World → Prop
  | 0, listed, a, w => Region.ready .any ops listed = [] ∧ Q .normal a w
  | n + 1, listed, a, w =>
    (Region.ready .any ops listed = [] → Q .normal a w) ∧
    ∀ i, i ∈ Region.ready .any ops listed → wpOp P ops Q i (fun a w => (isLast ops i = true ∨ S w) ∧ anyL P ops Q S n (listed.setIfInBounds i true) a w) a w
theorem anyL_sound : ∀ (n : Nat) (listed : Array Bool) (a : Act) (w : World), anyL P ops Q S n listed a w → wpAny P .any ops Q n listed a w
  | 0, _, _, _, h => h
  | n + 1, _, _, _, h => ⟨h.1, fun i hi => wpOp_mono (fun a w hw => anyL_sound n _ a w hw.2) (h.2 i hi)⟩
/-- The first of those that may come up is taken, if its value does not hang on what the others do. -/
theorem anyL_first {i : Nat} {oi : Oper} {v : Value} (hi : ops[i]? = some oi) (hns : Region.noSelect ops = true)
    (hQ : ∀ c a w, Q (.panic c) (a.put oi.dst v) w → Q (.panic c) a w) :
    ∀ (n : Nat) (listed : Array Bool) (a : Act) (w : World),
      (∀ j oj, ops[j]? = some oj → j ≠ i → listed.getD j true = false → (∀ e ∈ oj.after, Region.binds .any e = true → e.on ≠ i) → oi.apart ops oj = true) →
      i ∈ Region.ready .any ops listed → YieldsIf P ops S oi v a → S w →
      anyL P ops Q S n (listed.setIfInBounds i true) (a.put oi.dst v) w → anyL P ops Q S (n + 1) listed a w := by
  have his : i < ops.size := by
    rcases Nat.lt_or_ge i ops.size with h | h
    · exact h
    · simp [Array.getElem?_eq_none h] at hi
  -- whoever may come up beside i does not wait for i
  have free : ∀ {listed : Array Bool} {j : Nat} {oj : Oper}, i ∈ Region.ready .any ops listed → j ∈ Region.ready .any ops listed → ops[j]? = some oj →
      ∀ e ∈ oj.after, Region.binds .any e = true → e.on ≠ i := by
    intro listed j oj hri hrj hoj e he hb heq
    obtain ⟨_, oj', hoj', hall⟩ := mem_ready.1 hrj
    obtain rfl : oj = oj' := by rw [hoj] at hoj'; exact Option.some.inj hoj'
    have h1 := hall e he hb
    rw [heq] at h1
    have h0 := (mem_ready.1 hri).1
    by_cases hb : i < listed.size
    · simp [hb] at h0 h1; rw [h0] at h1; cases h1
    · simp [Array.getElem?_eq_none (Nat.le_of_not_lt hb)] at h1
  intro n
  induction n with
  | zero =>
    intro listed a w _ hr hy hS H
    refine ⟨fun h => absurd hr (by rw [h]; simp), fun j hj => ?_⟩
    by_cases e : j = i
    · subst e; exact hy.wpOp hi hS ⟨.inr hS, H⟩
    · exact absurd (ready_mono hj e) (by rw [H.1]; simp)
  | succ n ih =>
    intro listed a w hap hr hy hS H
    refine ⟨fun h => absurd hr (by rw [h]; simp), fun j hj => ?_⟩
    by_cases e : j = i
    · subst e; exact hy.wpOp hi hS ⟨.inr hS, H⟩
    · obtain ⟨hun, oj, hoj, _⟩ := mem_ready.1 hj
      have hw := free hr hj hoj
      have hnl : ¬ isLast ops j = true := fun hl => by
        obtain ⟨e', he', hb, hon⟩ := isLast_waits hoj hl his (Ne.symm e)
        exact hw e' he' hb hon
      have hs := Region.noSelect_spec hns
      have step := wpOp_putIf hoj (hap j oj hoj e hun hw) (fun cs b => hs i oi cs b hi) (fun cs b => hs j oj cs b hoj) hQ hy (H.2 j (ready_mono hj e))
      refine wpOp_mono ?_ step
      rintro a' w' ⟨hy', hS', h'⟩
      have hSw : S w' := hS'.resolve_left hnl
      refine ⟨.inr hSw, ih _ a' w' ?_ (ready_mono hr (Ne.symm e)) hy' hSw ?_⟩
      · intro k ok hk hki hu hno
        refine hap k ok hk hki ?_ hno
        by_cases hjk : j = k
        · subst hjk; exact hun
        · rwa [getD_set_ne true hjk] at hu
      · rw [Array.setIfInBounds_comm _ _ e]; exact h'
theorem anyL_all {rs : List Nat} {n : Nat} {listed : Array Bool} {a : Act} {w : World} (hr : Region.ready .any ops listed = rs) (hne : rs ≠ [])
    (h : ∀ i, i ∈ rs → wpOp P ops Q i (fun a w => (isLast ops i = true ∨ S w) ∧ anyL P ops Q S n (listed.setIfInBounds i true) a w) a w) : anyL P ops Q S (n + 1) listed a w :=
  ⟨fun h0 => absurd (hr ▸ h0) hne, fun i hi => h i (hr ▸ hi)⟩
theorem anyL_done {listed : Array Bool} {a : Act} {w : World} (hr : Region.ready .any ops listed = []) (h : Q .normal a w) : ∀ n, anyL P ops Q S n listed a w
  | 0 => ⟨hr, h⟩
  | _ + 1 => ⟨fun _ => h, fun i hi => absurd hi (by rw [hr]; simp)⟩
end
end Go.Vc
