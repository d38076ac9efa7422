/-
  A part of the proof that two events of one line are one event: the calculus that follows known memory by computing, and its soundness. By an AI agent.
-/
import Derived.Test.YtfmmpnaljkdigaaGreatDoorSy3
set_option linter.unusedVariables false
set_option linter.unusedSimpArgs false
namespace Go.Vc
open Go
/-! ## the state, and the world -/
structure Fr3 (S : Nat → Prop) (w0 wp : World) (M : List Nat) (H : List Bk) (w : World) : Prop where
  chg : Chg S w0 w
  stp : Chg (· ∈ M) wp w
  loc : ∀ i x A, nthH H i = some x → x.cs.arr = some A → w.heap[x.b]? = some (.cells A x.T (0, 0))
  dist : ∀ i j x y, nthH H i = some x → nthH H j = some y → x.cs.arr.isSome = true → y.cs.arr.isSome = true → x.b = y.b → i = j
  new : ∀ i x, nthH H i = some x → x.wr = true → S x.b ∨ w0.heap.size ≤ x.b
theorem mem_LH : ∀ {H : List Bk} {y : Blk}, y ∈ LH H ↔ ∃ i x A, nthH H i = some x ∧ x.cs.arr = some A ∧ y = ⟨x.b, A, x.T, x.wr⟩
  | [], y => ⟨fun h => (by cases h), fun ⟨_, _, _, h, _⟩ => (by cases h)⟩
  | ⟨b, c, T, w⟩ :: H, y => by
    have ih := mem_LH (H := H) (y := y)
    unfold LH
    constructor
    · intro h
      split at h
      · rename_i A hA
        rcases List.mem_cons.1 h with rfl | h
        · exact ⟨0, _, A, rfl, hA, rfl⟩
        · obtain ⟨i, x, A, h1, h2⟩ := ih.1 h
          exact ⟨i + 1, x, A, h1, h2⟩
      · obtain ⟨i, x, A, h1, h2⟩ := ih.1 h
        exact ⟨i + 1, x, A, h1, h2⟩
    · rintro ⟨i, x, A, h1, h2, h3⟩
      cases i with
      | zero =>
        cases h1
        have h2 : c.arr = some A := h2
        rw [h2, h3]; exact List.mem_cons_self
      | succ i =>
        have := ih.2 ⟨i, x, A, h1, h2, h3⟩
        split
        · exact List.mem_cons_of_mem _ this
        · exact this
theorem LH_nodup : ∀ {H : List Bk}, (∀ i j x y, nthH H i = some x → nthH H j = some y → x.cs.arr.isSome = true → y.cs.arr.isSome = true → x.b = y.b → i = j) → ((LH H).map (·.b)).Nodup
  | [], _ => List.nodup_nil
  | ⟨b, c, T, w⟩ :: H, h => by
    have ih := LH_nodup (H := H) fun i j x y hi hj h1 h2 e => by have := h (i + 1) (j + 1) x y hi hj h1 h2 e; omega
    unfold LH
    split
    · rename_i A hA
      rw [List.map_cons, List.nodup_cons]
      refine ⟨fun hm => ?_, ih⟩
      obtain ⟨y, hy, he⟩ := List.mem_map.1 hm
      obtain ⟨j, x, A', h1, h2, rfl⟩ := mem_LH.1 hy
      have := h 0 (j + 1) ⟨b, c, T, w⟩ x rfl h1 (by show c.arr.isSome = true; rw [hA]; rfl) (by rw [h2]; rfl) he.symm
      omega
    · exact ih
section
variable {S : Nat → Prop} {w0 wp w : World} {M : List Nat} {H : List Bk}
theorem Fr3.fr (h : Fr3 S w0 wp M H w) : Fr S w0 wp M (LH H) w :=
  ⟨h.chg, h.stp, fun x hx => by
    obtain ⟨i, y, A, h1, h2, rfl⟩ := mem_LH.1 hx
    exact h.loc i y A h1 h2, LH_nodup h.dist, fun x hx hw => by
    obtain ⟨i, y, A, h1, h2, rfl⟩ := mem_LH.1 hx
    exact h.new i y h1 hw⟩
/-- H' knows of no more blocks than H, and of the same ones -/
def Weak (H' H : List Bk) : Prop := ∀ i x', nthH H' i = some x' → ∃ x, nthH H i = some x ∧ x'.b = x.b ∧ x'.wr = x.wr ∧ (x'.cs.arr.isSome = true → x.cs.arr.isSome = true)
theorem Weak.refl (H : List Bk) : Weak H H := fun _ x h => ⟨x, h, rfl, rfl, id⟩
theorem Weak.trans {A B C : List Bk} (h : Weak A B) (k : Weak B C) : Weak A C := fun i x hx => by
  obtain ⟨y, hy, h1, h2, h3⟩ := h i x hx
  obtain ⟨z, hz, h4, h5, h6⟩ := k i y hy
  exact ⟨z, hz, h1.trans h4, h2.trans h5, fun h => h6 (h3 h)⟩
theorem Weak.set {H : List Bk} {i : Nat} {c : Cs} (h : ∀ x, nthH H i = some x → c.arr.isSome = true → x.cs.arr.isSome = true) : Weak (setH H i c) H := fun j x hx => by
  rw [nthH_set] at hx
  split at hx
  · rename_i e; subst e
    cases hy : nthH H i with
    | none => rw [hy] at hx; cases hx
    | some y => rw [hy] at hx; cases hx; exact ⟨y, rfl, rfl, rfl, h y hy⟩
  · exact ⟨x, hx, rfl, rfl, id⟩
theorem Fr3.weak (h : Fr3 S w0 wp M H w) {H' : List Bk} (hw : Weak H' H) {w' : World} (u : Fs S w0 (LH H') w') : Fr3 S w0 w' [] H' w' :=
  ⟨u.chg, .refl _ _, fun i x A hi hA => u.loc ⟨x.b, A, x.T, x.wr⟩ (mem_LH.2 ⟨i, x, A, hi, hA, rfl⟩), fun i j x y hi hj hx hy e => by
    obtain ⟨x', h1, h2, _, h3⟩ := hw i x hi
    obtain ⟨y', h4, h5, _, h6⟩ := hw j y hj
    exact h.dist i j x' y' h1 h4 (h3 hx) (h6 hy) (by rw [← h2, ← h5]; exact e), fun i x hi hx => by
    obtain ⟨x', h1, h2, h3, _⟩ := hw i x hi
    rw [h2]; exact h.new i x' h1 (h3 ▸ hx)⟩
theorem Fr3.reset (h : Fr3 S w0 wp M H w) : Fr3 S w0 w [] H w := ⟨h.chg, .refl _ _, h.loc, h.dist, h.new⟩
theorem Fr3.more (h : Fr3 S w0 wp M H w) {w' : World} (g : Grow w w') : Fr3 S w0 wp M H w' :=
  ⟨h.chg.grow g, h.stp.grow g, fun i x A hi hA => g.get (h.loc i x A hi hA), h.dist, h.new⟩
theorem nthH_app (H : List Bk) (x : Bk) (i : Nat) : nthH (H ++ [x]) i = if i < H.length then nthH H i else if i = H.length then some x else none := by
  simp only [nthH_eq]
  rw [List.getElem?_append]
  split
  · rfl
  · split
    · rename_i h; subst h; simp
    · rename_i h1 h2
      rw [List.getElem?_eq_none (by simp; omega)]
theorem nthH_lt {H : List Bk} {i : Nat} {x : Bk} (h : nthH H i = some x) : i < H.length := by
  rw [nthH_eq] at h
  exact (List.getElem?_eq_some_iff.1 h).1
/-- what stays: all blocks, with their numbers; those that are locked as they are -/
def AgrH (lk : Nat → Bool) (H H' : List Bk) : Prop := ∀ i x, nthH H i = some x → ∃ x', nthH H' i = some x' ∧ x'.b = x.b ∧ x'.T = x.T ∧ x'.wr = x.wr ∧ (lk i = true → x' = x)
theorem AgrH.refl (lk : Nat → Bool) (H : List Bk) : AgrH lk H H := fun _ x h => ⟨x, h, rfl, rfl, rfl, fun _ => rfl⟩
theorem AgrH.trans {lk : Nat → Bool} {A B C : List Bk} (h : AgrH lk A B) (k : AgrH lk B C) : AgrH lk A C := fun i x hx => by
  obtain ⟨y, hy, h1, h2, h3, h4⟩ := h i x hx
  obtain ⟨z, hz, h5, h6, h7, h8⟩ := k i y hy
  exact ⟨z, hz, h5.trans h1, h6.trans h2, h7.trans h3, fun hl => (h8 hl).trans (h4 hl)⟩
theorem AgrH.mono {lk lk' : Nat → Bool} {A B : List Bk} (h : AgrH lk A B) (hl : ∀ i, lk' i = true → lk i = true) : AgrH lk' A B := fun i x hx => by
  obtain ⟨y, hy, h1, h2, h3, h4⟩ := h i x hx
  exact ⟨y, hy, h1, h2, h3, fun h => h4 (hl i h)⟩
theorem AgrH.bs {lk : Nat → Bool} {A B : List Bk} (h : AgrH lk A B) : ∀ (i b : Nat), (bsH A)[i]? = some b → (bsH B)[i]? = some b := fun i b hb => by
  rw [bsH_get] at hb ⊢
  cases hx : nthH A i with
  | none => rw [hx] at hb; cases hb
  | some x =>
    rw [hx] at hb
    obtain ⟨y, hy, h1, _⟩ := h i x hx
    rw [hy]; simp only [Option.map_some] at hb ⊢; rw [h1]; exact hb
theorem AgrH.set {lk : Nat → Bool} {H : List Bk} {i : Nat} {c : Cs} (hl : lk i = false) : AgrH lk H (setH H i c) := fun j x hx => by
  rw [nthH_set]
  split
  · rename_i e; subst e
    rw [hx]; exact ⟨_, rfl, rfl, rfl, rfl, fun h => by rw [hl] at h; cases h⟩
  · exact ⟨x, hx, rfl, rfl, rfl, fun _ => rfl⟩
theorem AgrH.app (lk : Nat → Bool) (H : List Bk) (y : Bk) : AgrH lk H (H ++ [y]) := fun i x hx => by
  rw [nthH_app, if_pos (nthH_lt hx)]; exact ⟨x, hx, rfl, rfl, rfl, fun _ => rfl⟩
theorem bsH_set (H : List Bk) (i : Nat) (c : Cs) : bsH (setH H i c) = bsH H := by
  apply List.ext_getElem?
  intro j
  rw [bsH_get, bsH_get, nthH_set]
  split
  · cases nthH H j <;> rfl
  · rfl
theorem wfH_set {bs : List Nat} {H : List Bk} (h : wfH bs H) {i : Nat} {c : Cs} (hc : ∀ cs, c = .l cs → wfCs bs cs) : wfH bs (setH H i c) := fun j x cs hx e => by
  rw [nthH_set] at hx
  split at hx
  · cases hy : nthH H j with
    | none => rw [hy] at hx; cases hx
    | some y => rw [hy] at hx; cases hx; exact hc cs e
  · exact h j x cs hx e
theorem wfH_mono {bs bs' : List Nat} (hb : ∀ (i b : Nat), bs[i]? = some b → bs'[i]? = some b) {H : List Bk} (h : wfH bs H) : wfH bs' H := fun i x cs hx e => wfCs_mono hb (h i x cs hx e)
end
structure Rel (S : Nat → Prop) (w0 : World) (σ : Sy) (w : World) : Prop where
  fr : Fr3 S w0 σ.wp σ.M σ.H w
  env : wfE (bsH σ.H) σ.env
  H : wfH (bsH σ.H) σ.H
  dy : σ.dy = false → w = σ.wp
section
variable {P : Program} {okf : Ctx} {S : Nat → Prop} {w0 : World}
theorem vis_sound {σ : Sy} {K : World → Sy → Prop} {w : World} (h : vis S w0 σ K) (r : Rel S w0 σ w) : ∃ σ', K w σ' ∧ Rel S w0 σ' w ∧ σ'.env = σ.env ∧ σ'.H = σ.H := by
  unfold vis at h
  split at h
  · rename_i hd
    rw [r.dy hd]
    exact ⟨σ, h, r.dy hd ▸ r, rfl, rfl⟩
  · exact ⟨_, h w r.fr.fr, ⟨r.fr.reset, r.env, r.H, fun _ => rfl⟩, rfl, rfl⟩
theorem hav3_elim {lk : Nat → Bool} : ∀ {hv : List Nat} {H : List Bk} {K : List Bk → Prop}, unl lk hv = true → wfH (bsH H) H → hav3 P hv H K → ∃ H', K H' ∧ AgrH lk H H' ∧ wfH (bsH H') H' ∧ bsH H' = bsH H ∧ Weak H' H
  | [], H, K, _, hw, h => ⟨H, h, .refl _ _, hw, rfl, .refl _⟩
  | i :: is, H, K, hu, hw, h => by
    simp only [unl, Bool.and_eq_true, Bool.not_eq_true'] at hu
    unfold hav3 at h
    split at h
    · rename_i b cs T hx
      split at h
      · obtain ⟨vs, h⟩ := tel_ex h
        obtain ⟨H', hK, ha, hw', hb, hk⟩ := hav3_elim hu.2 (by rw [bsH_set]; exact wfH_set hw fun cs e => by cases e; exact wfCs_cvs _ _) h
        exact ⟨H', hK, (AgrH.set hu.1).trans ha, hw', hb.trans (bsH_set _ _ _), hk.trans (.set fun x hx' _ => by rw [hx] at hx'; cases hx'; rfl)⟩
      · exact h.elim
    · rename_i b A T hx
      obtain ⟨A, h⟩ := h
      obtain ⟨H', hK, ha, hw', hb, hk⟩ := hav3_elim hu.2 (by rw [bsH_set]; exact wfH_set hw fun cs e => by cases e) h
      exact ⟨H', hK, (AgrH.set hu.1).trans ha, hw', hb.trans (bsH_set _ _ _), hk.trans (.set fun x hx' _ => by rw [hx] at hx'; cases hx'; rfl)⟩
    · exact h.elim
theorem stCells_of {b o : Nat} {T : TypeId} {K : World → Prop} : ∀ (vs : List Value) (i : Nat) (A : Array Value) (w : World), w.heap[b]? = some (.cells A T (0, 0)) → o + i + vs.length ≤ A.size → (∀ v, v ∈ vs → oneC v = true) →
    (∀ w' A', w'.heap[b]? = some (.cells A' T (0, 0)) → (∀ j : Nat, A'[j]? = if o + i ≤ j ∧ j < o + i + vs.length then vs[j - (o + i)]? else A[j]?) → Chg (· = b) w w' → K w') → stCells ⟨b, o, none⟩ i vs K w
  | [], i, A, w, hb, _, _, hK => hK w A hb (fun j => by rw [if_neg (by simp only [List.length_nil]; omega)]) (.refl _ _)
  | v :: vs, i, A, w, hb, hl, hv, hK => by
    simp only [List.length_cons] at hl
    simp only [stCells, add_mk]
    refine stC hb (by omega) (hv v List.mem_cons_self) fun w1 hb1 _ g1 => ?_
    refine stCells_of vs (i + 1) _ w1 hb1 (by simp; omega) (fun x hx => hv x (List.mem_cons_of_mem _ hx)) fun w2 A2 hb2 h2 g2 => hK w2 A2 hb2 (fun j => ?_) (g1.trans g2 fun _ _ h => h)
    rw [h2]
    simp only [List.length_cons]
    by_cases h3 : o + (i + 1) ≤ j ∧ j < o + (i + 1) + vs.length
    · rw [if_pos h3, if_pos (by omega), show j - (o + i) = j - (o + (i + 1)) + 1 by omega]; simp
    · rw [if_neg h3]
      by_cases h4 : j = o + i
      · subst h4
        rw [if_pos (by omega)]
        have : o + i < A.size := by omega
        simp [this]
      · rw [if_neg (by omega), Array.getElem?_setIfInBounds_ne (by omega)]
theorem Rel.st {σ : Sy} {w w' : World} (r : Rel S w0 σ w) {i b : Nat} {c c' : Cs} {T : TypeId} {A A' : Array Value} (hx : nthH σ.H i = some ⟨b, c, T, true⟩) (hA : c.arr = some A) (hA' : c'.arr = some A')
    (hc : ∀ cs, c' = .l cs → wfCs (bsH σ.H) cs) (hb : w'.heap[b]? = some (.cells A' T (0, 0))) (g : Chg (· = b) w w') : Rel S w0 ⟨σ.env, setH σ.H i c', b :: σ.M, σ.wp, true⟩ w' := {
  env := by show wfE (bsH (setH σ.H i c')) _; rw [bsH_set]; exact r.env
  H := by show wfH (bsH (setH σ.H i c')) _; rw [bsH_set]; exact wfH_set r.H hc
  dy := fun h => by cases h
  fr := by
    have isS : ∀ j y, nthH (setH σ.H i c') j = some y → ∃ y', nthH σ.H j = some y' ∧ y.b = y'.b ∧ y.T = y'.T ∧ y.wr = y'.wr ∧ (y.cs.arr.isSome = true → y'.cs.arr.isSome = true) ∧ (j = i ∧ y.cs = c' ∨ j ≠ i ∧ y = y') := by
      intro j y hy
      rw [nthH_set] at hy
      split at hy
      · rename_i e; subst e
        rw [hx] at hy; cases hy
        exact ⟨_, hx, rfl, rfl, rfl, fun _ => by show c.arr.isSome = true; rw [hA]; rfl, .inl ⟨rfl, rfl⟩⟩
      · rename_i e
        exact ⟨y, hy, rfl, rfl, rfl, id, .inr ⟨fun h => e h.symm, rfl⟩⟩
    refine ⟨r.fr.chg.trans g fun k hk e => ?_, (r.fr.stp.mono fun k _ h => List.mem_cons_of_mem _ h).trans g fun k _ e => by subst e; exact List.mem_cons_self, fun j y A₁ hy hA₁ => ?_, fun j k y z hy hz h1 h2 e => ?_, fun j y hy hw => ?_⟩
    · subst e
      rcases r.fr.new i _ hx rfl with h | h
      · exact h
      · exact absurd hk (Nat.not_lt.2 h)
    · obtain ⟨y', h1, h2, h3, _, _, h6 | h6⟩ := isS j y hy
      · obtain ⟨rfl, h6⟩ := h6
        rw [hx] at h1; cases h1
        rw [h6, hA'] at hA₁; cases hA₁
        rw [h2, h3]; exact hb
      · obtain ⟨hne, rfl⟩ := h6
        refine g.get (r.fr.loc j y A₁ h1 hA₁) fun e => hne ?_
        exact r.fr.dist j i _ _ h1 hx (by rw [hA₁]; rfl) (by show c.arr.isSome = true; rw [hA]; rfl) e
    · obtain ⟨y', a1, a2, _, _, a5, _⟩ := isS j y hy
      obtain ⟨z', b1, b2, _, _, b5, _⟩ := isS k z hz
      exact r.fr.dist j k y' z' a1 b1 (a5 h1) (b5 h2) (by rw [← a2, ← b2]; exact e)
    · obtain ⟨y', a1, a2, _, a4, _⟩ := isS j y hy
      rw [a2]; exact r.fr.new j y' a1 (a4 ▸ hw) }
theorem Rel.nw {σ : Sy} {w w' : World} (r : Rel S w0 σ w) {cs : List Cel} {T : TypeId} (hc : wfCs (bsH σ.H) cs) (hb : w'.heap[w.heap.size]? = some (.cells ⟨denCs cs⟩ T (0, 0))) (g : Grow w w') :
    Rel S w0 ⟨σ.env, σ.H ++ [⟨w.heap.size, .l cs, T, true⟩], σ.M, σ.wp, true⟩ w' ∧ σ.wp.heap.size ≤ w.heap.size := by
  have hbs : ∀ (i b : Nat), (bsH σ.H)[i]? = some b → (bsH (σ.H ++ [⟨w.heap.size, .l cs, T, true⟩]))[i]? = some b := (AgrH.app (fun _ => true) _ _).bs
  have case : ∀ i x, nthH (σ.H ++ [⟨w.heap.size, .l cs, T, true⟩]) i = some x → (nthH σ.H i = some x) ∨ (i = σ.H.length ∧ x = ⟨w.heap.size, .l cs, T, true⟩) := by
    intro i x hx
    rw [nthH_app] at hx
    split at hx
    · exact .inl hx
    · split at hx
      · rename_i e; cases hx; exact .inr ⟨e, rfl⟩
      · cases hx
  refine ⟨⟨⟨r.fr.chg.grow g, r.fr.stp.grow g, fun i x A hx hA => ?_, fun i j x y hx hy h1 h2 e => ?_, fun i x hx hw => ?_⟩, wfE_mono hbs r.env, fun i x c hx e => ?_, fun h => by cases h⟩, r.fr.stp.size⟩
  · rcases case i x hx with h | ⟨_, rfl⟩
    · exact g.get (r.fr.loc i x A h hA)
    · cases hA; exact hb
  · have lt : ∀ i x, nthH σ.H i = some x → x.cs.arr.isSome = true → x.b < w.heap.size := fun i x hx h => by
      cases hA : x.cs.arr with
      | none => rw [hA] at h; cases h
      | some A => exact heap_lt (r.fr.loc i x A hx hA)
    rcases case i x hx with h | ⟨h, rfl⟩ <;> rcases case j y hy with h' | ⟨h', rfl⟩
    · exact r.fr.dist i j x y h h' h1 h2 e
    · have := lt i x h h1; simp only [] at e; omega
    · have := lt j y h' h2; simp only [] at e; omega
    · rw [h, h']
  · rcases case i x hx with h | ⟨_, rfl⟩
    · exact r.fr.new i x h hw
    · exact .inr r.fr.chg.size
  · rcases case i x hx with h | ⟨_, rfl⟩
    · exact wfCs_mono hbs (r.H i x c h e)
    · cases e; exact wfCs_mono hbs hc
end
end Go.Vc
