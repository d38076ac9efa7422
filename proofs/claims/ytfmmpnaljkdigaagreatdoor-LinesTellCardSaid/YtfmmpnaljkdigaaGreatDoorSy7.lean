/-
  A part of the proof that two events of one line are one event: the calculus that follows known memory by computing, and its soundness. By an AI agent.
-/
import Derived.Test.YtfmmpnaljkdigaaGreatDoorSy6
set_option linter.unusedVariables false
set_option linter.unusedSimpArgs false
namespace Go.Vc
open Go
section
variable {P : Program} {okf : Ctx} (hok : ∀ n, okf.fns.contains n = true → okFn P n = true) {S : Nat → Prop} {w0 : World} {nE : Nat} {Q : Exit → Act → World → Prop}
theorem forget1_get (keep : List Nat) (nE : Nat) (lk : Nat → Bool) : ∀ (H : List Bk) (i j : Nat) (x' : Bk), nthH (forget1 keep nE lk i H) j = some x' →
    ∃ x, nthH H j = some x ∧ x'.b = x.b ∧ x'.T = x.T ∧ x'.wr = x.wr ∧ (x' = x ∨ lk (i + j) = false ∧ x'.cs = .x)
  | [], i, j, x', h => by cases h
  | ⟨b, c, T, w⟩ :: H, i, 0, x', h => by
    simp only [forget1] at h
    refine ⟨_, rfl, ?_⟩
    split at h
    · cases h; exact ⟨rfl, rfl, rfl, .inl rfl⟩
    · rename_i hh
      cases h
      simp only [Bool.or_eq_false_iff] at hh
      exact ⟨rfl, rfl, rfl, .inr ⟨hh.2, rfl⟩⟩
  | ⟨b, c, T, w⟩ :: H, i, j + 1, x', h => by
    simp only [forget1] at h
    have h : nthH (forget1 keep nE lk (i + 1) H) j = some x' := by split at h <;> exact h
    obtain ⟨x, h1, h2⟩ := forget1_get keep nE lk H (i + 1) j x' h
    rw [show i + 1 + j = i + (j + 1) by omega] at h2
    exact ⟨x, h1, h2⟩
theorem forget1_len (keep : List Nat) (nE : Nat) (lk : Nat → Bool) : ∀ (H : List Bk) (i : Nat), (forget1 keep nE lk i H).length = H.length
  | [], i => rfl
  | ⟨b, c, T, w⟩ :: H, i => by simp [forget1, forget1_len keep nE lk H]
/-- the same state, told with less -/
theorem Rel.less {σ : Sy} {w : World} (r : Rel S w0 σ w) {H' : List Bk} (hl : H'.length = σ.H.length)
    (h : ∀ j x', nthH H' j = some x' → ∃ x, nthH σ.H j = some x ∧ x'.b = x.b ∧ x'.T = x.T ∧ x'.wr = x.wr ∧ (x' = x ∨ x'.cs = .x)) : Rel S w0 ⟨σ.env, H', σ.M, σ.wp, σ.dy⟩ w ∧ bsH H' = bsH σ.H := by
  have hb : bsH H' = bsH σ.H := by
    apply List.ext_getElem?
    intro j
    rw [bsH_get, bsH_get]
    cases hx : nthH H' j with
    | none =>
      have : nthH σ.H j = none := by
        rw [nthH_eq] at hx ⊢
        rw [List.getElem?_eq_none_iff] at hx ⊢; omega
      rw [this]
    | some x' =>
      obtain ⟨x, h1, h2, _⟩ := h j x' hx
      rw [h1]; simp [h2]
  refine ⟨⟨⟨r.fr.chg, r.fr.stp, fun i x' A hx hA => ?_, fun i j x y hx hy h1 h2 e => ?_, fun i x' hx hw => ?_⟩, by show wfE (bsH H') _; rw [hb]; exact r.env, fun i x' cs hx e => ?_, r.dy⟩, hb⟩
  · obtain ⟨x, h1, h2, h3, h4, h5 | h5⟩ := h i x' hx
    · subst h5; exact r.fr.loc i _ A h1 hA
    · rw [h5] at hA; cases hA
  · obtain ⟨x2, a1, a2, _, _, a5⟩ := h i x hx
    obtain ⟨y2, b1, b2, _, _, b5⟩ := h j y hy
    refine r.fr.dist i j x2 y2 a1 b1 ?_ ?_ (by rw [← a2, ← b2]; exact e)
    · rcases a5 with rfl | a5
      · exact h1
      · rw [a5] at h1; cases h1
    · rcases b5 with rfl | b5
      · exact h2
      · rw [b5] at h2; cases h2
  · obtain ⟨x, h1, h2, _, h4, _⟩ := h i x' hx
    rw [h2]; exact r.fr.new i x h1 (h4 ▸ hw)
  · show wfCs (bsH H') cs
    rw [hb]
    obtain ⟨x, h1, h2, _, h4, h5 | h5⟩ := h i x' hx
    · subst h5; exact r.H i _ cs h1 e
    · rw [h5] at e; cases e
theorem forget_sound {keep : Option (List Nat)} {lk : Nat → Bool} {σ : Sy} {K : Sy → Prop} {w : World} (h : forget keep nE lk σ K) (r : Rel S w0 σ w) :
    ∃ σ', K σ' ∧ Rel S w0 σ' w ∧ AgrH lk σ.H σ'.H ∧ σ'.env = σ.env := by
  unfold forget at h
  split at h
  · exact ⟨σ, h, r, .refl _ _, rfl⟩
  · rw [fH_eq] at h
    have hl := forget1_len (refsH σ.H (refsH σ.H (refsH σ.H (refsAt σ.env ‹_›)))) nE lk σ.H 0
    have hg := forget1_get (refsH σ.H (refsH σ.H (refsH σ.H (refsAt σ.env ‹_›)))) nE lk σ.H 0
    refine ⟨_, h, (r.less hl fun j x' hx => ?_).1, fun i x hx => ?_, rfl⟩
    · obtain ⟨x, h1, h2, h3, h4, h5⟩ := hg j x' hx
      exact ⟨x, h1, h2, h3, h4, h5.imp id (·.2)⟩
    · have hi := nthH_lt hx
      rw [← hl] at hi
      have : ∃ x', nthH (forget1 (refsH σ.H (refsH σ.H (refsH σ.H (refsAt σ.env ‹_›)))) nE lk 0 σ.H) i = some x' := by
        rw [nthH_eq]; exact ⟨_, List.getElem?_eq_getElem hi⟩
      obtain ⟨x', hx'⟩ := this
      obtain ⟨x2, h1, h2, h3, h4, h5⟩ := hg i x' hx'
      rw [hx] at h1; cases h1
      refine ⟨x', hx', h2, h3, h4, fun hlk => ?_⟩
      rcases h5 with h5 | h5
      · exact h5
      · rw [Nat.zero_add] at h5; rw [hlk] at h5; cases h5.1

/-! ## heads of loops and of cuts -/
theorem lvOk_mem {m : List Nat} : ∀ {l : List (Nat × Sk)}, lvOk m l = true → ∀ x, x ∈ l → x.1 ∈ m
  | [], _, x, hx => by cases hx
  | (i, k) :: l, h, x, hx => by
    simp only [lvOk, Bool.and_eq_true] at h
    rcases List.mem_cons.1 hx with rfl | hx
    · simpa using h.1
    · exact lvOk_mem h.2 x hx
theorem gsOk_lk {lk : Nat → Bool} {H : List Bk} : ∀ {g : List (Nat × Sk)}, gsOk H lk g = true → ∀ x, x ∈ g → lk x.1 = false
  | [], _, x, hx => by cases hx
  | (i, k) :: l, h, x, hx => by
    simp only [gsOk, Bool.and_eq_true, Bool.not_eq_true'] at h
    rcases List.mem_cons.1 hx with rfl | hx
    · exact h.1.1
    · exact gsOk_lk h.2 x hx
theorem gsLive_get {H : List Bk} : ∀ {g : List (Nat × Sk)}, gsLive H g = true → ∀ x, x ∈ g → ∃ y A, nthH H x.1 = some y ∧ y.cs.arr = some A ∧ blkV H x.1 = .agg A
  | [], _, x, hx => by cases hx
  | (i, k) :: l, h, x, hx => by
    simp only [gsLive, Bool.and_eq_true] at h
    rcases List.mem_cons.1 hx with rfl | hx
    · have h1 := h.1
      split at h1
      · rename_i hy; exact ⟨_, _, hy, rfl, by simp only [blkV, hy]; rfl⟩
      · rename_i hy; exact ⟨_, _, hy, rfl, by simp only [blkV, hy]; rfl⟩
      · cases h1
    · exact gsLive_get h.2 x hx
theorem csOf_arr (k : Sk) (A : Array Value) : (csOf k (.agg A)).arr = some A := by
  cases k with
  | a ks => simp [csOf, Cs.arr, cvs_den]
  | c k => rfl
theorem csOf_wf (k : Sk) (v : Value) (bs : List Nat) : ∀ cs, csOf k v = .l cs → wfCs bs cs := by
  intro cs h
  cases k with
  | a ks =>
    cases v <;> simp only [csOf] at h <;> first | cases h; exact wfCs_cvs _ _ | cases h
  | c k => cases h
theorem setHs_len : ∀ (g : List (Nat × Sk)) (vs : List Value) (H : List Bk), (setHs H g vs).length = H.length
  | [], vs, H => rfl
  | (i, k) :: g, vs, H => by simp [setHs, setHs_len g, setH_len]
theorem setHs_bs : ∀ (g : List (Nat × Sk)) (vs : List Value) (H : List Bk), bsH (setHs H g vs) = bsH H
  | [], vs, H => rfl
  | (i, k) :: g, vs, H => by simp [setHs, setHs_bs g, bsH_set]
theorem setHs_wf (bs : List Nat) : ∀ (g : List (Nat × Sk)) (vs : List Value) (H : List Bk), wfH bs H → wfH bs (setHs H g vs)
  | [], vs, H, h => h
  | (i, k) :: g, vs, H, h => setHs_wf bs g vs.tail _ (wfH_set h (csOf_wf _ _ _))
theorem setHs_get (H1 : List Bk) : ∀ (g : List (Nat × Sk)) (H : List Bk), gsLive H1 g = true → ∀ i x', nthH (setHs H g (g.map fun x => blkV H1 x.1)) i = some x' →
    ∃ x, nthH H i = some x ∧ x'.b = x.b ∧ x'.T = x.T ∧ x'.wr = x.wr ∧ ((i ∉ g.map (·.1) ∧ x'.cs = x.cs) ∨ i ∈ g.map (·.1) ∧ ∃ A y, nthH H1 i = some y ∧ y.cs.arr = some A ∧ x'.cs.arr = some A)
  | [], H, _, i, x', h => ⟨x', h, rfl, rfl, rfl, .inl ⟨by simp, rfl⟩⟩
  | (i0, k) :: g, H, hl, i, x', h => by
    simp only [setHs, List.map_cons, List.headD_cons, List.tail_cons] at h
    obtain ⟨y0, A0, hy0, hA0, hv0⟩ := gsLive_get hl (i0, k) List.mem_cons_self
    have hl' : gsLive H1 g = true := by simp only [gsLive, Bool.and_eq_true] at hl; exact hl.2
    obtain ⟨x, h1, h2, h3, h4, h5⟩ := setHs_get H1 g _ hl' i x' h
    rw [nthH_set] at h1
    split at h1
    · rename_i e; subst e
      cases hx : nthH H i0 with
      | none => rw [hx] at h1; cases h1
      | some x0 =>
        rw [hx] at h1; cases h1
        refine ⟨x0, rfl, h2, h3, h4, .inr ⟨List.mem_cons_self, ?_⟩⟩
        rcases h5 with ⟨_, h5⟩ | ⟨_, h5⟩
        · refine ⟨A0, y0, hy0, hA0, ?_⟩
          rw [h5]
          have hv0 : blkV H1 i0 = .agg A0 := hv0
          show (csOf k (blkV H1 i0)).arr = _
          rw [hv0, csOf_arr]
        · exact h5
    · rename_i e
      refine ⟨x, h1, h2, h3, h4, ?_⟩
      rcases h5 with ⟨h5, h6⟩ | h5
      · exact .inl ⟨by simp only [List.map_cons, List.mem_cons, not_or]; exact ⟨fun h => e h.symm, h5⟩, h6⟩
      · exact .inr ⟨List.mem_cons_of_mem _ h5.1, h5.2⟩
theorem svOf_den (k : Sk) (v : Value) : (svOf k v).den = v := by
  unfold svOf; split
  · exact litV_den v
  · rfl
theorem svOf_wf (k : Sk) (v : Value) (bs : List Nat) : wfS bs (svOf k v) := by
  unfold svOf; split
  · exact wfS_litV bs v
  · exact trivial
theorem denE_setAllS : ∀ (l : List (Nat × Sk)) (vs : List Value) (e : List SV), denE (setAllS e l vs) = setAll (denE e) (l.map (·.1)) vs
  | [], vs, e => rfl
  | (i, k) :: l, vs, e => by simp only [setAllS, setAll, List.map_cons, denE_setAllS l, denE_put, svOf_den]
theorem denE_resetS (D : Nat → Value) : ∀ (m : List Nat) (e : List SV), denE (resetS e m D) = reset (denE e) m D
  | [], e => rfl
  | i :: m, e => by simp only [resetS, reset, denE_resetS D m, denE_put]; rfl
theorem wfE_setAllS {bs : List Nat} : ∀ (l : List (Nat × Sk)) (vs : List Value) (e : List SV), wfE bs e → wfE bs (setAllS e l vs)
  | [], vs, e, h => h
  | (i, k) :: l, vs, e, h => wfE_setAllS l _ _ (wfE_put h i (svOf_wf _ _ _))
theorem wfE_resetS {bs : List Nat} (D : Nat → Value) : ∀ (m : List Nat) (e : List SV), wfE bs e → wfE bs (resetS e m D)
  | [], e, h => h
  | i :: m, e, h => wfE_resetS D m _ (wfE_put h i (s := .c (.v (D i))) trivial)
theorem AgrS.setAllS {m : List Nat} : ∀ (l : List (Nat × Sk)) (vs : List Value) (e : List SV), (∀ x, x ∈ l → x.1 ∈ m) → AgrS m e (setAllS e l vs)
  | [], vs, e, h => .refl _ _
  | (i, k) :: l, vs, e, h => (AgrS.put m e (some i) _ (by rintro j hj; cases hj; exact h _ List.mem_cons_self)).trans (AgrS.setAllS l _ _ fun x hx => h x (List.mem_cons_of_mem _ hx))
theorem AgrS.resetS (D : Nat → Value) : ∀ (m' : List Nat) (e : List SV) {m : List Nat}, (∀ i, i ∈ m' → i ∈ m) → AgrS m e (resetS e m' D)
  | [], e, m, h => .refl _ _
  | i :: m', e, m, h => (AgrS.put m e (some i) _ (by rintro j hj; cases hj; exact h _ List.mem_cons_self)).trans (AgrS.resetS D m' _ fun x hx => h x (List.mem_cons_of_mem _ hx))
theorem AgrS.den {m : List Nat} {e e' : List SV} (h : AgrS m e e') : Agr m (denE e) (denE e') :=
  ⟨by rw [denE_len, denE_len, h.1], fun i hi => by rw [← denE_nth, ← denE_nth, h.2 i hi]⟩
/-- the head's state is the one that is there -/
theorem head_sound {m : List Nat} {lk : Nat → Bool} {live gs : List (Nat × Sk)} {σ0 σ1 : Sy} {w w1 : World} (r0 : Rel S w0 σ0 w) (hg : gsOk σ0.H lk gs = true) (hlv : lvOk m live = true)
    (hb : Beh m (lock σ0.H gs lk) S w0 σ0 σ1 w1) (hl : gsLive σ1.H gs = true) :
    let σh : Sy := ⟨setAllS (resetS σ0.env m fun i => (nthS σ1.env i).den) live (gVals σ1 live gs), setHs σ0.H gs (dropV live (gVals σ1 live gs)), [], w1, false⟩
    Rel S w0 σh w1 ∧ denE σh.env = denE σ1.env ∧ AgrS m σ0.env σh.env ∧ AgrH (lock σ0.H gs lk) σ0.H σh.H := by
  intro σh
  have hdrop : dropV live (gVals σ1 live gs) = gs.map fun x => blkV σ1.H x.1 := by simp [dropV, gVals]
  have hH : σh.H = setHs σ0.H gs (gs.map fun x => blkV σ1.H x.1) := by show setHs σ0.H gs (dropV live (gVals σ1 live gs)) = _; rw [hdrop]
  have hbs : bsH σh.H = bsH σ0.H := setHs_bs _ _ _
  have get := setHs_get σ1.H gs σ0.H hl
  rw [← hH] at get
  -- each block of the head is one that is there, with the same cells
  have same : ∀ i x', nthH σh.H i = some x' → ∃ y, nthH σ1.H i = some y ∧ x'.b = y.b ∧ x'.T = y.T ∧ x'.wr = y.wr ∧ x'.cs.arr = y.cs.arr := by
    intro i x' hx'
    obtain ⟨x, h1, h2, h3, h4, h5⟩ := get i x' hx'
    obtain ⟨y, k1, k2, k3, k4, k5⟩ := hb.H i x h1
    refine ⟨y, k1, h2.trans k2.symm, h3.trans k3.symm, h4.trans k4.symm, ?_⟩
    rcases h5 with ⟨h5, h6⟩ | ⟨_, A, z, h5, h6, h7⟩
    · have : lock σ0.H gs lk i = true := by
        have hi := nthH_lt h1
        have hi' : Nat.blt i σ0.H.length = true := Nat.ble_eq_true_of_le hi
        simp only [lock, lenH_eq, hi']
        simp at h5 ⊢
        exact .inr h5
      rw [k5 this, h6]
    · rw [k1] at h5; cases h5; rw [h6, h7]
  have hlen : σh.H.length = σ0.H.length := by rw [hH]; exact setHs_len _ _ _
  refine ⟨⟨⟨hb.rel.fr.chg, .refl _ _, fun i x' A hx hA => ?_, fun i j x y hx hy h1 h2 e => ?_, fun i x' hx hw => ?_⟩, ?_, ?_, fun _ => rfl⟩, ?_, ?_, fun i x hx => ?_⟩
  · obtain ⟨y, k1, k2, k3, k4, k5⟩ := same i x' hx
    rw [k2, k3]; exact hb.rel.fr.loc i y A k1 (k5 ▸ hA)
  · obtain ⟨x2, a1, a2, _, _, a5⟩ := same i x hx
    obtain ⟨y2, b1, b2, _, _, b5⟩ := same j y hy
    exact hb.rel.fr.dist i j x2 y2 a1 b1 (a5 ▸ h1) (b5 ▸ h2) (by rw [← a2, ← b2]; exact e)
  · obtain ⟨y, k1, k2, k3, k4, k5⟩ := same i x' hx
    rw [k2]; exact hb.rel.fr.new i y k1 (k4 ▸ hw)
  · show wfE (bsH σh.H) _; rw [hbs]; exact wfE_setAllS _ _ _ (wfE_resetS _ _ _ r0.env)
  · show wfH (bsH σh.H) _; rw [hbs]; exact setHs_wf _ _ _ _ r0.H
  · show denE (setAllS _ _ _) = _
    rw [denE_setAllS, denE_resetS]
    have hf := hb.env.den.form (live.map (·.1))
    conv => rhs; rw [hf]
    have e1 : (fun i => (nthS σ1.env i).den) = nth (denE σ1.env) := by funext i; exact denE_nth _ _
    rw [e1]
    -- only the first of the values are taken
    have tk : ∀ (l : List (Nat × Sk)) (e : List Value) (r : List Value), setAll e (l.map (·.1)) (l.map (fun x => (nthS σ1.env x.1).den) ++ r) = setAll e (l.map (·.1)) ((l.map (·.1)).map (nth (denE σ1.env))) := by
      intro l
      induction l with
      | nil => intro e r; rfl
      | cons x l ih =>
        intro e r
        simp only [List.map_cons, List.cons_append, setAll, List.headD_cons, List.tail_cons]
        rw [denE_nth, ih]
    exact tk live _ _
  · exact (AgrS.resetS _ m _ fun _ h => h).trans (AgrS.setAllS _ _ _ (lvOk_mem hlv))
  · have hi := nthH_lt hx
    rw [← hlen] at hi
    obtain ⟨x', hx'⟩ : ∃ x', nthH σh.H i = some x' := by rw [nthH_eq]; exact ⟨_, List.getElem?_eq_getElem hi⟩
    obtain ⟨x2, h1, h2, h3, h4, h5⟩ := get i x' hx'
    rw [hx] at h1; cases h1
    refine ⟨x', hx', h2, h3, h4, fun hlk => ?_⟩
    have hni : i ∉ gs.map (·.1) := by
      intro hm
      simp only [lock, Bool.or_eq_true, Bool.and_eq_true, Bool.not_eq_true', List.contains_eq_mem, decide_eq_false_iff_not] at hlk
      rcases hlk with hlk | hlk
      · obtain ⟨g, hg1, hg2⟩ := List.mem_map.1 hm
        have := gsOk_lk hg g hg1
        rw [hg2, hlk] at this; cases this
      · exact hlk.2 hm
    rcases h5 with ⟨_, h6⟩ | ⟨h6, _⟩
    · cases x'; cases x; simp_all
    · exact absurd h6 hni
end
end Go.Vc
