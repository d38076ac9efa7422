/-
  A part of the proof that two events of one line are one event: the calculus that follows known memory by computing, and its soundness. By an AI agent.
-/
import Derived.Test.YtfmmpnaljkdigaaGreatDoorSy4
set_option linter.unusedVariables false
set_option linter.unusedSimpArgs false
namespace Go.Vc
open Go
section
variable {P : Program} {okf : Ctx} {S : Nat → Prop} {w0 : World} {Q : Exit → Act → World → Prop}
theorem gen3_sound (hok : ∀ n, okf.fns.contains n = true → okFn P n = true) {hv : List Nat} {lk : Nat → Bool} {σ : Sy} {o : Oper} {K : SV → Sy → Prop} {w : World} {next : Act → World → Prop} (hu : unl lk hv = true) (h : gen3 P okf S w0 hv σ o K) (r : Rel S w0 σ w)
    (hn : ∀ s σ' w', K s σ' → Rel S w0 σ' w' → AgrH lk σ.H σ'.H → σ'.env = σ.env → wfS (bsH σ'.H) s → next (act (putD (denE σ.env) o.dst s.den)) w') : o.wp P (act (denE σ.env)) w next Q := by
  obtain ⟨σ1, h, r1, he, hH⟩ := vis_sound h r
  rw [he] at h
  refine opI_sound hok h fun v w' hK => ?_
  obtain ⟨H', ⟨hF, hK⟩, ha, hw', hb, hk⟩ := hav3_elim hu r1.H hK
  have e := f_if (bsH H') (isBT P o.type) v
  have := hn _ ⟨σ1.env, H', [], w', false⟩ w' hK ⟨r1.fr.weak hk hF, by show wfE (bsH H') σ1.env; rw [hb]; exact r1.env, hw', fun _ => rfl⟩ (hH ▸ ha) he e.2
  rwa [e.1] at this
theorem run_newVar (t : TypeId) (v : Value) (w : World) : (newVar t v).run P w = .ok ⟨w.heap.size, 0, none⟩ (w.alloc (.cells v.cells t (0, 0))) := by
  simp [newVar, newRow, newObj, Sem.run]
theorem ns3_sound (hok : ∀ n, okf.fns.contains n = true → okFn P n = true) {hv : List Nat} {lk : Nat → Bool} {σ : Sy} {o : Oper} {K : SV → Sy → Prop} {w : World} {next : Act → World → Prop} (h : ns3 P okf S w0 lk hv σ o K) (r : Rel S w0 σ w)
    (hn : ∀ s σ' w', K s σ' → Rel S w0 σ' w' → AgrH lk σ.H σ'.H → σ'.env = σ.env → wfS (bsH σ'.H) s → next (act (putD (denE σ.env) o.dst s.den)) w') : o.wp P (act (denE σ.env)) w next Q := by
  have G0 : gen3 P okf S w0 [] σ o K → o.wp P (act (denE σ.env)) w next Q := fun h => gen3_sound hok (lk := lk) (hv := []) rfl h r hn
  have GH : unl lk hv = true → gen3 P okf S w0 hv σ o K → o.wp P (act (denE σ.env)) w next Q := fun hu h => gen3_sound hok hu h r hn
  -- what has been made
  have NW : ∀ (cs : List Cel) (T : TypeId) (f : Nat → SV), wfCs (bsH σ.H) cs → (∀ bs : List Nat, ∀ b, bs[σ.H.length]? = some b → wfS bs (f b)) → new3 σ T cs K f →
      (execOp (ev (denE σ.env)) o).run P w = .ok (.value (f w.heap.size).den) (w.alloc (.cells ⟨denCs cs⟩ T (0, 0))) → o.wp P (act (denE σ.env)) w next Q := by
    intro cs T f hc hf h hr
    unfold new3 at h
    rw [fL_eq] at h
    obtain ⟨r', hsz⟩ := r.nw (T := T) (w' := w.alloc (.cells ⟨denCs cs⟩ T (0, 0))) hc (by show (w.heap.push _)[w.heap.size]? = _; simp) (Chg.alloc w _)
    have h := h w.heap.size hsz
    rw [fH_eq] at h
    unfold Oper.wp
    rw [ev_eq, hr, Oper.upon_value, act_put]
    have h : K (f w.heap.size) ⟨σ.env, σ.H ++ [⟨w.heap.size, .l cs, T, true⟩], σ.M, σ.wp, true⟩ := h
    refine hn _ _ _ h r' (AgrH.app _ _ _) rfl (hf _ _ ?_)
    rw [bsH_get, nthH_app]; simp
  unfold ns3 at h
  split at h
  · rename_i t a x ho
    have finU : ∀ (w' : World), (∃ σ', K (.c (.v undef)) σ' ∧ Rel S w0 σ' w' ∧ AgrH lk σ.H σ'.H ∧ σ'.env = σ.env) → (execOp (ev (denE σ.env)) o).run P w = .ok .skip w' → o.wp P (act (denE σ.env)) w next Q := by
      rintro w' ⟨σ', hK, hr', ha, he⟩ hr
      unfold Oper.wp
      rw [ev_eq, hr, Oper.upon_skip, act_put]
      exact hn _ _ _ hK hr' ha he trivial
    split at h
    · rename_i i b lit off ha
      have ea : ev (denE σ.env) a = .pointer (some ⟨b, off, none⟩) := by rw [← ev3_den, ha]; rfl
      have hwf := wfS_ev r.env a; rw [ha] at hwf
      have hwf : (bsH σ.H)[i]? = some b := hwf
      rw [bsH_get] at hwf
      have byst : stK P t ⟨b, off, none⟩ (ev (denE σ.env) x) (fun w' => ∃ σ', K (.c (.v undef)) σ' ∧ Rel S w0 σ' w' ∧ AgrH lk σ.H σ'.H ∧ σ'.env = σ.env) w → o.wp P (act (denE σ.env)) w next Q := by
        intro hs
        obtain ⟨w', hr, hK⟩ := stK_sound hs
        exact finU w' hK (by simp [execOp, ho, ea, Instr.storeAt, Instr.sureAddr, hr])
      have one : ∀ (c c' : Cs) (T : TypeId) (A : Array Value) (y : Cel) (k : Ck), nthH σ.H i = some ⟨b, c, T, true⟩ → c.arr = some A → c'.arr = some (A.setIfInBounds off y.den) → (∀ cs, c' = .l cs → wfCs (bsH σ.H) cs) → lk i = false →
          known P t = true → aggT P t = false → szOf P t = 1 → ev3 σ.env x = .c y → off < A.size → oneC y.den = true → K (.c (.v undef)) ⟨σ.env, setH σ.H i c', b :: σ.M, σ.wp, true⟩ → o.wp P (act (denE σ.env)) w next Q := by
        intro c c' T A y k hx hA hA' hc hl hk hag hsz hy hoff h1 hK
        refine byst ?_
        have ey : ev (denE σ.env) x = y.den := by rw [← ev3_den, hy]; rfl
        unfold stK
        simp only [hk, hag]
        rw [if_pos hsz, ey]
        refine stC (r.fr.loc i _ A hx hA) hoff h1 fun w' hb _ g => ?_
        exact ⟨_, hK, r.st hx hA hA' hc hb g, AgrH.set hl, rfl⟩
      split at h
      · rename_i b' cs T hx hl
        have hbb : b' = b := by rw [hx] at hwf; simpa using hwf
        subst hbb
        split at h
        · rename_i hk hag
          split at h
          · rename_i y hy
            split at h
            · rename_i hh
              simp only [Bool.and_eq_true] at hh
              have h1 := Nat.eq_of_beq_eq_true hh.1
              have h2 : off < cs.length := by
                have := Nat.le_of_ble_eq_true (n := off + 1) (m := lenC cs) hh.2
                rw [lenC_eq] at this; omega
              obtain ⟨h3, h⟩ := one3_elim h
              rw [fL_eq, fH_eq] at h
              have hsy := wfS_ev r.env x; rw [hy] at hsy
              exact one (.l cs) (.l (putC cs off y)) T ⟨denCs cs⟩ y (ckT P t) hx rfl (by
                show some _ = some _
                rw [denCs_put]; simp) (fun c e => by
                cases e
                exact fun z hz => (putC_mem hz).elim (fun e => e ▸ hsy) (r.H i _ cs hx rfl z)) hl hk hag h1 hy (by simpa [denCs_len] using h2) h3 h
            · exact h.elim
          · exact h.elim
        · rename_i hk hag
          split at h
          · rename_i ys hy
            split at h
            · rename_i hh
              simp only [Bool.and_eq_true] at hh
              have h1 := Nat.eq_of_beq_eq_true hh.1
              have h2 := Nat.le_of_ble_eq_true hh.2
              rw [lenC_eq] at h1 h2
              rw [lenC_eq] at h2
              obtain ⟨h3, h⟩ := ones3_elim h
              rw [fL_eq, fH_eq] at h
              refine byst ?_
              have ey : ev (denE σ.env) x = .agg ⟨denCs ys⟩ := by rw [← ev3_den, cellsOf_den hy]
              unfold stK
              simp only [hk, hag, ey]
              rw [if_pos (by simp [denCs_len, h1])]
              refine stCells_of _ 0 _ w (r.fr.loc i _ _ hx rfl) (by simp [denCs_len]; omega) (fun v hv => ?_) fun w' A' hb hA' g => ?_
              · have : ∀ (l : List Cel) v, v ∈ denCs l → ∃ c, c ∈ l ∧ v = c.den := by
                  intro l
                  induction l with
                  | nil => intro v hv; cases hv
                  | cons z zs ih =>
                    intro v hv
                    rcases List.mem_cons.1 hv with rfl | hv
                    · exact ⟨z, List.mem_cons_self, rfl⟩
                    · obtain ⟨c, hc, e⟩ := ih v hv; exact ⟨c, List.mem_cons_of_mem _ hc, e⟩
                obtain ⟨c, hc, rfl⟩ := this ys v hv
                exact h3 c hc
              · have e : A' = ⟨denCs (spl cs off ys)⟩ := by
                  apply Array.ext_getElem?
                  intro j
                  rw [hA' j]
                  have := spl_get cs ys off h2 j
                  simp only [List.getElem?_toArray, Nat.add_zero, denCs_len]
                  exact this.symm
                subst e
                have hsy := wfS_ev r.env x
                exact ⟨⟨σ.env, setH σ.H i (.l (spl cs off ys)), b' :: σ.M, σ.wp, true⟩, h, r.st hx rfl rfl (fun c e => by
                  cases e
                  exact fun z hz => (spl_mem hz).elim (wfCs_of hy hsy z) (r.H i _ cs hx rfl z)) hb g, AgrH.set hl, rfl⟩
            · exact h.elim
          · exact h.elim
        · rename_i hk hag
          split at h
          · rename_i y hy
            split at h
            · rename_i hh
              have h1 := Nat.eq_of_beq_eq_true hh
              obtain ⟨h2, h⟩ := h
              rw [lenC_eq] at h2
              obtain ⟨h3, h⟩ := one3_elim h
              rw [fH_eq] at h
              exact one (.l cs) _ T ⟨denCs cs⟩ y (ckT P t) hx rfl rfl (fun c e => by cases e) hl hk hag h1 hy (by simpa [denCs_len] using h2) h3 h
            · exact h.elim
          · exact h.elim
        · exact h.elim
      · rename_i b' A T hx hl
        have hbb : b' = b := by rw [hx] at hwf; simpa using hwf
        subst hbb
        split at h
        · rename_i hk hag
          split at h
          · rename_i y hy
            split at h
            · rename_i hh
              have h1 := Nat.eq_of_beq_eq_true hh
              obtain ⟨h2, h⟩ := h
              obtain ⟨h3, h⟩ := one3_elim h
              rw [fH_eq] at h
              exact one (.r A) _ T A y (ckT P t) hx rfl rfl (fun c e => by cases e) hl hk hag h1 hy h2 h3 h
            · exact h.elim
          · exact h.elim
        · exact h.elim
      · exact G0 h
      · exact h.elim
    · exact G0 h
  · rename_i t ho
    split at h
    · rename_i z hz
      refine NW _ _ _ (wfCs_lit _ _) (fun bs b hb => ?_) h ?_
      · show bs[lenH σ.H]? = some b; rw [lenH_eq]; exact hb
      · simp [execOp, ho, Instr.alloc, run_zero hz, run_newVar, litCs_den, SV.den, Cel.den]
    · exact h.elim
  · rename_i t x ho
    split at h
    · rename_i hag
      split at h
      · rename_i cs hcs
        refine NW _ _ _ (wfCs_of hcs (wfS_ev r.env x)) (fun bs b hb => ?_) h ?_
        · show bs[lenH σ.H]? = some b; rw [lenH_eq]; exact hb
        · have e : ev (denE σ.env) x = .agg ⟨denCs cs⟩ := by rw [← ev3_den, cellsOf_den hcs]
          simp [execOp, ho, Instr.box, run_newVar, SV.den, Cel.den, e, Value.cells]
      · exact h.elim
    · split at h
      · rename_i y hy
        obtain ⟨h1, h⟩ := one3_elim h
        have hsy := wfS_ev r.env x; rw [hy] at hsy
        refine NW _ _ _ (fun z hz => ?_) (fun bs b hb => ?_) h ?_
        · simp at hz; subst hz; exact hsy
        · show bs[lenH σ.H]? = some b; rw [lenH_eq]; exact hb
        · have e : ev (denE σ.env) x = y.den := by rw [← ev3_den, hy]; rfl
          have e2 := cells_one h1
          have e3 : (execOp (ev (denE σ.env)) o).run P w = .ok (.value (.pointer (some ⟨w.heap.size, 0, none⟩))) (w.alloc (.cells y.den.cells t (0, 0))) := by
            simp [execOp, ho, Instr.box, run_newVar, e]
          rw [e3, e2]; rfl
      · exact h.elim
  · rename_i t len parts ho
    split at h
    · rename_i e hu
      split at h
      · rename_i z hk hz
        split at h
        · rename_i hh
          simp only [Bool.and_eq_true, Bool.not_eq_true'] at hh
          have h1 := Nat.le_of_ble_eq_true hh.1
          have h2 : len * szOf P e ≠ 0 := fun e0 => by rw [e0] at hh; simp at hh
          have h3 := fill3_sound (bsH σ.H) (wf_evps r.env _) (wfCs_lit _ _) h
          rw [litCs_den, denPs_ev] at h3
          obtain ⟨vs, ⟨cs, rfl, hc, hK⟩, hfill⟩ := fillS_sound (place' := fun i => some (i * szOf P e, szOf P e)) (fun i => rfl) h3
          refine NW cs e _ hc (fun bs b hb => ?_) hK ?_
          · show bs[lenH σ.H]? = some b; rw [lenH_eq]; exact hb
          · have hl : (parts.map fun (x : Nat × Operand) => (x.1, ev (denE σ.env) x.2)).toList = parts.toList.map fun p => (p.1, ev (denE σ.env) p.2) := by simp
            have e1 : ¬ len * szOf P e > 2 ^ 24 := by omega
            have e2 : Instr.fill (fun i => some (i * szOf P e, szOf P e)) ((Array.range (len * szOf P e)).map (z.cells[· % z.cells.size]!)) (parts.toList.map fun p => (p.1, ev (denE σ.env) p.2)) = some ⟨denCs cs⟩ := hfill
            have e3 : execOp (ev (denE σ.env)) o = (do pure (.value (← Instr.buildSlice t len (parts.map fun (i, x) => (i, ev (denE σ.env) x)))) : Sem Next) := by simp only [execOp, ho]
            have e4 : (Instr.buildSlice t len (parts.map fun (i, x) => (i, ev (denE σ.env) x))).run P w = .ok (.slice (some ⟨w.heap.size, 0, none⟩) len len) (w.alloc (.cells ⟨denCs cs⟩ e (0, 0))) := by
              simp only [Instr.buildSlice, Sem.run_bind, run_underlying hu, run_sizeOf hk, Result.andThen_ok, Sem.run_ite]
              rw [if_neg e1]
              simp only [Sem.run_pure, Result.andThen_ok, if_neg h2, run_zero hz]
              rw [hl, e2]
              simp [newRow]
            rw [e3]; simp [e4, SV.den, Cel.den]
        · split at h
          · rename_i hh
            simp only [Bool.and_eq_true] at hh
            have h1 := Nat.eq_of_beq_eq_true hh.1
            have h2 := Nat.eq_of_beq_eq_true hh.2
            refine NW [] e _ (fun z hz => by cases hz) (fun bs b hb => ?_) h ?_
            · show bs[lenH σ.H]? = some b; rw [lenH_eq]; exact hb
            · have e2 : parts = #[] := Array.eq_empty_of_size_eq_zero h2
              subst e2
              have e3 : (Array.range 0 : Array Nat) = #[] := by apply Array.toList_inj.1; simp
              have e4 : execOp (ev (denE σ.env)) o = (do pure (.value (← Instr.buildSlice t len #[])) : Sem Next) := by simp [execOp, ho]
              have e5 : (Instr.buildSlice t len #[]).run P w = .ok (.slice (some ⟨w.heap.size, 0, none⟩) len len) (w.alloc (.cells #[] e (0, 0))) := by
                simp only [Instr.buildSlice, Sem.run_bind, run_underlying hu, run_sizeOf hk, Result.andThen_ok, Sem.run_ite]
                simp [h1, Instr.fill, newRow, e3]
              rw [e4]; simp [e5, SV.den, Cel.den, denCs]
          · exact h.elim
      · exact h.elim
    · exact h.elim
  · split at h
    · rename_i hu; exact GH hu h
    · exact h.elim
end
end Go.Vc
