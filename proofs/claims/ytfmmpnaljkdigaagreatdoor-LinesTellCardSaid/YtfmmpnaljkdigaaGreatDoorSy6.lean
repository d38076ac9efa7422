/-
  A part of the proof that two events of one line are one event: the calculus that follows known memory by computing, and its soundness. By an AI agent.
-/
import Derived.Test.YtfmmpnaljkdigaaGreatDoorSy5
set_option linter.unusedVariables false
set_option linter.unusedSimpArgs false
namespace Go.Vc
open Go
section
variable {P : Program} {okf : Ctx} {S : Nat → Prop} {w0 : World} {nE : Nat} {Q : Exit → Act → World → Prop}
theorem exT3_elim {o : Oper} {s : SV} {K : SV → Prop} {bs : List Nat} (h : exT3 P okf o s K) (hs : wfS bs s) : ∃ s', K s' ∧ s'.den = s.den ∧ wfS bs s' := by
  unfold exT3 at h
  split at h
  · split at h
    · have := tyB_elim h
      exact ⟨_, this, (f_if bs _ _).1, (f_if bs _ _).2⟩
    · exact ⟨_, h, rfl, hs⟩
  · exact ⟨_, h, rfl, hs⟩
/-- the slots' state behind a step -/
def AgrS (m : List Nat) (e e' : List SV) : Prop := e'.length = e.length ∧ ∀ i, i ∉ m → nthS e' i = nthS e i
theorem AgrS.refl (m : List Nat) (e : List SV) : AgrS m e e := ⟨rfl, fun _ _ => rfl⟩
theorem AgrS.trans {m : List Nat} {a b c : List SV} (h : AgrS m a b) (k : AgrS m b c) : AgrS m a c := ⟨k.1.trans h.1, fun i hi => (k.2 i hi).trans (h.2 i hi)⟩
theorem AgrS.mono {m m' : List Nat} {a b : List SV} (h : AgrS m a b) (hm : ∀ i, i ∈ m → i ∈ m') : AgrS m' a b := ⟨h.1, fun i hi => h.2 i fun hm' => hi (hm i hm')⟩
theorem putS_len (e : List SV) (i : Nat) (x : SV) : (putS e i x).length = e.length := by
  induction e generalizing i with
  | nil => rfl
  | cons v vs ih => cases i <;> simp [putS, ih]
theorem nthS_put (e : List SV) (i : Nat) (x : SV) (j : Nat) : nthS (putS e i x) j = if i = j ∧ i < e.length then x else nthS e j := by
  induction e generalizing i j with
  | nil => simp [putS, nthS]
  | cons v vs ih =>
    cases i with
    | zero => cases j <;> simp [putS, nthS]
    | succ i => cases j with
      | zero => simp [putS, nthS]
      | succ j => simp [putS, nthS, ih]
theorem AgrS.put (m : List Nat) (e : List SV) (d : Option Nat) (x : SV) (h : ∀ i, d = some i → i ∈ m) : AgrS m e (putSD e d x) := by
  cases d with
  | none => exact .refl _ _
  | some i =>
    refine ⟨putS_len _ _ _, fun j hj => ?_⟩
    simp only [putSD, nthS_put]
    rw [if_neg]
    rintro ⟨rfl, _⟩
    exact hj (h i rfl)
/-- what a step comes to -/
structure Beh (m : List Nat) (lk : Nat → Bool) (S : Nat → Prop) (w0 : World) (σ σ' : Sy) (w' : World) : Prop where
  rel : Rel S w0 σ' w'
  env : AgrS m σ.env σ'.env
  H : AgrH lk σ.H σ'.H
theorem Beh.trans {m : List Nat} {lk : Nat → Bool} {σ σ' σ'' : Sy} {w' w'' : World} (h : Beh m lk S w0 σ σ' w') (k : Beh m lk S w0 σ' σ'' w'') : Beh m lk S w0 σ σ'' w'' := ⟨k.rel, h.env.trans k.env, h.H.trans k.H⟩
theorem Beh.mono {m m' : List Nat} {lk lk' : Nat → Bool} {σ σ' : Sy} {w' : World} (h : Beh m lk S w0 σ σ' w') (hm : ∀ i, i ∈ m → i ∈ m') (hl : ∀ i, lk' i = true → lk i = true) : Beh m' lk' S w0 σ σ' w' := ⟨h.rel, h.env.mono hm, h.H.mono hl⟩
theorem Rel.put {σ : Sy} {w : World} (r : Rel S w0 σ w) (d : Option Nat) {s : SV} (hs : wfS (bsH σ.H) s) : Rel S w0 ⟨putSD σ.env d s, σ.H, σ.M, σ.wp, σ.dy⟩ w := ⟨r.fr, wfE_putD r.env d hs, r.H, r.dy⟩
theorem dsts_mem {ops : Array Oper} {i : Nat} {o : Oper} (ho : ops[i]? = some o) : ∀ d, o.dst = some d → d ∈ dsts ops := fun d hd => by
  simp only [dsts, List.mem_filterMap]
  exact ⟨o, by simpa using Array.mem_of_getElem? ho, hd⟩
theorem one3o_sound (hok : ∀ n, okf.fns.contains n = true → okFn P n = true) {ops : Array Oper} {lk : Nat → Bool} {hvs : List (Nat × List Nat)} {i : Nat} {σ : Sy} {K : Sy → Prop} {w : World} (h : one3o P okf S w0 ops lk hvs i σ K) (r : Rel S w0 σ w) :
    wpOp P ops Q i (fun a w' => ∃ σ', a = act (denE σ'.env) ∧ Beh (dsts ops) lk S w0 σ σ' w' ∧ K σ') (act (denE σ.env)) w := by
  unfold one3o at h
  unfold wpOp
  split at h
  · rename_i ho; simp only [ho]; exact ⟨σ, rfl, ⟨r, .refl _ _, .refl _ _⟩, h⟩
  · rename_i o ho
    simp only [ho]
    have hd := dsts_mem ho
    split at h
    · rename_i hw
      have hw' : Region.wanted o (yielded ops (act (denE σ.env)).tmps) = true := hw
      rw [if_pos hw']
      refine .inl ?_
      split at h
      · have key : ∀ σ1 : Sy, Rel S w0 σ1 w → σ1.env = σ.env → σ1.H = σ.H → ∀ R : Addr → Value → Prop, (∀ a v, R a v → ∀ w', w' = w → w'.cell? a = some v) →
            sil3 P R (fun _ => true) σ1.env σ1.H o (fun s => exT3 P okf o s fun s => fS s fun s => fE (putSD σ1.env o.dst s) fun e => K ⟨e, σ1.H, σ1.M, σ1.wp, σ1.dy⟩) →
            o.wp P (act (denE σ.env)) w (fun a w' => ∃ σ', a = act (denE σ'.env) ∧ Beh (dsts ops) lk S w0 σ σ' w' ∧ K σ') Q := by
          intro σ1 r1 he hH R hR h
          obtain ⟨s, hK, hs, hr⟩ := sil3_sound (Q := fun w' => w' = w) hR r1.env r1.H (fun i x A hx _ hA w' hw' => by rw [hw']; exact ⟨_, r1.fr.loc i x A hx hA⟩) h
          obtain ⟨s', hK, hd', hs'⟩ := exT3_elim hK hs
          rw [fS_eq, fE_eq] at hK
          unfold Oper.wp
          rw [ev_eq, ← he, hr w rfl, Oper.upon_value, act_put]
          refine ⟨_, ?_, ⟨r1.put o.dst hs', he ▸ AgrS.put _ _ _ _ hd, ?_⟩, hK⟩
          · show _ = act (denE (putSD σ1.env o.dst s')); rw [denE_putD, hd']
          · show AgrH lk σ.H σ1.H; rw [hH]; exact .refl _ _
        split at h
        · obtain ⟨σ1, h, r1, he, hH⟩ := vis_sound h r
          exact key σ1 r1 he hH _ (fun a v hv w' hw' => by rw [hw']; exact hv) h
        · exact key σ r rfl rfl _ (fun a v hv => hv.elim) h
      · refine ns3_sound hok h r fun s σ' w' hK r' ha he hs => ?_
        rw [fS_eq, fE_eq] at hK
        refine ⟨_, ?_, ⟨r'.put o.dst hs, ?_, ha⟩, hK⟩
        · show _ = act (denE (putSD σ'.env o.dst s)); rw [denE_putD, he]
        · show AgrS _ _ (putSD σ'.env o.dst s); rw [he]; exact AgrS.put _ _ _ _ hd
    · rename_i hw
      have hw' : ¬ Region.wanted o (yielded ops (act (denE σ.env)).tmps) = true := by
        have : Region.wanted o (yielded ops (act (denE σ.env)).tmps) = false := hw
        simp [this]
      rw [fE_eq] at h
      rw [if_neg hw', act_put]
      refine ⟨_, ?_, ⟨r.put o.dst (s := .c (.v undef)) trivial, AgrS.put _ _ _ _ hd, .refl _ _⟩, h⟩
      show _ = act (denE (putSD σ.env o.dst _)); rw [denE_putD]; rfl
theorem ops3_sound (hok : ∀ n, okf.fns.contains n = true → okFn P n = true) {ops : Array Oper} {lk : Nat → Bool} {hvs : List (Nat × List Nat)} {K : Sy → Prop} {σ0 : Sy} (hq : ∀ σ w, Beh (dsts ops) lk S w0 σ0 σ w → K σ → Q .normal (act (denE σ.env)) w) :
    ∀ {is : List Nat} {σ : Sy} {w : World}, Beh (dsts ops) lk S w0 σ0 σ w → ops3 P okf S w0 ops lk hvs is σ K → wpOps P ops Q is (act (denE σ.env)) w := by
  intro is
  induction is with
  | nil => intro σ w hb h; exact hq _ _ hb h
  | cons i is ih =>
    intro σ w hb h
    rw [wpOps_cons]
    refine wpOp_mono ?_ (one3o_sound hok h hb.rel)
    rintro a w ⟨σ', rfl, hb', h'⟩
    exact ih (hb.trans hb') h'
/-- what stays so in a region -/
def SReg (H0 : List Bk) (rd : Nat → Bool) (Su : World → Prop) (w : World) : Prop := Su w ∧ ∀ i x A, nthH H0 i = some x → rd i = true → x.cs.arr = some A → w.heap[x.b]? = some (.cells A x.T (0, 0))
theorem SReg.of {H0 : List Bk} {rd : Nat → Bool} {Su : World → Prop} {lk : Nat → Bool} {σ : Sy} {w : World} (r : Rel S w0 σ w) (ha : AgrH lk H0 σ.H) (hl : ∀ i, rd i = true → lk i = true) (hs : Su w) : SReg H0 rd Su w :=
  ⟨hs, fun i x A hx hr hA => by
    obtain ⟨x', h1, _, _, _, h5⟩ := ha i x hx
    have := h5 (hl i hr); subst this
    exact r.fr.loc i _ A h1 hA⟩
theorem any3_sound (hok : ∀ n, okf.fns.contains n = true → okFn P n = true) {ops : Array Oper} {user : Bool} {Su : World → Prop} {rd lk : Nat → Bool} {hvs : List (Nat × List Nat)} {K : Sy → Prop} {σ0 : Sy} (hns : Region.noSelect ops = true)
    (hQ : ∀ c a w d v, Q (.panic c) (Act.put a d v) w → Q (.panic c) a w) (hl : ∀ i, rd i = true → lk i = true) (hrd : ∀ i, rd i = true → i < σ0.H.length) (hu : user = false → ∀ w, Su w)
    (hq : ∀ σ w, Beh (dsts ops) lk S w0 σ0 σ w → K σ → Q .normal (act (denE σ.env)) w) :
    ∀ {n : Nat} {listed : Array Bool} {σ : Sy} {w : World}, Beh (dsts ops) lk S w0 σ0 σ w → Su w → any3 P okf S w0 ops user Su rd lk hvs n listed σ K →
      anyL P ops Q (SReg σ0.H rd Su) n listed (act (denE σ.env)) w := by
  intro n
  induction n with
  | zero =>
    intro listed σ w hb hS h
    unfold any3 at h
    split at h
    · rename_i hr; exact anyL_done hr (hq _ _ hb h) 0
    · exact h.elim
  | succ n ih =>
    intro listed σ w hb hS h
    unfold any3 at h
    split at h
    · rename_i hr; exact anyL_done hr (hq _ _ hb h) _
    · rename_i r rs hr
      have hreg := SReg.of (Su := Su) hb.rel hb.H hl hS
      split at h
      · rename_i i hi
        have hs := List.find?_some hi
        simp only [silAt, Bool.and_eq_true] at hs
        obtain ⟨⟨hs, hf⟩, hrd'⟩ := hs
        unfold silo3 at h
        split at h
        · exact h.elim
        · rename_i o ho
          have hd := dsts_mem ho
          split at h
          · rename_i hw
            have hw' : Region.wanted o (yielded ops (act (denE σ.env)).tmps) = true := hw
            obtain ⟨s, hK, hs', hrun⟩ := sil3_sound (Q := SReg σ0.H rd Su) (fun a v hv w' hw' => hv w' hw'.1) hb.rel.env hb.rel.H (fun j x A hx hj hA w' hw' => by
              have hj0 := hrd j hj
              cases hx0 : nthH σ0.H j with
              | none => rw [nthH_eq] at hx0; rw [List.getElem?_eq_none_iff] at hx0; omega
              | some x0 =>
                obtain ⟨x', h1, _, _, _, h5⟩ := hb.H j x0 hx0
                have := h5 (hl j hj); subst this
                rw [hx] at h1; cases h1
                exact ⟨_, hw'.2 j x A hx0 hj hA⟩) h
            obtain ⟨s', hK, hd', hs''⟩ := exT3_elim hK hs'
            rw [fS_eq, fE_eq] at hK
            refine anyL_first (v := s.den) ho hns (fun c a w => hQ c a w _ _) n listed _ w (Region.free_spec ho hf) (by simpa using hrd') (.inl ⟨hw', fun w' hw' => by rw [ev_eq]; exact hrun w' hw'⟩) hreg ?_
            rw [act_put]
            have := ih (hb.trans ⟨hb.rel.put o.dst hs'', AgrS.put _ _ _ _ hd, .refl _ _⟩) hS hK
            simp only [denE_putD] at this
            rwa [hd'] at this
          · rename_i hw
            have hw' : Region.wanted o (yielded ops (act (denE σ.env)).tmps) = false := hw
            rw [fE_eq] at h
            refine anyL_first (v := undef) ho hns (fun c a w => hQ c a w _ _) n listed _ w (Region.free_spec ho hf) (by simpa using hrd') (.inr ⟨hw', rfl⟩) hreg ?_
            rw [act_put]
            have := ih (hb.trans ⟨hb.rel.put o.dst (s := .c (.v undef)) trivial, AgrS.put _ _ _ _ hd, .refl _ _⟩) hS h
            simp only [denE_putD] at this
            exact this
      · refine anyL_all hr (by simp) fun i hi => ?_
        refine wpOp_mono ?_ (one3o_sound hok (allR_elim h i hi) hb.rel)
        rintro a w ⟨σ', rfl, hb', h'⟩
        have hb' := hb.trans hb'
        split at h'
        · rename_i hla
          refine ⟨.inl hla, ?_⟩
          have hrn := isLast_end hla (hr ▸ hi)
          refine anyL_done hrn ?_ n
          cases n with
          | zero => unfold any3 at h'; rw [hrn] at h'; exact hq _ _ hb' h'
          | succ n => unfold any3 at h'; rw [hrn] at h'; exact hq _ _ hb' h'
        · unfold keep3 at h'
          split at h'
          · obtain ⟨σ2, ⟨hS2, h2⟩, r2, he, hH⟩ := vis_sound h' hb'.rel
            have hb2 : Beh (dsts ops) lk S w0 σ0 σ2 w := ⟨r2, he ▸ hb'.env, hH ▸ hb'.H⟩
            rw [← he]
            exact ⟨.inr (SReg.of r2 hb2.H hl hS2), ih hb2 hS2 h2⟩
          · have hS2 := hu rfl w
            exact ⟨.inr (SReg.of hb'.rel hb'.H hl hS2), ih hb' hS2 h'⟩
end
end Go.Vc
