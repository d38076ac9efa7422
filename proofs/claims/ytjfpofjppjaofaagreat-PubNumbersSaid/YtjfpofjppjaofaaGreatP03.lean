/-
  A part of the proof of the statement PubNumbersSaid, in Lean: Sy8, VcOk. By an AI agent.
-/
import Derived.Test.YtjfpofjppjaofaaGreatP02
import Derived.KernelRfl
import Derived.Test.YtjfpofjppjaofaaGreatProg
set_option linter.unusedVariables false
set_option linter.unusedSimpArgs false
set_option maxRecDepth 100000
/-! A part of the proof that two events of one line are one event: the calculus that follows known memory by computing, and its soundness. By an AI agent. -/

namespace Go.Vc
open Go
section
variable {P : Program} {okf : Ctx} {S : Nat → Prop} {w0 : World} {nE : Nat}
def Post3 (S : Nat → Prop) (w0 : World) (m : List Nat) (lk : Nat → Bool) (σ0 : Sy) (K : Exit → Sy → Prop) (e : Exit) (a : Act) (w : World) : Prop :=
  (∀ c, e ≠ .panic c) ∧ e ≠ .outgrown ∧ ∃ σ, a = act (denE σ.env) ∧ Beh m lk S w0 σ0 σ w ∧ K e σ
theorem lockR_lt {H : List Bk} {drop : List Nat} {i : Nat} (h : lockR H drop i = true) : i < H.length := by
  simp only [lockR, Bool.and_eq_true, lenH_eq] at h
  exact Nat.le_of_ble_eq_true h.1
theorem Rel.drew {σ : Sy} {w : World} (r : Rel S w0 σ w) : Rel S w0 ⟨σ.env, σ.H, σ.M, σ.wp, true⟩ w.drew := ⟨r.fr.more (Chg.drew w), r.env, r.H, fun h => by cases h⟩
theorem vc3_sound (hok : ∀ n, okf.fns.contains n = true → okFn P n = true) (c : Code) : ∀ {an : An} {lk : Nat → Bool} {σ : Sy} {K : Exit → Sy → Prop} {w : World}, vc3 P okf S w0 nE c an lk σ K → Rel S w0 σ w →
    c.wp P (Post3 S w0 (writes c) lk σ K) (act (denE σ.env)) w := by
  have tr : ∀ {m : List Nat} {lk : Nat → Bool} {σ σ1 : Sy} {w1 : World} {K : Exit → Sy → Prop} {e : Exit} {a : Act} {w : World}, Beh m lk S w0 σ σ1 w1 → Post3 S w0 m lk σ1 K e a w → Post3 S w0 m lk σ K e a w := by
    rintro m lk σ σ1 w1 K e a w hb ⟨h1, h2, σ2, rfl, hb2, hK⟩
    exact ⟨h1, h2, σ2, rfl, hb.trans hb2, hK⟩
  induction c with
  | skip => intro an lk σ K w h r; exact wp_skip ⟨by simp, by simp, σ, rfl, ⟨r, .refl _ _, .refl _ _⟩, h⟩
  | label l => intro an lk σ K w h r; exact wp_label ⟨by simp, by simp, σ, rfl, ⟨r, .refl _ _, .refl _ _⟩, h⟩
  | exit id => intro an lk σ K w h r; exact wp_exit ⟨by simp, by simp, σ, rfl, ⟨r, .refl _ _, .refl _ _⟩, h⟩
  | ret => intro an lk σ K w h r; exact wp_ret ⟨by simp, by simp, σ, rfl, ⟨r, .refl _ _, .refl _ _⟩, h⟩
  | region id ops d =>
    intro an lk σ K w h r
    simp only [vc3] at h
    obtain ⟨σf, h, rf, hHf, hef⟩ := forget_sound h r
    have hbf : Beh (dsts ops) lk S w0 σ σf w := ⟨rf, hef ▸ .refl _ _, hHf⟩
    rw [← hef]
    refine wp_mono (Q := Post3 S w0 (dsts ops) lk σf K) ?_ (fun e a w h => tr hbf h)
    cases d with
    | false => exact wp_region (ops3_sound hok (σ0 := σf) (fun σ' w' hb hK => ⟨by simp, by simp, σ', rfl, hb, hK⟩) ⟨rf, .refl _ _, .refl _ _⟩ h)
    | true =>
      simp only at h
      split at h
      · rename_i hd
        simp only [drawOk, Bool.and_eq_true] at hd
        have lk2 : ∀ i, lk i = true → (lk i || lockR σf.H (slotsIx σf.env an.ra.drop) i) = true := fun i h => by simp [h]
        have lk3 : ∀ i, lockR σf.H (slotsIx σf.env an.ra.drop) i = true → (lk i || lockR σf.H (slotsIx σf.env an.ra.drop) i) = true := fun i h => by simp [h]
        split at h
        · refine wp_region_any hd.1 (anyL_sound (S := SReg σf.H (lockR σf.H (slotsIx σf.env an.ra.drop)) fun _ => True) _ _ _ _ ?_)
          exact any3_sound hok (σ0 := ⟨σf.env, σf.H, σf.M, σf.wp, true⟩) (σ := ⟨σf.env, σf.H, σf.M, σf.wp, true⟩) hd.2 (fun c a w d v h => absurd rfl (h.1 c)) lk3 (fun i hi => lockR_lt hi) (fun _ _ => trivial)
            (fun σ' w' hb hK => ⟨by simp, by simp, σ', rfl, ⟨hb.rel, hb.env, hb.H.mono lk2⟩, hK⟩) (Closed.init _ _) ⟨rf.drew, .refl _ _, .refl _ _⟩ trivial h
        · obtain ⟨σ1, ⟨Su, hSu, h⟩, r1, he, hH⟩ := vis_sound h rf.drew
          have he : σ1.env = σf.env := he
          have hH : σ1.H = σf.H := hH
          rw [← he]
          refine wp_region_any hd.1 (anyL_sound (S := SReg σ1.H (lockR σ1.H (slotsIx σ1.env an.ra.drop)) Su) _ _ _ _ ?_)
          exact any3_sound hok (σ0 := σ1) hd.2 (fun c a w d v h => absurd rfl (h.1 c)) (fun i h => by simp [h]) (fun i hi => lockR_lt hi) (fun h => by cases h)
            (fun σ' w' hb hK => ⟨by simp, by simp, σ', rfl, ⟨hb.rel, he ▸ hb.env, hH ▸ hb.H.mono fun i h => by simp [h]⟩, hK⟩) (Closed.init _ _) ⟨r1, .refl _ _, .refl _ _⟩ hSu h
      · exact h.elim
  | seq a b iha ihb =>
    intro an lk σ K w h r
    simp only [vc3] at h
    have upa : ∀ i, i ∈ writes a → i ∈ writes (a.seq b) := fun i hi => by simp [writes, hi]
    have upb : ∀ i, i ∈ writes b → i ∈ writes (a.seq b) := fun i hi => by simp [writes, hi]
    split at h
    · refine wp_seq (wp_mono (iha h r) ?_)
      rintro e a' w' ⟨h1, h2, σ', rfl, hb, hK⟩
      have hb' := hb.mono upa fun _ h => h
      cases e with
      | normal =>
        refine wp_mono (ihb hK hb.rel) ?_
        rintro e a'' w'' ⟨h1, h2, σ'', rfl, hb2, hK'⟩
        exact ⟨h1, h2, σ'', rfl, hb'.trans (hb2.mono upb fun _ h => h), hK'⟩
      | exit id => exact ⟨h1, h2, σ', rfl, hb', hK⟩
      | goto l => exact ⟨h1, h2, σ', rfl, hb', hK⟩
      | ret => exact ⟨h1, h2, σ', rfl, hb', hK⟩
      | panic c => exact absurd rfl (h1 c)
      | outgrown => exact absurd rfl h2
    · rename_i live gl _
      rw [fG_eq] at h
      generalize gsOf P σ.env σ.H gl [] = gs at h
      split at h
      · rename_i hgl
        simp only [Bool.and_eq_true] at hgl
        obtain ⟨J, h, hJ⟩ := h
        have lkm : ∀ i, lk i = true → lock σ.H gs lk i = true := fun i h => by simp [lock, h]
        refine wp_seq (wp_mono (iha h r) ?_)
        rintro e a' w' ⟨h1, h2, σ', rfl, hb, hK⟩
        have hb' := hb.mono upa lkm
        cases e with
        | normal =>
          simp only [seqK3] at hK
          split at hK
          · rename_i hlv
            obtain ⟨σ1, hK, r1, he, hH⟩ := vis_sound hK hb.rel
            have hb1 : Beh (writes a) (lock σ.H gs lk) S w0 σ σ1 w' := ⟨r1, he ▸ hb.env, hH ▸ hb.H⟩
            obtain ⟨p, hp, hl⟩ := at_allT (by simp [gKinds, gVals]) hK
            obtain ⟨rh, hden, hea, hHa⟩ := head_sound r hgl.1 hgl.2 hb1 (hH ▸ hlv)
            have hbb := hl _ hJ (fun i => (nthS σ1.env i).den) w' hp rh.fr.fr
            rw [fE_eq, fH_eq] at hbb
            have e1 : denE σ1.env = denE σ'.env := by rw [he]
            rw [← e1, ← hden]
            refine wp_mono (ihb hbb rh) ?_
            rintro e a'' w'' ⟨h1, h2, σ'', rfl, hb2, hK'⟩
            exact ⟨h1, h2, σ'', rfl, ⟨hb2.rel, (hea.mono upa).trans (hb2.env.mono upb), (hHa.mono lkm).trans hb2.H⟩, hK'⟩
          · exact hK.elim
        | exit id => exact ⟨h1, h2, σ', rfl, hb', hK⟩
        | goto l => exact ⟨h1, h2, σ', rfl, hb', hK⟩
        | ret => exact ⟨h1, h2, σ', rfl, hb', hK⟩
        | panic c => exact absurd rfl (h1 c)
        | outgrown => exact absurd rfl h2
      · exact h.elim
  | cond c a b iha ihb =>
    intro an lk σ K w h r
    simp only [vc3] at h
    have ta : vc3 P okf S w0 nE a an.fst lk σ K → ev (denE σ.env) c = .bool true → (Code.cond c a b).wp P (Post3 S w0 (writes (.cond c a b)) lk σ K) (act (denE σ.env)) w := fun h he => by
      refine wp_cond_true (by rw [ev_eq]; exact he) (wp_mono (iha h r) ?_)
      rintro e a' w' ⟨h1, h2, σ', rfl, hb, hK⟩
      exact ⟨h1, h2, σ', rfl, hb.mono (fun i hi => by simp [writes, hi]) fun _ h => h, hK⟩
    have tb : vc3 P okf S w0 nE b an.snd lk σ K → ev (denE σ.env) c = .bool false → (Code.cond c a b).wp P (Post3 S w0 (writes (.cond c a b)) lk σ K) (act (denE σ.env)) w := fun h he => by
      refine wp_cond_false (by rw [ev_eq]; exact he) (wp_mono (ihb h r) ?_)
      rintro e a' w' ⟨h1, h2, σ', rfl, hb, hK⟩
      exact ⟨h1, h2, σ', rfl, hb.mono (fun i hi => by simp [writes, hi]) fun _ h => h, hK⟩
    split at h
    · rename_i he; exact ta h (by rw [← ev3_den, he]; rfl)
    · rename_i he; exact tb h (by rw [← ev3_den, he]; rfl)
    · rename_i he; exact ta h (by rw [← ev3_den, he]; rfl)
    · rename_i he; exact tb h (by rw [← ev3_den, he]; rfl)
    · exact h.elim
  | block id a iha =>
    intro an lk σ K w h r
    refine wp_block (wp_mono (iha h r) ?_)
    rintro e a' w' ⟨h1, h2, σ', rfl, hb, hK⟩
    cases e with
    | normal => exact ⟨h1, h2, σ', rfl, hb, hK⟩
    | exit i =>
      simp only [blkK3] at hK
      simp only [Exit.inBlock]
      split at hK <;> rename_i hi
      · rw [if_pos hi]; exact ⟨by simp, by simp, σ', rfl, hb, hK⟩
      · rw [if_neg hi]; exact ⟨h1, h2, σ', rfl, hb, hK⟩
    | goto l => exact ⟨h1, h2, σ', rfl, hb, hK⟩
    | ret => exact ⟨h1, h2, σ', rfl, hb, hK⟩
    | panic c => exact absurd rfl (h1 c)
    | outgrown => exact absurd rfl h2
  | scope a iha =>
    intro an lk σ K w h r
    refine wp_scope_straight (wp_mono (iha h r) ?_)
    rintro e a' w' ⟨h1, h2, σ', rfl, hb, hK⟩
    cases e with
    | normal => exact ⟨h1, h2, σ', rfl, hb, hK⟩
    | exit i => exact ⟨h1, h2, σ', rfl, hb, hK⟩
    | goto l => exact hK.elim
    | ret => exact ⟨h1, h2, σ', rfl, hb, hK⟩
    | panic c => exact absurd rfl (h1 c)
    | outgrown => exact absurd rfl h2
  | loop a iha =>
    intro an lk σ1 K w h r1
    simp only [vc3] at h
    obtain ⟨σ2, h, r2, hH2, he2⟩ := forget_sound h r1
    obtain ⟨σ3, h, r3, he3, hH3⟩ := vis_sound h r2
    obtain ⟨σ, h, r, hH4, he4⟩ := forget_sound h r3
    have hef : σ.env = σ1.env := he4.trans (he3.trans he2)
    have hHf : AgrH lk σ1.H σ.H := hH2.trans (hH3 ▸ hH4)
    rw [← hef]
    refine wp_mono (Q := Post3 S w0 (writes a) lk σ K) ?_ (fun e a w h => tr (σ1 := σ) ⟨r, hef ▸ .refl _ _, hHf⟩ h)
    clear hHf hef r1 he2 he3 he4 hH2 hH3 hH4 r2 r3
    rw [fG_eq] at h
    generalize gsOf P σ.env σ.H an.live.2 [] = gs at h
    split at h
    · rename_i hgl
      simp only [Bool.and_eq_true] at hgl
      obtain ⟨I, ⟨m, h0⟩, hI⟩ := h
      obtain ⟨σ0, rfl⟩ : ∃ σ0, σ0 = σ := ⟨_, rfl⟩
      have r0 := r
      have he0 : σ0.env = σ0.env := rfl
      have hH0 : σ0.H = σ0.H := rfl
      have hg0 : gsOk σ0.H lk gs = true := hgl.1
      have lkm : ∀ i, lk i = true → lock σ0.H gs lk i = true := fun i h => by simp [lock, h]
      have hb0 : Beh (writes a) lk S w0 σ0 σ0 w := ⟨r0, .refl _ _, .refl _ _⟩
      have lv0 : gsLive σ0.H gs = true := by
        have : ∀ g : List (Nat × Sk), gsOk σ0.H lk g = true → gsLive σ0.H g = true := by
          intro g
          induction g with
          | nil => intro _; rfl
          | cons x g ih =>
            obtain ⟨i, k⟩ := x
            intro h
            simp only [gsOk, Bool.and_eq_true] at h
            simp only [gsLive, Bool.and_eq_true]
            refine ⟨?_, ih h.2⟩
            have h1 := h.1.2
            split at h1
            · rename_i hx; rw [hx]
            · rename_i hx; rw [hx]
            · cases h1
        exact this _ hg0
      refine wp_loop' (fun n a' w' => ∃ σ1 p, a' = act (denE σ1.env) ∧ Beh (writes a) (lock σ0.H gs lk) S w0 σ0 σ1 w' ∧ gsLive σ1.H gs = true ∧ p n w' ∧
        ∀ L : List Value → (Nat → World → Prop) → Prop, allT (gKinds an.live.1 gs) I L → L (gVals σ1 an.live.1 gs) p) ?_ (n := m) ?_
      · rintro n a' w' ⟨σ1, p, rfl, hb1, hlv, hp, hl⟩
        obtain ⟨rh, hden, hea, hHa⟩ := head_sound r0 hg0 hgl.2 hb1 hlv
        have hbb := hl _ hI (fun i => (nthS σ1.env i).den) n w' hp rh.fr.fr
        rw [fE_eq, fH_eq] at hbb
        have := iha hbb rh
        rw [hden] at this
        refine wp_mono this ?_
        rintro e a'' w'' ⟨h1, h2, σ2, rfl, hb2, hK⟩
        have hb2' : Beh (writes a) (lock σ0.H gs lk) S w0 σ0 σ2 w'' := ⟨hb2.rel, hea.trans hb2.env, hHa.trans hb2.H⟩
        have out : Beh (writes a) lk S w0 σ0 σ2 w'' := hb0.trans (hb2'.mono (fun _ h => h) lkm)
        cases e with
        | normal =>
          simp only [seqK3] at hK
          split at hK
          · rename_i hlv2
            obtain ⟨σ3, ⟨m', hm', hK⟩, r3, he3, hH3⟩ := vis_sound hK hb2.rel
            obtain ⟨p', hp', hl'⟩ := at_allT (by simp [gKinds, gVals]) hK
            exact ⟨m', hm', σ3, p', by rw [he3], ⟨r3, he3 ▸ hb2'.env, hH3 ▸ hb2'.H⟩, hH3 ▸ hlv2, hp', hl'⟩
          · exact hK.elim
        | exit id => exact ⟨h1, h2, σ2, rfl, out, hK⟩
        | goto l => exact ⟨h1, h2, σ2, rfl, out, hK⟩
        | ret => exact ⟨h1, h2, σ2, rfl, out, hK⟩
        | panic c => exact absurd rfl (h1 c)
        | outgrown => exact absurd rfl h2
      · obtain ⟨p, hp, hl⟩ := at_allT (by simp [gKinds, gVals]) h0
        exact ⟨σ0, p, rfl, ⟨r0, .refl _ _, .refl _ _⟩, lv0, hp, hl⟩
    · exact h.elim
  | rangeFunc => intro an lk σ K w h; exact h.elim
  | goto => intro an lk σ K w h; exact h.elim
  | refuse => intro an lk σ K w h; exact h.elim
theorem resK_sound {σ : Sy} {w : World} (r : Rel S w0 σ w) : ∀ {rs : List ResultVar} {K : List Value → Prop}, resK P σ.H σ.env rs K →
    ∃ vs, K vs ∧ (rs.mapM (fun | .tmp t => pure (nth (denE σ.env) t) | .cell a t => do loadVar t (← asAddr (nth (denE σ.env) a))) : Sem (List Value)).run P w = .ok vs w := by
  intro rs
  induction rs with
  | nil => intro K h; exact ⟨[], h, rfl⟩
  | cons x rs ih =>
    intro K h
    have fin : ∀ v, resK P σ.H σ.env rs (fun vs => K (v :: vs)) → (((fun | .tmp t => pure (nth (denE σ.env) t) | .cell a t => do loadVar t (← asAddr (nth (denE σ.env) a))) : ResultVar → Sem Value) x).run P w = .ok v w →
        ∃ vs, K vs ∧ ((x :: rs).mapM (fun | .tmp t => pure (nth (denE σ.env) t) | .cell a t => do loadVar t (← asAddr (nth (denE σ.env) a))) : Sem (List Value)).run P w = .ok vs w := by
      intro v h hr
      obtain ⟨vs, hK, hvs⟩ := ih h
      refine ⟨v :: vs, hK, ?_⟩
      rw [List.mapM_cons, Sem.run_bind, hr]
      simp only [Result.andThen_ok, Sem.run_bind]
      rw [hvs]; rfl
    cases x with
    | tmp t =>
      simp only [resK] at h
      rw [denE_nth] at h
      exact fin _ h rfl
    | cell a t =>
      simp only [resK] at h
      split at h
      · rename_i i b lit o ha
        have ea : nth (denE σ.env) a = .pointer (some ⟨b, o, none⟩) := by rw [← denE_nth, ha]; rfl
        have hwf := wfE_nth r.env a; rw [ha] at hwf
        have hwf : (bsH σ.H)[i]? = some b := hwf
        rw [bsH_get] at hwf
        have go : ∀ s : SV, ∀ x A, nthH σ.H i = some x → x.cs.arr = some A → (∀ (w : World) T, w.heap[b]? = some (.cells A T (0, 0)) → (loadVar t ⟨b, o, none⟩).run P w = .ok s.den w) →
            resK P σ.H σ.env rs (fun vs => K (s.den :: vs)) → _ := fun s x A hx hA hr hK => fin s.den hK (by
          rw [hx] at hwf
          have hb : x.b = b := by simpa using hwf
          have := hr w x.T (hb ▸ r.fr.loc i x A hx hA)
          simp [ea, asAddr, this])
        split at h
        · rename_i b' cs T wr hx
          have hcs := r.H i _ cs hx rfl
          split at h
          · obtain ⟨s, hK, _, hr, _⟩ := ldL_run h (bsH σ.H) hcs
            exact go s _ _ hx rfl (fun w T hT => hr b w T hT) hK
          · obtain ⟨s, hK, _, hr⟩ := ldR_run h (bsH σ.H)
            exact go s _ _ hx rfl (fun w T hT => hr b w T hT) hK
        · rename_i b' A T wr hx
          obtain ⟨s, hK, _, hr⟩ := ldR_run h (bsH σ.H)
          exact go s _ _ hx rfl (fun w T hT => hr b w T hT) hK
        · exact h.elim
      · exact h.elim
theorem results_run {fn : Func} {env : List Value} {w : World} {vs : List Value}
    (h : (fn.results.toList.mapM (fun | .tmp t => pure (nth env t) | .cell a t => do loadVar t (← asAddr (nth env a))) : Sem (List Value)).run P w = .ok vs w) :
    (results fn env.toArray).run P w = .ok (oneV vs) w := by
  have h2 : (Array.toList <$> (fn.results.mapM (fun | .tmp t => pure (nth env t) | .cell a t => do loadVar t (← asAddr (nth env a))) : Sem (Array Value))).run P w = .ok vs w := by
    rw [Array.toList_mapM]; exact h
  rw [Sem.run_map] at h2
  have h3 : (fn.results.mapM (fun | .tmp t => pure (nth env t) | .cell a t => do loadVar t (← asAddr (nth env a))) : Sem (Array Value)).run P w = .ok ⟨vs⟩ w := by
    cases hx : (fn.results.mapM (fun | .tmp t => pure (nth env t) | .cell a t => do loadVar t (← asAddr (nth env a))) : Sem (Array Value)).run P w with
    | halt x w' => rw [hx] at h2; simp at h2
    | ok a w' =>
      rw [hx] at h2
      simp only [Result.andThen_ok, Result.ok.injEq] at h2
      obtain ⟨h3, rfl⟩ := h2
      congr 1
      apply Array.toList_inj.1
      simpa using h3
  have e : (results fn env.toArray) = (do
      let vs ← fn.results.mapM (fun | .tmp t => pure (nth env t) | .cell a t => do loadVar t (← asAddr (nth env a)))
      pure (if h : vs.size = 1 then vs[0] else .tuple vs) : Sem Value) := by
    unfold results
    congr 2
    funext x
    cases x <;> simp [nth_eq]
  rw [e, Sem.run_bind, h3]
  simp only [Result.andThen_ok, Sem.run_pure]
  congr 1
  cases vs with
  | nil => rfl
  | cons v vs => cases vs <;> rfl
/-- what points into the known blocks says their numbers, in a form that computes -/
def wfCs' (bs : List Nat) : List Cel → Prop
  | [] => True
  | x :: l => wfC bs x ∧ wfCs' bs l
def wfE'.wfS' (bs : List Nat) : SV → Prop
  | .c x => wfC bs x
  | .a l => wfCs' bs l
def wfE' (bs : List Nat) : List SV → Prop
  | [] => True
  | x :: l => wfE'.wfS' bs x ∧ wfE' bs l
def wfH' (bs : List Nat) : List Bk → Prop
  | [] => True
  | ⟨_, .l cs, _, _⟩ :: H => wfCs' bs cs ∧ wfH' bs H
  | _ :: H => wfH' bs H
theorem wfCs'_ok {bs : List Nat} : ∀ {l : List Cel}, wfCs' bs l → wfCs bs l
  | [], _, x, hx => by cases hx
  | y :: l, h, x, hx => by
    rcases List.mem_cons.1 hx with rfl | hx
    · exact h.1
    · exact wfCs'_ok h.2 x hx
theorem wfE'_ok {bs : List Nat} : ∀ {l : List SV}, wfE' bs l → wfE bs l
  | [], _, x, hx => by cases hx
  | y :: l, h, x, hx => by
    rcases List.mem_cons.1 hx with rfl | hx
    · cases x with
      | c x => exact h.1
      | a l => exact wfCs'_ok h.1
    · exact wfE'_ok h.2 x hx
theorem wfH'_ok {bs : List Nat} : ∀ {H : List Bk}, wfH' bs H → wfH bs H
  | [], _, i, x, cs, hx, e => by cases hx
  | ⟨b, c, T, w⟩ :: H, h, 0, x, cs, hx, e => by
    cases hx
    have e : c = .l cs := e
    subst e
    exact wfCs'_ok h.1
  | ⟨b, c, T, w⟩ :: H, h, i + 1, x, cs, hx, e => by
    cases c with
    | l c => exact wfH'_ok (H := H) h.2 i x cs hx e
    | _ => exact wfH'_ok (H := H) h i x cs hx e
theorem dist_of : ∀ {H : List Bk}, ((LH H).map (·.b)).Nodup → ∀ i j x y, nthH H i = some x → nthH H j = some y → x.cs.arr.isSome = true → y.cs.arr.isSome = true → x.b = y.b → i = j
  | [], _, i, j, x, y, hx, _, _, _, _ => by cases hx
  | ⟨b, c, T, w⟩ :: H, h, i, j, x, y, hx, hy, h1, h2, e => by
    have tl : ((LH H).map (·.b)).Nodup := by
      unfold LH at h; split at h
      · rw [List.map_cons, List.nodup_cons] at h; exact h.2
      · exact h
    have mem : ∀ j y, nthH H j = some y → y.cs.arr.isSome = true → c.arr.isSome = true → y.b = b → False := by
      intro j y hy h2 h1 e
      cases hA : y.cs.arr with
      | none => rw [hA] at h2; cases h2
      | some A =>
        cases hc : c.arr with
        | none => rw [hc] at h1; cases h1
        | some B =>
          unfold LH at h; rw [hc] at h
          simp only [List.map_cons, List.nodup_cons] at h
          exact h.1 (List.mem_map.2 ⟨_, mem_LH.2 ⟨j, y, A, hy, hA, rfl⟩, e⟩)
    cases i with
    | zero =>
      cases hx
      cases j with
      | zero => rfl
      | succ j => exact (mem j y hy h2 h1 e.symm).elim
    | succ i =>
      cases j with
      | zero => cases hy; exact (mem i x hx h1 h2 e).elim
      | succ j => rw [dist_of tl i j x y hx hy h1 h2 e]
/-- the entries that may be written are told so -/
def newOk (S : Nat → Prop) : List Bk → Prop
  | [] => True
  | ⟨b, _, _, true⟩ :: H => S b ∧ newOk S H
  | ⟨_, _, _, false⟩ :: H => newOk S H
theorem newOk_ok {S : Nat → Prop} : ∀ {H : List Bk}, newOk S H → ∀ x, x ∈ H → x.wr = true → S x.b
  | [], _, x, hx, _ => by cases hx
  | ⟨b, c, T, true⟩ :: H, h, x, hx, hw => by
    rcases List.mem_cons.1 hx with rfl | hx
    · exact h.1
    · exact newOk_ok h.2 x hx hw
  | ⟨b, c, T, false⟩ :: H, h, x, hx, hw => by
    rcases List.mem_cons.1 hx with rfl | hx
    · cases hw
    · exact newOk_ok (H := H) h x hx hw
/-- THE RULE: a call comes to what the body's condition says. -/
theorem call_of_vc3 (hok : ∀ n, okf.fns.contains n = true → okFn P n = true) {f : FuncId} {fn : Func} {args : List SV} {H : List Bk} {w : World} {K : Value → World → Prop} (an : An)
    (hf : P.funcs[f]? = some fn) (hb : fn.body.isSome = true) (hwe : wfE' (bsH H) args) (hwh : wfH' (bsH H) H) (hF : Fs S w (LH H) w) (hnew : newOk S H)
    (h : vc3 P okf S w (lenH H) (body fn) an (fun _ => false) ⟨args ++ List.replicate (fn.ntmps - args.length) (.c (.v undef)), H, [], w, false⟩ (retK3 P S w (lenH H) fn K)) : CallV P f ⟨denE args⟩ w K := by
  cases hc : fn.body with
  | none => simp [hc] at hb
  | some c =>
    have hbody : body fn = c := by simp [body, hc]
    rw [hbody] at h
    have r : Rel S w ⟨args ++ List.replicate (fn.ntmps - args.length) (.c (.v undef)), H, [], w, false⟩ w := by
      refine ⟨⟨hF.chg, .refl _ _, fun i x A hx hA => hF.loc ⟨x.b, A, x.T, x.wr⟩ (mem_LH.2 ⟨i, x, A, hx, hA, rfl⟩), dist_of hF.nodup, fun i x hx hw => .inl (newOk_ok hnew x (by rw [nthH_eq] at hx; exact List.mem_of_getElem? hx) hw)⟩, ?_, wfH'_ok hwh, fun _ => rfl⟩
      intro s hs
      rcases List.mem_append.1 hs with hs | hs
      · exact wfE'_ok hwe s hs
      · rw [List.mem_replicate] at hs; rw [hs.2]; exact trivial
    refine calls_of_wp hf hc ?_
    have happ : ∀ (a b : List SV), denE (a ++ b) = denE a ++ denE b := by
      intro a b
      induction a with
      | nil => rfl
      | cons x a ih => simp [denE, ih]
    have hrep : ∀ n, denE (List.replicate n (.c (.v undef))) = List.replicate n undef := by
      intro n
      induction n with
      | zero => rfl
      | succ n ih => simp only [List.replicate_succ, denE, ih]; rfl
    have henv : ({ tmps := (⟨denE args⟩ : Array Value) ++ Array.replicate (fn.ntmps - (⟨denE args⟩ : Array Value).size) undef, defers := [] } : Act) = act (denE (args ++ List.replicate (fn.ntmps - args.length) (.c (.v undef)))) := by
      rw [happ, hrep]
      simp [act, denE_len]
    rw [henv]
    refine wp_mono (vc3_sound hok c h r) ?_
    rintro e a' w' ⟨h1, h2, σ', rfl, hb', hK⟩
    have fin : (resK P σ'.H σ'.env fn.results.toList fun vs => forget (some []) (lenH H) (fun _ => false) σ' fun σ => vis S w σ fun w _ => K (oneV vs) w) →
        (act (denE σ'.env)).defers = [] ∧ ∃ v, (results fn (act (denE σ'.env)).tmps).run P w' = .ok v w' ∧ ∃ v', Ending.returned v = Ending.returned v' ∧ K v' w' := fun h => by
      obtain ⟨vs, hK, hr⟩ := resK_sound hb'.rel h
      obtain ⟨σ2, hK, r2, _, _⟩ := forget_sound hK hb'.rel
      obtain ⟨σ3, hK, _⟩ := vis_sound hK r2
      exact ⟨rfl, oneV vs, results_run hr, _, rfl, hK⟩
    cases e with
    | normal => exact fin hK
    | ret => exact fin hK
    | exit i => exact hK.elim
    | goto l => exact hK.elim
    | panic c => exact absurd rfl (h1 c)
    | outgrown => exact absurd rfl h2
end
end Go.Vc

/-! A part of the proof that two events of one line are one event: the calculus that follows known memory by computing, and its soundness. By an AI agent. -/



namespace Go.Vc
open Go
/-- the functions that have a body -/
def okL : List Nat := [2, 3, 4, 5, 6, 7, 8, 9, 10, 11, 12, 13, 14, 15, 16, 17, 18, 19, 20, 21, 22, 23, 24, 25, 26, 27, 28, 29, 30, 31, 32, 33, 34, 35, 36, 37, 38, 39, 40, 41, 42, 43, 44, 45, 46, 47, 48, 49, 50, 51, 52, 53, 54, 55, 56, 57, 58, 59, 60, 61, 62, 63, 64, 65, 66, 67, 68, 69, 70, 71, 72, 73, 74, 75, 76, 77, 78, 79, 80, 81, 82, 83, 84, 85, 86, 87, 88, 89, 90, 91, 92, 93, 94, 95, 96, 97, 98, 99, 100, 101, 102, 103, 104, 105, 106, 107, 108, 109, 110, 111, 112, 113, 114, 115, 116, 117, 118, 119, 120, 121, 122, 123, 124, 125, 128, 129, 130, 131, 132, 133, 134, 135, 136, 137, 138, 139, 140, 141, 142, 143, 144, 145, 146, 147, 148, 149, 150, 151, 152, 153, 154, 155, 156, 157, 158, 159, 160, 161, 162, 163, 164, 165, 166, 167, 168, 169, 170, 171, 172, 173, 174, 175, 176, 177, 178, 179]
theorem okL_all : okL.all (okFn Go.Proofs.Tryz.prog) = true := by kernel_rfl
theorem okL_ok : ∀ n, okL.contains n = true → okFn Go.Proofs.Tryz.prog n = true := fun n h =>
  List.all_eq_true.1 okL_all n (by simpa using h)
end Go.Vc
