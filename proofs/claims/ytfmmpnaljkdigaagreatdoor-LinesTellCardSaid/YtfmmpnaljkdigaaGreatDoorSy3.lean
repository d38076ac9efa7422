/-
  A part of the proof that two events of one line are one event: the calculus that follows known memory by computing, and its soundness. By an AI agent.
-/
import Derived.Test.YtfmmpnaljkdigaaGreatDoorSy2
set_option linter.unusedVariables false
set_option linter.unusedSimpArgs false
namespace Go.Vc
open Go
section
variable {P : Program} {R : Addr → Value → Prop} {Q : World → Prop}
theorem fb_sound (hR : ∀ a v, R a v → ∀ w, Q w → w.cell? a = some v) {env : List SV} {o : Oper} {K : SV → Prop} {bs : List Nat} {f : Value → SV} (hf : ∀ v, (f v).den = v ∧ wfS bs (f v))
    (h : opS P R (denE env) o fun v => K (f v)) : ∃ s, K s ∧ wfS bs s ∧ ∀ w, Q w → (execOp (ev (denE env)) o).run P w = .ok (.value s.den) w := by
  obtain ⟨v, hK, hr⟩ := opS_sound hR h
  exact ⟨f v, hK, (hf v).2, fun w hw => by rw [(hf v).1]; exact hr w hw⟩
theorem f_v (bs : List Nat) (v : Value) : (SV.c (.v v)).den = v ∧ wfS bs (SV.c (.v v)) := ⟨rfl, trivial⟩
theorem f_lit (bs : List Nat) (v : Value) : (litV v).den = v ∧ wfS bs (litV v) := ⟨litV_den v, wfS_litV bs v⟩
theorem f_if (bs : List Nat) (b : Bool) (v : Value) : (litIf b v).den = v ∧ wfS bs (litIf b v) := by
  cases b
  · exact f_v bs v
  · exact f_lit bs v
theorem hiC_hiS {env : List SV} {len y : Nat} {o : Option Operand} {K : Nat → Prop} (h : hiC env len y o K) : hiS (denE env) len y o K := by
  cases o with
  | none => exact h
  | some o =>
    simp only [hiC] at h
    simp only [hiS, ← ev3_den]
    split at h
    · rename_i k n he; rw [he]; exact h
    · exact h.elim
theorem loC_loS {env : List SV} {y : Nat} {o : Option Operand} {K : Nat → Prop} (h : loC env y o K) : loS (denE env) y o K := by
  cases o with
  | none => exact h
  | some o =>
    simp only [loC] at h
    simp only [loS, ← ev3_den]
    split at h
    · rename_i k n he; rw [he]; exact h
    · exact h.elim
theorem hiS_mono {env : List Value} {len y : Nat} {o : Option Operand} {K K' : Nat → Prop} (hk : ∀ n, K n → K' n) (h : hiS env len y o K) : hiS env len y o K' := by
  cases o with
  | none => exact hk _ h
  | some o =>
    simp only [hiS] at h ⊢
    split at h
    · exact ⟨h.1, h.2.1, hk _ h.2.2⟩
    · exact h.elim
theorem loS_mono {env : List Value} {y : Nat} {o : Option Operand} {K K' : Nat → Prop} (hk : ∀ n, (o = none → n = 0) → K n → K' n) (h : loS env y o K) : loS env y o K' := by
  cases o with
  | none => exact hk _ (fun _ => rfl) h
  | some o =>
    simp only [loS] at h ⊢
    split at h
    · exact ⟨h.1, h.2.1, hk _ (fun e => by cases e) h.2.2⟩
    · exact h.elim
theorem sliceAt0_eq (lo : Option Operand) (b cap l o sz : Nat) (h : lo = none → l = 0) : (if cap = l then (⟨b, o, none⟩ : Addr) else (⟨b, o, none⟩ : Addr).add (l * sz)) = ⟨b, sliceAt0 lo cap l o sz, none⟩ := by
  unfold sliceAt0
  cases lo with
  | none => rw [h rfl]; simp [Addr.add]
  | some x =>
    simp only [add_mk]
    split <;> rfl
theorem sil3_sound (hR : ∀ a v, R a v → ∀ w, Q w → w.cell? a = some v) {rd : Nat → Bool} {env : List SV} {H : List Bk} {o : Oper} {K : SV → Prop} (hw : wfE (bsH H) env) (hH : wfH (bsH H) H)
    (hB : ∀ i x A, nthH H i = some x → rd i = true → x.cs.arr = some A → ∀ w, Q w → ∃ T, w.heap[x.b]? = some (.cells A T (0, 0))) (h : sil3 P R rd env H o K) :
    ∃ s, K s ∧ wfS (bsH H) s ∧ ∀ w, Q w → (execOp (ev (denE env)) o).run P w = .ok (.value s.den) w := by
  have fv := fb_sound (P := P) (env := env) (o := o) (K := K) hR (f := fun v => .c (.v v)) (fun v => f_v (bsH H) v)
  have fl := fb_sound (P := P) (env := env) (o := o) (K := K) hR (f := litV) (fun v => f_lit (bsH H) v)
  have fi := fun b => fb_sound (P := P) (env := env) (o := o) (K := K) hR (f := fun v => litIf b v) (fun v => f_if (bsH H) b v)
  unfold sil3 at h
  split at h
  · rename_i x ho; exact ⟨_, h, wfS_ev hw x, fun w _ => by simp [execOp, ho, ev3_den]⟩
  · rename_i x ho; exact ⟨_, h, wfS_ev hw x, fun w _ => by simp [execOp, ho, ev3_den]⟩
  · rename_i c a b ho
    split at h
    · rename_i hc
      have e : ev (denE env) c = .bool true := by rw [← ev3_den, hc]; rfl
      exact ⟨_, h, wfS_ev hw a, fun w _ => by simp [execOp, ho, ev3_den, e, asBool]⟩
    · rename_i hc
      have e : ev (denE env) c = .bool false := by rw [← ev3_den, hc]; rfl
      exact ⟨_, h, wfS_ev hw b, fun w _ => by simp [execOp, ho, ev3_den, e, asBool]⟩
    · exact h.elim
  · rename_i x ho
    split at h
    · rename_i i b l a hx
      have e : ev (denE env) x = .pointer (some ⟨b, a, none⟩) := by rw [← ev3_den, hx]; rfl
      have hwf := wfS_ev hw x; rw [hx] at hwf
      exact ⟨_, h, hwf, fun w _ => by simp [execOp, ho, e, SV.den, Cel.den]⟩
    · exact fv h
  · rename_i s x f ho
    split at h
    · rename_i i b l a hx
      have e : ev (denE env) x = .pointer (some ⟨b, a, none⟩) := by rw [← ev3_den, hx]; rfl
      have hwf := wfS_ev hw x; rw [hx] at hwf
      split at h
      · rename_i fs hu
        split at h
        · rename_i fd hf
          split at h
          · rename_i hk
            simp only [Bool.and_eq_true, Bool.not_eq_true'] at hk
            have hz : szOf P fd.type ≠ 0 := fun e0 => by rw [e0] at hk; simp at hk
            refine ⟨_, h, hwf, fun w _ => ?_⟩
            simp [execOp, ho, e, Instr.fieldAt, run_underlying hu, hf, Instr.sureAddr, fieldPlace, run_sizeOf hk.1, hz, SV.den, Cel.den, add_mk]
          · exact h.elim
        · exact h.elim
      · exact h.elim
    · exact fv h
  · rename_i s x f ho
    split at h
    · rename_i cs hx
      have e : ev (denE env) x = .agg ⟨denCs cs⟩ := by rw [← ev3_den, hx]; rfl
      have hwf := wfS_ev hw x; rw [hx] at hwf
      unfold fieldC at h
      split at h
      · rename_i fs hu
        split at h
        · rename_i fd hf
          obtain ⟨s', hK, hs, _, hr⟩ := ldL_run h (bsH H) hwf
          refine ⟨s', hK, hs, fun w _ => ?_⟩
          simp [execOp, ho, e, Instr.field, run_underlying hu, hf, asAgg, hr w]
        · exact h.elim
      · exact h.elim
    · exact fi _ h
  · rename_i t x i ho
    split at h
    · rename_i cs k n l e hx hc hi hu
      have ex : ev (denE env) x = .agg ⟨denCs cs⟩ := by rw [← ev3_den, hx]; rfl
      have ei : ev (denE env) i = .int k n := by rw [← ev3_den, hi]; rfl
      have hwf := wfS_ev hw x; rw [hx] at hwf
      split at h
      · rename_i n
        split at h
        · rename_i hn
          simp only [Bool.and_eq_true] at hn
          have hlt : n < l := by
            have := Nat.le_of_ble_eq_true (n := n + 1) (m := l) hn.1
            omega
          obtain ⟨s', hK, hs, _, hr⟩ := ldL_run h (bsH H) hwf
          refine ⟨s', hK, hs, fun w _ => ?_⟩
          have e1 : (0 : Int) ≤ Int.ofNat n ∧ Int.ofNat n < (l : Int) := ⟨Int.natCast_nonneg n, by show (n : Int) < l; omega⟩
          have e2 : (Int.ofNat n).toNat = n := rfl
          simp only [execOp, ho, ex, ei, Instr.index, asIntOf, Sem.run_bind, Sem.run_pure, Result.andThen_ok, run_underlying hu, Sem.run_ite]
          rw [if_pos e1]
          simp [run_sizeOf hn.2, hr w]
        · exact h.elim
      · exact h.elim
    · exact fi _ h
  · rename_i t x i ho
    split at h
    · rename_i b n lit a l c k j e hx hi hu
      have ex : ev (denE env) x = .slice (some ⟨n, a, none⟩) l c := by rw [← ev3_den, hx]; rfl
      have ei : ev (denE env) i = .int k j := by rw [← ev3_den, hi]; rfl
      have hwf := wfS_ev hw x; rw [hx] at hwf
      split at h
      · rename_i hk
        obtain ⟨h0, h1, h⟩ := h
        have : idxS P t (ev (denE env) x) (ev (denE env) i) fun v => v = .pointer (some ⟨n, a + j.toNat * szOf P e, none⟩) := by
          rw [ex, ei]; unfold idxS; simp only [hu, if_pos hk]
          exact ⟨_, rfl, h0, h1, by rw [add_mk]⟩
        obtain ⟨v, rfl, hr⟩ := idxS_sound this
        exact ⟨_, h, hwf, fun w _ => by simp [execOp, ho, hr w, SV.den, Cel.den]⟩
      · exact h.elim
    · rename_i b n lit a k j l e hx hi hu
      have ex : ev (denE env) x = .pointer (some ⟨n, a, none⟩) := by rw [← ev3_den, hx]; rfl
      have ei : ev (denE env) i = .int k j := by rw [← ev3_den, hi]; rfl
      have hwf := wfS_ev hw x; rw [hx] at hwf
      split at h
      · rename_i hk
        obtain ⟨h0, h1, h⟩ := h
        have : idxS P t (ev (denE env) x) (ev (denE env) i) fun v => v = .pointer (some ⟨n, a + j.toNat * szOf P e, none⟩) := by
          rw [ex, ei]; unfold idxS; simp only [hu, if_pos hk]
          exact ⟨_, rfl, h0, h1, by rw [add_mk]⟩
        obtain ⟨v, rfl, hr⟩ := idxS_sound this
        exact ⟨_, h, hwf, fun w _ => by simp [execOp, ho, hr w, SV.den, Cel.den]⟩
      · exact h.elim
    · exact fv h
  · rename_i t x lo hi ho
    split at h
    · rename_i b n lit a l c e hx hu
      have ex : ev (denE env) x = .slice (some ⟨n, a, none⟩) l c := by rw [← ev3_den, hx]; rfl
      have hwf := wfS_ev hw x; rw [hx] at hwf
      split at h
      · rename_i hk
        have : slS P (denE env) t (ev (denE env) x) lo hi fun v => ∃ s, v = s.den ∧ wfS (bsH H) s ∧ K s := by
          rw [ex]; unfold slS; simp only [hu, if_pos hk]
          refine hiS_mono (fun h' hh => ?_) (hiC_hiS h)
          refine loS_mono (fun g hg hK => ?_) (loC_loS hh)
          refine ⟨_, ?_, ?_, hK⟩
          · simp only [SV.den, Cel.den, Option.map_some]
            have := sliceAt0_eq lo n c g a (szOf P e) hg
            rw [← this]
            split <;> rfl
          · exact (show (bsH H)[b]? = some n from hwf)
        obtain ⟨v, ⟨s, rfl, hs, hK⟩, hr⟩ := slS_sound this
        exact ⟨s, hK, hs, fun w _ => by simp [execOp, ho, hr w]⟩
      · exact h.elim
    · rename_i b n lit a l e hx hu
      have ex : ev (denE env) x = .pointer (some ⟨n, a, none⟩) := by rw [← ev3_den, hx]; rfl
      have hwf := wfS_ev hw x; rw [hx] at hwf
      split at h
      · rename_i hk
        have : slS P (denE env) t (ev (denE env) x) lo hi fun v => ∃ s, v = s.den ∧ wfS (bsH H) s ∧ K s := by
          rw [ex]; unfold slS; simp only [hu, if_pos hk]
          refine ⟨_, rfl, ?_⟩
          refine hiS_mono (fun h' hh => ?_) (hiC_hiS h)
          refine loS_mono (fun g hg hK => ?_) (loC_loS hh)
          refine ⟨_, ?_, ?_, hK⟩
          · simp only [SV.den, Cel.den]
            rw [sliceAt0_eq lo n l g a (szOf P e) hg]
          · exact (show (bsH H)[b]? = some n from hwf)
        obtain ⟨v, ⟨s, rfl, hs, hK⟩, hr⟩ := slS_sound this
        exact ⟨s, hK, hs, fun w _ => by simp [execOp, ho, hr w]⟩
      · exact h.elim
    · exact fv h
  · rename_i t a ho
    split at h
    · rename_i i b lit o' ha
      have ea : ev (denE env) a = .pointer (some ⟨b, o', none⟩) := by rw [← ev3_den, ha]; rfl
      have hwf := wfS_ev hw a; rw [ha] at hwf
      have hwf : (bsH H)[i]? = some b := hwf
      rw [bsH_get] at hwf
      have run : ∀ s : SV, (∀ (w : World) T A, (∀ x, nthH H i = some x → x.cs.arr = some A) → w.heap[b]? = some (.cells A T (0, 0)) → (loadVar t ⟨b, o', none⟩).run P w = .ok s.den w) →
          ∀ x A, nthH H i = some x → x.cs.arr = some A → rd i = true → ∀ w, Q w → (execOp (ev (denE env)) o).run P w = .ok (.value s.den) w := by
        intro s hs x A hx hA hrd w hQ
        rw [hx] at hwf
        have hb : x.b = b := by simpa using hwf
        obtain ⟨T, hT⟩ := hB i x A hx hrd hA w hQ
        rw [hb] at hT
        have := hs w T A (fun y hy => by rw [hx] at hy; cases hy; exact hA) hT
        simp [execOp, ho, ea, Instr.loadAt, Instr.sureAddr, this]
      split at h
      · rename_i b' cs T' wr hx hrd
        have hcs := hH i _ cs hx rfl
        split at h
        · obtain ⟨s, hK, hs, hr, _⟩ := ldL_run h (bsH H) hcs
          refine ⟨s, hK, hs, run s (fun w T A hA hT => ?_) _ _ hx rfl hrd⟩
          have := hA _ hx; cases this; exact hr b w T hT
        · obtain ⟨s, hK, hs, hr⟩ := ldR_run h (bsH H)
          refine ⟨s, hK, hs, run s (fun w T A hA hT => ?_) _ _ hx rfl hrd⟩
          have := hA _ hx; cases this; exact hr b w T hT
      · rename_i b' A' T' wr hx hrd
        obtain ⟨s, hK, hs, hr⟩ := ldR_run h (bsH H)
        refine ⟨s, hK, hs, run s (fun w T A hA hT => ?_) _ _ hx rfl hrd⟩
        have := hA _ hx; cases this; exact hr b w T hT
      · exact fi _ h
    · exact fi _ h
  · rename_i t parts ho
    obtain ⟨v, ⟨s, rfl, hs, hK⟩, hr⟩ := buildS_sound (build3_sound (bsH H) hw h)
    refine ⟨s, hK, hs, fun w _ => ?_⟩
    have e : execOp (ev (denE env)) o = (do pure (.value (← Instr.build t (parts.map fun (i, x) => (i, ev (denE env) x)))) : Sem Next) := by simp only [execOp, ho]
    rw [e]; exact run_val _ _ _ _ (hr w)
  · rename_i op t x y yt ho
    have nl : ∀ (bb : Bool), (op = .eql ∧ bb = false ∨ op = .neq ∧ bb = true) → nilTy P t y = true → K (.c (.k bb)) → nilTest (ev (denE env) x) (ev (denE env) y) False True →
        ∃ s, K s ∧ wfS (bsH H) s ∧ ∀ w, Q w → (execOp (ev (denE env)) o).run P w = .ok (.value s.den) w := by
      intro bb hop hn hK ht
      have hm : ∀ {A B A' B' : Prop} {x y : Value}, (A → A') → (B → B') → nilTest x y A B → nilTest x y A' B' := by
        intro A B A' B' x y ha hb h
        unfold nilTest at h ⊢
        split at h
        · exact ⟨fun e => ha (h.1 e), fun t v e => hb (h.2.1 t v e), h.2.2⟩
        · exact ⟨fun e => ha (h.1 e), fun f a b e => hb (h.2.1 f a b e), h.2.2⟩
        · split at h
          · exact ⟨fun e => ha (h.1 e), fun a e => hb (h.2 a e)⟩
          · exact h.elim
        · split at h
          · exact ⟨fun e => ha (h.1 e), fun a e => hb (h.2 a e)⟩
          · exact h.elim
        · split at h
          · exact ⟨fun e => ha (h.1 e), fun a e => hb (h.2 a e)⟩
          · exact h.elim
        · exact h.elim
      have : binS P R (denE env) o op t x y fun v => v = .bool bb := by
        unfold binS
        simp only [hn]
        rcases hop with ⟨rfl, rfl⟩ | ⟨rfl, rfl⟩
        · exact hm (fun h => h.elim) (fun _ => rfl) ht
        · exact hm (fun h => h.elim) (fun _ => rfl) ht
      obtain ⟨v, rfl, hr⟩ := binS_sound hR ho this
      exact ⟨_, hK, trivial, hr⟩
    split at h
    · rename_i hx hn
      obtain ⟨p, e⟩ : ∃ p, ev (denE env) x = .pointer (some p) := ⟨_, by rw [← ev3_den, hx]; rfl⟩
      exact nl false (.inl ⟨rfl, rfl⟩) hn h (by rw [e]; exact ⟨(fun h => by cases h), fun _ _ => trivial⟩)
    · rename_i hx hn
      obtain ⟨p, e⟩ : ∃ p, ev (denE env) x = .pointer (some p) := ⟨_, by rw [← ev3_den, hx]; rfl⟩
      exact nl true (.inr ⟨rfl, rfl⟩) hn h (by rw [e]; exact ⟨(fun h => by cases h), fun _ _ => trivial⟩)
    · rename_i hx hn
      obtain ⟨p, l, c, e⟩ : ∃ p l c, ev (denE env) x = .slice (some p) l c := ⟨_, _, _, by rw [← ev3_den, hx]; rfl⟩
      exact nl false (.inl ⟨rfl, rfl⟩) hn h (by rw [e]; exact ⟨(fun h => by cases h), fun _ _ => trivial⟩)
    · rename_i hx hn
      obtain ⟨p, l, c, e⟩ : ∃ p l c, ev (denE env) x = .slice (some p) l c := ⟨_, _, _, by rw [← ev3_den, hx]; rfl⟩
      exact nl true (.inr ⟨rfl, rfl⟩) hn h (by rw [e]; exact ⟨(fun h => by cases h), fun _ _ => trivial⟩)
    · exact fl h
  · exact fl h
  · rename_i x j ho
    exact fi _ h
  · exact fi _ h
end
end Go.Vc
