/-
  A part of the proof that two events of one line are one event: the calculus that follows known memory by computing, and its soundness. By an AI agent.
-/
import Derived.Test.YtfmmpnaljkdigaaGreatDoorVc6
import Derived.Test.YtfmmpnaljkdigaaGreatDoorVc0
set_option linter.unusedVariables false
set_option linter.unusedSimpArgs false
namespace Go.Vc
open Go

/-! ## regions -/
def exT (P : Program) (okf : Ctx) (o : Oper) (v : Value) (K : Value → Prop) : Prop :=
  match okf.ext.contains (o.dst.getD 0) with
  | true => tyB (kdOf P o.type) v K
  | false => K v
theorem exT_elim {P : Program} {okf : Ctx} {o : Oper} {v : Value} {K : Value → Prop} (h : exT P okf o v K) : K v := by
  unfold exT at h; split at h
  · exact tyB_elim h
  · exact h
def oneOp (P : Program) (okf : Ctx) (ops : Array Oper) (i : Nat) (env : List Value) (K : List Value → World → Prop) (w : World) : Prop :=
  match ops[i]? with
  | none => K env w
  | some o => match Region.wanted o (yielded ops env.toArray) with
    | true => (match silent P o.op with
      | true => opS P (fun a v => w.cell? a = some v) env o fun v => exT P okf o v fun v => K (putD env o.dst v) w
      | false => opI P okf env o (fun v w => K (putD env o.dst v) w) w)
    | false => K (putD env o.dst undef) w
def vcOps (P : Program) (okf : Ctx) (ops : Array Oper) : List Nat → List Value → (List Value → World → Prop) → World → Prop
  | [], env, K, w => K env w
  | i :: rest, env, K, w => oneOp P okf ops i env (fun env w => vcOps P okf ops rest env K w) w
def silAt (P : Program) (ops : Array Oper) (env : List Value) (listed : Array Bool) (i : Nat) : Bool :=
  (match ops[i]? with
   | none => false
   | some o => !Region.wanted o (yielded ops env.toArray) || silent P o.op) && Region.free .any ops listed i && (Region.ready .any ops listed).contains i
def silOp (P : Program) (okf : Ctx) (ops : Array Oper) (S : World → Prop) (i : Nat) (env : List Value) (K : List Value → Prop) : Prop :=
  match ops[i]? with
  | none => False
  | some o => match Region.wanted o (yielded ops env.toArray) with
    | true => opS P (fun a v => ∀ w, S w → w.cell? a = some v) env o fun v => exT P okf o v fun v => K (putD env o.dst v)
    | false => K (putD env o.dst undef)
def allR : List Nat → (Nat → Prop) → Prop
  | [], _ => True
  | [i], p => p i
  | i :: j :: r, p => p i ∧ allR (j :: r) p
def vcAny (P : Program) (okf : Ctx) (ops : Array Oper) (S : World → Prop) : Nat → Array Bool → List Value → (List Value → World → Prop) → World → Prop
  | 0, listed, env, K, w => (match Region.ready .any ops listed with | [] => K env w | _ => False)
  | n + 1, listed, env, K, w =>
    match Region.ready .any ops listed with
    | [] => K env w
    | r :: rs => match (r :: rs).find? (silAt P ops env listed) with
      | some i => silOp P okf ops S i env fun env => vcAny P okf ops S n (listed.setIfInBounds i true) env K w
      | none => allR (r :: rs) fun i => oneOp P okf ops i env (fun env w => match isLast ops i with
        | true => vcAny P okf ops S n (listed.setIfInBounds i true) env K w
        | false => S w ∧ vcAny P okf ops S n (listed.setIfInBounds i true) env K w) w
def dsts (ops : Array Oper) : List Nat := ops.toList.filterMap (·.dst)

section
variable {P : Program} {okf : Ctx} {Q : Exit → Act → World → Prop}
theorem oneOp_sound (hok : ∀ n, okf.fns.contains n = true → okFn P n = true) {ops : Array Oper} {i : Nat} {env : List Value} {K : List Value → World → Prop} {w : World} (h : oneOp P okf ops i env K w) :
    wpOp P ops Q i (fun a w => ∃ env', a = act env' ∧ Agr (dsts ops) env env' ∧ K env' w) (act env) w := by
  unfold oneOp at h
  unfold wpOp
  split at h
  · rename_i ho; simp only [ho]; exact ⟨env, rfl, .refl _ _, h⟩
  · rename_i o ho
    simp only [ho]
    have hd : ∀ v, Agr (dsts ops) env (putD env o.dst v) := fun v => Agr.put _ _ _ _ fun d hd => by
      simp only [dsts, List.mem_filterMap]
      exact ⟨o, by simpa using Array.mem_of_getElem? ho, hd⟩
    split at h
    · rename_i hw
      have hw' : Region.wanted o (yielded ops (act env).tmps) = true := hw
      rw [if_pos hw']
      refine .inl ?_
      split at h
      · obtain ⟨v, hK, hr⟩ := opS_sound (S := fun w' => w' = w) (fun a v hv w' hw' => by rw [hw']; exact hv) h
        unfold Oper.wp
        rw [ev_eq, hr w rfl, Oper.upon_value, act_put]
        exact ⟨_, rfl, hd v, exT_elim hK⟩
      · exact opI_sound hok h fun v w' hK => ⟨_, rfl, hd v, hK⟩
    · rename_i hw
      have hw' : ¬ Region.wanted o (yielded ops (act env).tmps) = true := by
        have : Region.wanted o (yielded ops (act env).tmps) = false := hw
        simp [this]
      rw [if_neg hw', act_put]
      exact ⟨_, rfl, hd _, h⟩
theorem vcOps_sound (hok : ∀ n, okf.fns.contains n = true → okFn P n = true) {ops : Array Oper} {K : List Value → World → Prop} {env0 : List Value} (hq : ∀ env w, Agr (dsts ops) env0 env → K env w → Q .normal (act env) w) :
    ∀ {is : List Nat} {env : List Value} {w : World}, Agr (dsts ops) env0 env → vcOps P okf ops is env K w → wpOps P ops Q is (act env) w := by
  intro is
  induction is with
  | nil => intro env w ha h; exact hq _ _ ha h
  | cons i is ih =>
    intro env w ha h
    rw [wpOps_cons]
    refine wpOp_mono ?_ (oneOp_sound hok h)
    rintro a w ⟨env', rfl, ha', h'⟩
    exact ih (ha.trans ha') h'
theorem allR_elim {rs : List Nat} {p : Nat → Prop} (h : allR rs p) : ∀ i, i ∈ rs → p i := by
  induction rs with
  | nil => intro i hi; cases hi
  | cons r rs ih =>
    intro i hi
    cases rs with
    | nil => simp at hi; subst hi; exact h
    | cons s rs =>
      rcases List.mem_cons.1 hi with rfl | hi
      · exact h.1
      · exact ih h.2 i hi
theorem vcAny_sound (hok : ∀ n, okf.fns.contains n = true → okFn P n = true) {ops : Array Oper} {S : World → Prop} {K : List Value → World → Prop} {env0 : List Value} (hns : Region.noSelect ops = true)
    (hQ : ∀ c a w d v, Q (.panic c) (Act.put a d v) w → Q (.panic c) a w)
    (hq : ∀ env w, Agr (dsts ops) env0 env → K env w → Q .normal (act env) w) :
    ∀ {n : Nat} {listed : Array Bool} {env : List Value} {w : World}, Agr (dsts ops) env0 env → S w → vcAny P okf ops S n listed env K w →
      anyL P ops Q S n listed (act env) w := by
  intro n
  induction n with
  | zero =>
    intro listed env w ha hS h
    unfold vcAny at h
    split at h
    · rename_i hr; exact anyL_done hr (hq _ _ ha h) 0
    · exact h.elim
  | succ n ih =>
    intro listed env w ha hS h
    unfold vcAny at h
    split at h
    · rename_i hr; exact anyL_done hr (hq _ _ ha h) _
    · rename_i r rs hr
      split at h
      · rename_i i hi
        have hs := List.find?_some hi
        simp only [silAt, Bool.and_eq_true] at hs
        obtain ⟨⟨hs, hf⟩, hrd⟩ := hs
        unfold silOp at h
        split at h
        · exact h.elim
        · rename_i o ho
          simp only [ho] at hs
          have hd : ∀ v, Agr (dsts ops) env (putD env o.dst v) := fun v => Agr.put _ _ _ _ fun d hd => by
            simp only [dsts, List.mem_filterMap]
            exact ⟨o, by simpa using Array.mem_of_getElem? ho, hd⟩
          split at h
          · rename_i hw
            have hw' : Region.wanted o (yielded ops (act env).tmps) = true := hw
            obtain ⟨v, hK, hrun⟩ := opS_sound (S := S) (fun a v hv w' hw' => hv w' hw') h
            refine anyL_first (v := v) ho hns (fun c a w => hQ c a w _ _) n listed _ w (Region.free_spec ho hf) (by simpa using hrd) (.inl ⟨hw', fun w' hw' => by rw [ev_eq]; exact hrun w' hw'⟩) hS ?_
            rw [act_put]
            exact ih (ha.trans (hd v)) hS (exT_elim hK)
          · rename_i hw
            have hw' : Region.wanted o (yielded ops (act env).tmps) = false := hw
            refine anyL_first (v := undef) ho hns (fun c a w => hQ c a w _ _) n listed _ w (Region.free_spec ho hf) (by simpa using hrd) (.inr ⟨hw', rfl⟩) hS ?_
            rw [act_put]
            exact ih (ha.trans (hd _)) hS h
      · refine anyL_all hr (by simp) fun i hi => ?_
        refine wpOp_mono ?_ (oneOp_sound hok (allR_elim h i hi))
        rintro a w ⟨env', rfl, ha', h'⟩
        split at h'
        · rename_i hl
          refine ⟨.inl hl, ?_⟩
          have hrn := isLast_end hl (hr ▸ hi)
          refine anyL_done hrn ?_ n
          cases n with
          | zero => unfold vcAny at h'; rw [hrn] at h'; exact hq _ _ (ha.trans ha') h'
          | succ n => unfold vcAny at h'; rw [hrn] at h'; exact hq _ _ (ha.trans ha') h'
        · exact ⟨.inr h'.1, ih (ha.trans ha') h'.1 h'.2⟩
end

/-! ## code -/
inductive Ann where
  | z
  | s (a b : Ann)
  | cut (live : List (Nat × Sk)) (a b : Ann)
  | c (a b : Ann)
  | l (live : List (Nat × Sk)) (b : Ann)
  | b (a : Ann)
def Ann.fst : Ann → Ann
  | .s x _ | .cut _ x _ | .c x _ | .b x | .l _ x => x
  | .z => .z
def Ann.snd : Ann → Ann
  | .s _ x | .cut _ _ x | .c _ x => x
  | _ => .z
def Ann.cuts : Ann → Option (List (Nat × Sk))
  | .cut x _ _ => some x
  | _ => none
def Ann.live : Ann → List (Nat × Sk)
  | .l x _ => x
  | _ => []
def writes : Code → List Nat
  | .region _ ops _ => dsts ops
  | .seq a b | .cond _ a b => writes a ++ writes b
  | .block _ a | .loop a | .scope a => writes a
  | _ => []
def seqK (N : List Value → World → Prop) (K : Exit → List Value → World → Prop) : Exit → List Value → World → Prop
  | .normal, env, w => N env w
  | e, env, w => K e env w
def blkK (id : Nat) (K : Exit → List Value → World → Prop) : Exit → List Value → World → Prop
  | .exit i, env, w => (if i = id then K .normal env w else K (.exit i) env w)
  | e, env, w => K e env w
def drawOk (P : Program) (ops : Array Oper) : Bool := P.follows .mixedOrders && Region.noSelect ops
def vc (P : Program) (okf : Ctx) : Code → Ann → List Value → (Exit → List Value → World → Prop) → World → Prop
  | .skip, _, env, K, w => K .normal env w
  | .label _, _, env, K, w => K .normal env w
  | .exit id, _, env, K, w => K (.exit id) env w
  | .ret, _, env, K, w => K .ret env w
  | .region _ ops d, _, env, K, w =>
    (match d with
     | false => vcOps P okf ops (List.range ops.size) env (K .normal) w
     | true => (if drawOk P ops then ∃ S : World → Prop, S w.drew ∧ vcAny P okf ops S ops.size (Array.replicate ops.size false) env (K .normal) w.drew else False))
  | .seq a b, an, env, K, w =>
    (match an.cuts with
     | none => vc P okf a an.fst env (seqK (fun env w => vc P okf b an.snd env K w) K) w
     | some live =>
       ∃ J : CurT (live.map (·.2)) (World → Prop),
         vc P okf a an.fst env (seqK (fun env w => atT (live.map (·.2)) J (live.map fun x => nth env x.1) fun p => p w) K) w ∧
         allT (live.map (·.2)) J fun vals p => ∀ (D : Nat → Value) (w : World), p w → vc P okf b an.snd (setAll (reset env (writes a) D) (live.map (·.1)) vals) K w)
  | .cond c a b, an, env, K, w =>
    (match ev env c with
     | .bool true => vc P okf a an.fst env K w
     | .bool false => vc P okf b an.snd env K w
     | _ => False)
  | .block id a, an, env, K, w => vc P okf a an.fst env (blkK id K) w
  | .scope a, an, env, K, w => vc P okf a an.fst env (fun e env w => match e with | .goto _ => False | e => K e env w) w
  | .loop a, an, env, K, w =>
    ∃ I : CurT (an.live.map (·.2)) (Nat → World → Prop),
      (∃ m, atT (an.live.map (·.2)) I (an.live.map fun x => nth env x.1) fun p => p m w) ∧
      allT (an.live.map (·.2)) I fun vals p => ∀ (D : Nat → Value) (m : Nat) (w : World), p m w →
        vc P okf a an.fst (setAll (reset env (writes a) D) (an.live.map (·.1)) vals)
          (seqK (fun env w => ∃ m', m' < m ∧ atT (an.live.map (·.2)) I (an.live.map fun x => nth env x.1) fun p => p m' w) K) w
  | _, _, _, _, _ => False

theorem wp_loop' {P : Program} {c : Code} {Q : Exit → Act → World → Prop} (J : Nat → Act → World → Prop)
    (round : ∀ n a w, J n a w → c.wp P (Exit.then (fun a' w' => ∃ n', n' < n ∧ J n' a' w') Q) a w) {n : Nat} {a : Act} {w : World} (h₀ : J n a w) : (Code.loop c).wp P Q a w := by
  intro b k cs
  have key : ∀ n a w, J n a w →
      ∃ e a' w', Q e a' w' ∧ Arrives P (lone (b.at a (.code c :: .inLoop c :: k)) cs w) b k cs e a' w' := by
    intro n
    induction n using Nat.strongRecOn with
    | _ n ih =>
      intro a w hI
      obtain ⟨e, a₁, w₁, hq, harr⟩ := round n a w hI b (.inLoop c :: k) cs
      cases e with
      | normal =>
        obtain ⟨n', hlt, hI₁⟩ := hq
        obtain ⟨e₂, a₂, w₂, hq₂, harr₂⟩ := ih n' hlt a₁ w₁ hI₁
        exact ⟨e₂, a₂, w₂, hq₂, .of_steps (Steps.trans harr (.one step_inLoop)) harr₂⟩
      | exit id => exact ⟨_, a₁, w₁, hq, .pass (x := .inLoop c) rfl (fun _ _ => .inl (by simp)) harr⟩
      | goto l => exact ⟨_, a₁, w₁, hq, .pass (x := .inLoop c) rfl (fun _ _ => .inl (by simp)) harr⟩
      | ret => exact ⟨_, a₁, w₁, hq, .pass (x := .inLoop c) rfl (fun _ _ => .inl (by simp)) harr⟩
      | panic ch => exact ⟨_, a₁, w₁, hq, .pass (x := .inLoop c) rfl (fun _ _ => .inl (by simp)) harr⟩
      | outgrown => exact ⟨_, a₁, w₁, hq, .pass (x := .inLoop c) rfl (fun _ _ => .inl (by simp)) harr⟩
  obtain ⟨e, a', w', hq, harr⟩ := key n a w h₀
  exact ⟨e, a', w', hq, .of_steps (.one step_loop) harr⟩

section
variable {P : Program} {okf : Ctx}
/-- What a piece of code comes to. -/
def Post (m : List Nat) (env0 : List Value) (K : Exit → List Value → World → Prop) (e : Exit) (a : Act) (w : World) : Prop :=
  (∀ c, e ≠ .panic c) ∧ e ≠ .outgrown ∧ ∃ env, a = act env ∧ Agr m env0 env ∧ K e env w
theorem vc_sound (hok : ∀ n, okf.fns.contains n = true → okFn P n = true) (c : Code) : ∀ {an : Ann} {env : List Value} {K : Exit → List Value → World → Prop} {w : World}, vc P okf c an env K w →
    c.wp P (Post (writes c) env K) (act env) w := by
  induction c with
  | skip => intro an env K w h; exact wp_skip ⟨by simp, by simp, env, rfl, .refl _ _, h⟩
  | label l => intro an env K w h; exact wp_label ⟨by simp, by simp, env, rfl, .refl _ _, h⟩
  | exit id => intro an env K w h; exact wp_exit ⟨by simp, by simp, env, rfl, .refl _ _, h⟩
  | ret => intro an env K w h; exact wp_ret ⟨by simp, by simp, env, rfl, .refl _ _, h⟩
  | region id ops d =>
    intro an env K w h
    cases d with
    | false => exact wp_region (vcOps_sound hok (env0 := env) (fun e w ha hK => ⟨by simp, by simp, e, rfl, ha, hK⟩) (.refl _ _) h)
    | true =>
      simp only [vc] at h
      split at h
      · rename_i hd
        simp only [drawOk, Bool.and_eq_true] at hd
        obtain ⟨S, hS, h⟩ := h
        refine wp_region_any hd.1 (anyL_sound (S := S) _ _ _ _ ?_)
        exact vcAny_sound hok hd.2 (fun c a w d v h => absurd rfl (h.1 c)) (fun e w ha hK => ⟨by simp, by simp, e, rfl, ha, hK⟩) (.refl _ _) hS h
      · exact h.elim
  | seq a b iha ihb =>
    intro an env K w h
    simp only [vc] at h
    split at h
    · refine wp_seq (wp_mono (iha h) ?_)
      rintro e a' w' ⟨h1, h2, env', rfl, ha, hK⟩
      have up : ∀ i, i ∈ writes a → i ∈ writes (a.seq b) := fun i hi => by simp [writes, hi]
      cases e with
      | normal =>
        refine wp_mono (ihb hK) ?_
        rintro e a'' w'' ⟨h1, h2, env'', rfl, ha', hK'⟩
        exact ⟨h1, h2, env'', rfl, (ha.mono up).trans (ha'.mono fun i hi => by simp [writes, hi]), hK'⟩
      | exit id => exact ⟨h1, h2, env', rfl, ha.mono up, hK⟩
      | goto l => exact ⟨h1, h2, env', rfl, ha.mono up, hK⟩
      | ret => exact ⟨h1, h2, env', rfl, ha.mono up, hK⟩
      | panic c => exact absurd rfl (h1 c)
      | outgrown => exact absurd rfl h2
    · rename_i live _
      obtain ⟨J, h, hJ⟩ := h
      refine wp_seq (wp_mono (iha h) ?_)
      rintro e a' w' ⟨h1, h2, env', rfl, ha, hK⟩
      have up : ∀ i, i ∈ writes a → i ∈ writes (a.seq b) := fun i hi => by simp [writes, hi]
      cases e with
      | normal =>
        obtain ⟨p, hp, hl⟩ := at_allT (by simp) hK
        have hb := hl _ hJ (nth env') w' hp
        have hform := ha.form (live.map (·.1))
        simp only [List.map_map] at hform
        have hform' : env' = setAll (reset env (writes a) (nth env')) (live.map (·.1)) (live.map fun x => nth env' x.1) := hform
        rw [← hform'] at hb
        refine wp_mono (ihb hb) ?_
        rintro e a'' w'' ⟨h1, h2, env'', rfl, ha', hK'⟩
        exact ⟨h1, h2, env'', rfl, (ha.mono up).trans (ha'.mono fun i hi => by simp [writes, hi]), hK'⟩
      | exit id => exact ⟨h1, h2, env', rfl, ha.mono up, hK⟩
      | goto l => exact ⟨h1, h2, env', rfl, ha.mono up, hK⟩
      | ret => exact ⟨h1, h2, env', rfl, ha.mono up, hK⟩
      | panic c => exact absurd rfl (h1 c)
      | outgrown => exact absurd rfl h2
  | cond c a b iha ihb =>
    intro an env K w h
    simp only [vc] at h
    split at h
    · rename_i he
      refine wp_cond_true (by rw [ev_eq]; exact he) (wp_mono (iha h) ?_)
      rintro e a' w' ⟨h1, h2, env', rfl, ha, hK⟩
      exact ⟨h1, h2, env', rfl, ha.mono fun i hi => by simp [writes, hi], hK⟩
    · rename_i he
      refine wp_cond_false (by rw [ev_eq]; exact he) (wp_mono (ihb h) ?_)
      rintro e a' w' ⟨h1, h2, env', rfl, ha, hK⟩
      exact ⟨h1, h2, env', rfl, ha.mono fun i hi => by simp [writes, hi], hK⟩
    · exact h.elim
  | block id a iha =>
    intro an env K w h
    refine wp_block (wp_mono (iha h) ?_)
    rintro e a' w' ⟨h1, h2, env', rfl, ha, hK⟩
    cases e with
    | normal => exact ⟨h1, h2, env', rfl, ha, hK⟩
    | exit i =>
      simp only [blkK] at hK
      simp only [Exit.inBlock]
      split at hK <;> rename_i hi
      · rw [if_pos hi]; exact ⟨by simp, by simp, env', rfl, ha, hK⟩
      · rw [if_neg hi]; exact ⟨h1, h2, env', rfl, ha, hK⟩
    | goto l => exact ⟨h1, h2, env', rfl, ha, hK⟩
    | ret => exact ⟨h1, h2, env', rfl, ha, hK⟩
    | panic c => exact absurd rfl (h1 c)
    | outgrown => exact absurd rfl h2
  | scope a iha =>
    intro an env K w h
    refine wp_scope_straight (wp_mono (iha h) ?_)
    rintro e a' w' ⟨h1, h2, env', rfl, ha, hK⟩
    cases e with
    | normal => exact ⟨h1, h2, env', rfl, ha, hK⟩
    | exit i => exact ⟨h1, h2, env', rfl, ha, hK⟩
    | goto l => exact hK.elim
    | ret => exact ⟨h1, h2, env', rfl, ha, hK⟩
    | panic c => exact absurd rfl (h1 c)
    | outgrown => exact absurd rfl h2
  | loop a iha =>
    intro an env K w h
    obtain ⟨I, ⟨m, h0⟩, hI⟩ := h
    refine wp_loop' (fun n a' w' => ∃ env' p, a' = act env' ∧ Agr (writes a) env env' ∧ p n w' ∧
      ∀ L : List Value → (Nat → World → Prop) → Prop, allT (an.live.map (·.2)) I L → L (an.live.map fun x => nth env' x.1) p) ?_ (n := m) ?_
    · rintro n a' w' ⟨env', p, rfl, ha, hp, hl⟩
      have hb := hl _ hI (nth env') n w' hp
      have hform := ha.form (an.live.map (·.1))
      simp only [List.map_map] at hform
      have hform' : env' = setAll (reset env (writes a) (nth env')) (an.live.map (·.1)) (an.live.map fun x => nth env' x.1) := hform
      rw [← hform'] at hb
      refine wp_mono (iha hb) ?_
      rintro e a'' w'' ⟨h1, h2, env'', rfl, ha', hK'⟩
      cases e with
      | normal =>
        obtain ⟨m', hm', hK'⟩ := hK'
        obtain ⟨p', hp', hl'⟩ := at_allT (by simp) hK'
        exact ⟨m', hm', env'', p', rfl, ha.trans ha', hp', hl'⟩
      | exit id => exact ⟨h1, h2, env'', rfl, ha.trans ha', hK'⟩
      | goto l => exact ⟨h1, h2, env'', rfl, ha.trans ha', hK'⟩
      | ret => exact ⟨h1, h2, env'', rfl, ha.trans ha', hK'⟩
      | panic c => exact absurd rfl (h1 c)
      | outgrown => exact absurd rfl h2
    · obtain ⟨p, hp, hl⟩ := at_allT (by simp) h0
      exact ⟨env, p, rfl, .refl _ _, hp, hl⟩
  | rangeFunc => intro an env K w h; exact h.elim
  | goto => intro an env K w h; exact h.elim
  | refuse => intro an env K w h; exact h.elim

/-- What a function's body leaves as its result. -/
def retK (P : Program) (fn : Func) (K : Value → World → Prop) : Exit → List Value → World → Prop
  | .normal, env, w => ss P (fun a v => w.cell? a = some v) (results fn env.toArray) fun v => K v w
  | .ret, env, w => ss P (fun a v => w.cell? a = some v) (results fn env.toArray) fun v => K v w
  | _, _, _ => False
def body (fn : Func) : Code := fn.body.getD .skip
/-- THE RULE: a call comes to what the body's condition says. -/
theorem call_of_vc (hok : ∀ n, okf.fns.contains n = true → okFn P n = true) {f : FuncId} {fn : Func} {args : List Value} {w : World} {K : Value → World → Prop} (an : Ann)
    (hf : P.funcs[f]? = some fn) (hb : fn.body.isSome = true)
    (h : vc P okf (body fn) an (args ++ List.replicate (fn.ntmps - args.length) undef) (retK P fn K) w) : CallV P f ⟨args⟩ w K := by
  cases hc : fn.body with
  | none => simp [hc] at hb
  | some c =>
    have hbody : body fn = c := by simp [body, hc]
    rw [hbody] at h
    refine calls_of_wp hf hc ?_
    have henv : ({ tmps := (⟨args⟩ : Array Value) ++ Array.replicate (fn.ntmps - (⟨args⟩ : Array Value).size) undef, defers := [] } : Act) = act (args ++ List.replicate (fn.ntmps - args.length) undef) := by
      simp [act]
    rw [henv]
    refine wp_mono (vc_sound hok c h) ?_
    rintro e a' w' ⟨h1, h2, env', rfl, ha, hK⟩
    have fin : ss P (fun a v => w'.cell? a = some v) (results fn env'.toArray) (fun v => K v w') →
        (act env').defers = [] ∧ ∃ v, (results fn (act env').tmps).run P w' = .ok v w' ∧ ∃ v', Ending.returned v = Ending.returned v' ∧ K v' w' := fun h => by
      obtain ⟨v, hv, hr⟩ := ss_sound (S := fun x => x = w') (fun a v hv x hx => by rw [hx]; exact hv) _ h
      exact ⟨rfl, v, hr w' rfl, v, rfl, hv⟩
    cases e with
    | normal => exact fin hK
    | ret => exact fin hK
    | exit i => exact hK.elim
    | goto l => exact hK.elim
    | panic c => exact absurd rfl (h1 c)
    | outgrown => exact absurd rfl h2
end
theorem cast_vc {a b : Prop} (e : a = b) (h : b) : a := e ▸ h
end Go.Vc
