/-
  A part of the proof of the statement PubNumbersSaid, in Lean: Vc7, Lb1, Lb2, Fr, Sy1. By an AI agent.
-/
import Derived.Test.YtjfpofjppjaofaaGreatP00
set_option linter.unusedVariables false
set_option linter.unusedSimpArgs false
set_option maxRecDepth 100000
/-! A part of the proof that two events of one line are one event: the calculus that follows known memory by computing, and its soundness. By an AI agent. -/


namespace Go.Vc
open Go

/-! ## regions -/
def exT (P : Program) (okf : Ctx) (o : Oper) (v : Value) (K : Value → Prop) : Prop :=
  match okf.ext.contains (o.dst.getD 0) with
  | true => tyB (kdOf P o.type) v K
  | false => K v
theorem exT_elim {P : Program} {okf : Ctx} {o : Oper} {v : Value} {K : Value → Prop} (h : exT P okf o v K) : K v := by
  unfold exT at h; split at h
  · exact tyB_elim h
  · exact h
def oneOp (P : Program) (okf : Ctx) (ops : Array Oper) (i : Nat) (env : List Value) (K : List Value → World → Prop) (w : World) : Prop :=
  match ops[i]? with
  | none => K env w
  | some o => match Region.wanted o (yielded ops env.toArray) with
    | true => (match silent P o.op with
      | true => opS P (fun a v => w.cell? a = some v) env o fun v => exT P okf o v fun v => K (putD env o.dst v) w
      | false => opI P okf env o (fun v w => K (putD env o.dst v) w) w)
    | false => K (putD env o.dst undef) w
def vcOps (P : Program) (okf : Ctx) (ops : Array Oper) : List Nat → List Value → (List Value → World → Prop) → World → Prop
  | [], env, K, w => K env w
  | i :: rest, env, K, w => oneOp P okf ops i env (fun env w => vcOps P okf ops rest env K w) w
def silAt (P : Program) (ops : Array Oper) (env : List Value) (listed : Array Bool) (i : Nat) : Bool :=
  (match ops[i]? with
   | none => false
   | some o => !Region.wanted o (yielded ops env.toArray) || silent P o.op) && Region.free .any ops listed i && (Region.ready .any ops listed).contains i
def silOp (P : Program) (okf : Ctx) (ops : Array Oper) (S : World → Prop) (i : Nat) (env : List Value) (K : List Value → Prop) : Prop :=
  match ops[i]? with
  | none => False
  | some o => match Region.wanted o (yielded ops env.toArray) with
    | true => opS P (fun a v => ∀ w, S w → w.cell? a = some v) env o fun v => exT P okf o v fun v => K (putD env o.dst v)
    | false => K (putD env o.dst undef)
def allR : List Nat → (Nat → Prop) → Prop
  | [], _ => True
  | [i], p => p i
  | i :: j :: r, p => p i ∧ allR (j :: r) p
def vcAny (P : Program) (okf : Ctx) (ops : Array Oper) (S : World → Prop) : Nat → Array Bool → List Value → (List Value → World → Prop) → World → Prop
  | 0, listed, env, K, w => (match Region.ready .any ops listed with | [] => K env w | _ => False)
  | n + 1, listed, env, K, w =>
    match Region.ready .any ops listed with
    | [] => K env w
    | r :: rs => match (r :: rs).find? (silAt P ops env listed) with
      | some i => silOp P okf ops S i env fun env => vcAny P okf ops S n (listed.setIfInBounds i true) env K w
      | none => allR (r :: rs) fun i => oneOp P okf ops i env (fun env w => match isLast ops i with
        | true => vcAny P okf ops S n (listed.setIfInBounds i true) env K w
        | false => S w ∧ vcAny P okf ops S n (listed.setIfInBounds i true) env K w) w
def dsts (ops : Array Oper) : List Nat := ops.toList.filterMap (·.dst)

section
variable {P : Program} {okf : Ctx} {Q : Exit → Act → World → Prop}
theorem oneOp_sound (hok : ∀ n, okf.fns.contains n = true → okFn P n = true) {ops : Array Oper} {i : Nat} {env : List Value} {K : List Value → World → Prop} {w : World} (h : oneOp P okf ops i env K w) :
    wpOp P ops Q i (fun a w => ∃ env', a = act env' ∧ Agr (dsts ops) env env' ∧ K env' w) (act env) w := by
  unfold oneOp at h
  unfold wpOp
  split at h
  · rename_i ho; simp only [ho]; exact ⟨env, rfl, .refl _ _, h⟩
  · rename_i o ho
    simp only [ho]
    have hd : ∀ v, Agr (dsts ops) env (putD env o.dst v) := fun v => Agr.put _ _ _ _ fun d hd => by
      simp only [dsts, List.mem_filterMap]
      exact ⟨o, by simpa using Array.mem_of_getElem? ho, hd⟩
    split at h
    · rename_i hw
      have hw' : Region.wanted o (yielded ops (act env).tmps) = true := hw
      rw [if_pos hw']
      refine .inl ?_
      split at h
      · obtain ⟨v, hK, hr⟩ := opS_sound (S := fun w' => w' = w) (fun a v hv w' hw' => by rw [hw']; exact hv) h
        unfold Oper.wp
        rw [ev_eq, hr w rfl, Oper.upon_value, act_put]
        exact ⟨_, rfl, hd v, exT_elim hK⟩
      · exact opI_sound hok h fun v w' hK => ⟨_, rfl, hd v, hK⟩
    · rename_i hw
      have hw' : ¬ Region.wanted o (yielded ops (act env).tmps) = true := by
        have : Region.wanted o (yielded ops (act env).tmps) = false := hw
        simp [this]
      rw [if_neg hw', act_put]
      exact ⟨_, rfl, hd _, h⟩
theorem vcOps_sound (hok : ∀ n, okf.fns.contains n = true → okFn P n = true) {ops : Array Oper} {K : List Value → World → Prop} {env0 : List Value} (hq : ∀ env w, Agr (dsts ops) env0 env → K env w → Q .normal (act env) w) :
    ∀ {is : List Nat} {env : List Value} {w : World}, Agr (dsts ops) env0 env → vcOps P okf ops is env K w → wpOps P ops Q is (act env) w := by
  intro is
  induction is with
  | nil => intro env w ha h; exact hq _ _ ha h
  | cons i is ih =>
    intro env w ha h
    rw [wpOps_cons]
    refine wpOp_mono ?_ (oneOp_sound hok h)
    rintro a w ⟨env', rfl, ha', h'⟩
    exact ih (ha.trans ha') h'
theorem allR_elim {rs : List Nat} {p : Nat → Prop} (h : allR rs p) : ∀ i, i ∈ rs → p i := by
  induction rs with
  | nil => intro i hi; cases hi
  | cons r rs ih =>
    intro i hi
    cases rs with
    | nil => simp at hi; subst hi; exact h
    | cons s rs =>
      rcases List.mem_cons.1 hi with rfl | hi
      · exact h.1
      · exact ih h.2 i hi
theorem vcAny_sound (hok : ∀ n, okf.fns.contains n = true → okFn P n = true) {ops : Array Oper} {S : World → Prop} {K : List Value → World → Prop} {env0 : List Value} (hns : Region.noSelect ops = true)
    (hQ : ∀ c a w d v, Q (.panic c) (Act.put a d v) w → Q (.panic c) a w)
    (hq : ∀ env w, Agr (dsts ops) env0 env → K env w → Q .normal (act env) w) :
    ∀ {n : Nat} {listed : Array Bool} {env : List Value} {w : World}, Closed ops listed → Agr (dsts ops) env0 env → S w → vcAny P okf ops S n listed env K w →
      anyL P ops Q S n listed (act env) w := by
  intro n
  induction n with
  | zero =>
    intro listed env w hcl ha hS h
    unfold vcAny at h
    split at h
    · rename_i hr; exact anyL_done hr (hq _ _ ha h) 0
    · exact h.elim
  | succ n ih =>
    intro listed env w hcl ha hS h
    unfold vcAny at h
    split at h
    · rename_i hr; exact anyL_done hr (hq _ _ ha h) _
    · rename_i r rs hr
      split at h
      · rename_i i hi
        have hs := List.find?_some hi
        simp only [silAt, Bool.and_eq_true] at hs
        obtain ⟨⟨hs, hf⟩, hrd⟩ := hs
        unfold silOp at h
        split at h
        · exact h.elim
        · rename_i o ho
          simp only [ho] at hs
          have hd : ∀ v, Agr (dsts ops) env (putD env o.dst v) := fun v => Agr.put _ _ _ _ fun d hd => by
            simp only [dsts, List.mem_filterMap]
            exact ⟨o, by simpa using Array.mem_of_getElem? ho, hd⟩
          split at h
          · rename_i hw
            have hw' : Region.wanted o (yielded ops (act env).tmps) = true := hw
            obtain ⟨v, hK, hrun⟩ := opS_sound (S := S) (fun a v hv w' hw' => hv w' hw') h
            refine anyL_first (v := v) ho hns (fun c a w => hQ c a w _ _) n listed _ w (Region.free_spec ho hf) hcl (by simpa using hrd) (.inl ⟨hw', fun w' hw' => by rw [ev_eq]; exact hrun w' hw'⟩) hS ?_
            rw [act_put]
            exact ih (hcl.set (by simpa using hrd)) (ha.trans (hd v)) hS (exT_elim hK)
          · rename_i hw
            have hw' : Region.wanted o (yielded ops (act env).tmps) = false := hw
            refine anyL_first (v := undef) ho hns (fun c a w => hQ c a w _ _) n listed _ w (Region.free_spec ho hf) hcl (by simpa using hrd) (.inr ⟨hw', rfl⟩) hS ?_
            rw [act_put]
            exact ih (hcl.set (by simpa using hrd)) (ha.trans (hd _)) hS h
      · refine anyL_all hr (by simp) fun i hi => ?_
        refine wpOp_mono ?_ (oneOp_sound hok (allR_elim h i hi))
        rintro a w ⟨env', rfl, ha', h'⟩
        split at h'
        · rename_i hl
          refine ⟨.inl hl, ?_⟩
          have hrn := isLast_end hcl hl (hr ▸ hi)
          refine anyL_done hrn ?_ n
          cases n with
          | zero => unfold vcAny at h'; rw [hrn] at h'; exact hq _ _ (ha.trans ha') h'
          | succ n => unfold vcAny at h'; rw [hrn] at h'; exact hq _ _ (ha.trans ha') h'
        · exact ⟨.inr h'.1, ih (hcl.set (hr ▸ hi)) (ha.trans ha') h'.1 h'.2⟩
end

/-! ## code -/
inductive Ann where
  | z
  | s (a b : Ann)
  | cut (live : List (Nat × Sk)) (a b : Ann)
  | c (a b : Ann)
  | l (live : List (Nat × Sk)) (b : Ann)
  | b (a : Ann)
def Ann.fst : Ann → Ann
  | .s x _ | .cut _ x _ | .c x _ | .b x | .l _ x => x
  | .z => .z
def Ann.snd : Ann → Ann
  | .s _ x | .cut _ _ x | .c _ x => x
  | _ => .z
def Ann.cuts : Ann → Option (List (Nat × Sk))
  | .cut x _ _ => some x
  | _ => none
def Ann.live : Ann → List (Nat × Sk)
  | .l x _ => x
  | _ => []
def writes : Code → List Nat
  | .region _ ops _ => dsts ops
  | .seq a b | .cond _ a b => writes a ++ writes b
  | .block _ a | .loop a | .scope a => writes a
  | _ => []
def seqK (N : List Value → World → Prop) (K : Exit → List Value → World → Prop) : Exit → List Value → World → Prop
  | .normal, env, w => N env w
  | e, env, w => K e env w
def blkK (id : Nat) (K : Exit → List Value → World → Prop) : Exit → List Value → World → Prop
  | .exit i, env, w => (if i = id then K .normal env w else K (.exit i) env w)
  | e, env, w => K e env w
def drawOk (P : Program) (ops : Array Oper) : Bool := P.follows .mixedOrders && Region.noSelect ops
def vc (P : Program) (okf : Ctx) : Code → Ann → List Value → (Exit → List Value → World → Prop) → World → Prop
  | .skip, _, env, K, w => K .normal env w
  | .label _, _, env, K, w => K .normal env w
  | .exit id, _, env, K, w => K (.exit id) env w
  | .ret, _, env, K, w => K .ret env w
  | .region _ ops d, _, env, K, w =>
    (match d with
     | false => vcOps P okf ops (List.range ops.size) env (K .normal) w
     | true => (if drawOk P ops then ∃ S : World → Prop, S w.drew ∧ vcAny P okf ops S ops.size (Array.replicate ops.size false) env (K .normal) w.drew else False))
  | .seq a b, an, env, K, w =>
    (match an.cuts with
     | none => vc P okf a an.fst env (seqK (fun env w => vc P okf b an.snd env K w) K) w
     | some live =>
       ∃ J : CurT (live.map (·.2)) (World → Prop),
         vc P okf a an.fst env (seqK (fun env w => atT (live.map (·.2)) J (live.map fun x => nth env x.1) fun p => p w) K) w ∧
         allT (live.map (·.2)) J fun vals p => ∀ (D : Nat → Value) (w : World), p w → vc P okf b an.snd (setAll (reset env (writes a) D) (live.map (·.1)) vals) K w)
  | .cond c a b, an, env, K, w =>
    (match ev env c with
     | .bool true => vc P okf a an.fst env K w
     | .bool false => vc P okf b an.snd env K w
     | _ => False)
  | .block id a, an, env, K, w => vc P okf a an.fst env (blkK id K) w
  | .scope a, an, env, K, w => vc P okf a an.fst env (fun e env w => match e with | .goto _ => False | e => K e env w) w
  | .loop a, an, env, K, w =>
    ∃ I : CurT (an.live.map (·.2)) (Nat → World → Prop),
      (∃ m, atT (an.live.map (·.2)) I (an.live.map fun x => nth env x.1) fun p => p m w) ∧
      allT (an.live.map (·.2)) I fun vals p => ∀ (D : Nat → Value) (m : Nat) (w : World), p m w →
        vc P okf a an.fst (setAll (reset env (writes a) D) (an.live.map (·.1)) vals)
          (seqK (fun env w => ∃ m', m' < m ∧ atT (an.live.map (·.2)) I (an.live.map fun x => nth env x.1) fun p => p m' w) K) w
  | _, _, _, _, _ => False

theorem wp_loop' {P : Program} {c : Code} {Q : Exit → Act → World → Prop} (J : Nat → Act → World → Prop)
    (round : ∀ n a w, J n a w → c.wp P (Exit.then (fun a' w' => ∃ n', n' < n ∧ J n' a' w') Q) a w) {n : Nat} {a : Act} {w : World} (h₀ : J n a w) : (Code.loop c).wp P Q a w := by
  intro b k cs
  have key : ∀ n a w, J n a w →
      ∃ e a' w', Q e a' w' ∧ Arrives P (lone (b.at a (.code c :: .inLoop c :: k)) cs w) b k cs e a' w' := by
    intro n
    induction n using Nat.strongRecOn with
    | _ n ih =>
      intro a w hI
      obtain ⟨e, a₁, w₁, hq, harr⟩ := round n a w hI b (.inLoop c :: k) cs
      cases e with
      | normal =>
        obtain ⟨n', hlt, hI₁⟩ := hq
        obtain ⟨e₂, a₂, w₂, hq₂, harr₂⟩ := ih n' hlt a₁ w₁ hI₁
        exact ⟨e₂, a₂, w₂, hq₂, .of_steps (Steps.trans harr (.one step_inLoop)) harr₂⟩
      | exit id => exact ⟨_, a₁, w₁, hq, .pass (x := .inLoop c) rfl (fun _ _ => .inl (by simp)) harr⟩
      | goto l => exact ⟨_, a₁, w₁, hq, .pass (x := .inLoop c) rfl (fun _ _ => .inl (by simp)) harr⟩
      | ret => exact ⟨_, a₁, w₁, hq, .pass (x := .inLoop c) rfl (fun _ _ => .inl (by simp)) harr⟩
      | panic ch => exact ⟨_, a₁, w₁, hq, .pass (x := .inLoop c) rfl (fun _ _ => .inl (by simp)) harr⟩
      | outgrown => exact ⟨_, a₁, w₁, hq, .pass (x := .inLoop c) rfl (fun _ _ => .inl (by simp)) harr⟩
  obtain ⟨e, a', w', hq, harr⟩ := key n a w h₀
  exact ⟨e, a', w', hq, .of_steps (.one step_loop) harr⟩

section
variable {P : Program} {okf : Ctx}
/-- What a piece of code comes to. -/
def Post (m : List Nat) (env0 : List Value) (K : Exit → List Value → World → Prop) (e : Exit) (a : Act) (w : World) : Prop :=
  (∀ c, e ≠ .panic c) ∧ e ≠ .outgrown ∧ ∃ env, a = act env ∧ Agr m env0 env ∧ K e env w
theorem vc_sound (hok : ∀ n, okf.fns.contains n = true → okFn P n = true) (c : Code) : ∀ {an : Ann} {env : List Value} {K : Exit → List Value → World → Prop} {w : World}, vc P okf c an env K w →
    c.wp P (Post (writes c) env K) (act env) w := by
  induction c with
  | skip => intro an env K w h; exact wp_skip ⟨by simp, by simp, env, rfl, .refl _ _, h⟩
  | label l => intro an env K w h; exact wp_label ⟨by simp, by simp, env, rfl, .refl _ _, h⟩
  | exit id => intro an env K w h; exact wp_exit ⟨by simp, by simp, env, rfl, .refl _ _, h⟩
  | ret => intro an env K w h; exact wp_ret ⟨by simp, by simp, env, rfl, .refl _ _, h⟩
  | region id ops d =>
    intro an env K w h
    cases d with
    | false => exact wp_region (vcOps_sound hok (env0 := env) (fun e w ha hK => ⟨by simp, by simp, e, rfl, ha, hK⟩) (.refl _ _) h)
    | true =>
      simp only [vc] at h
      split at h
      · rename_i hd
        simp only [drawOk, Bool.and_eq_true] at hd
        obtain ⟨S, hS, h⟩ := h
        refine wp_region_any hd.1 (anyL_sound (S := S) _ _ _ _ ?_)
        exact vcAny_sound hok hd.2 (fun c a w d v h => absurd rfl (h.1 c)) (fun e w ha hK => ⟨by simp, by simp, e, rfl, ha, hK⟩) (Closed.init _ _) (.refl _ _) hS h
      · exact h.elim
  | seq a b iha ihb =>
    intro an env K w h
    simp only [vc] at h
    split at h
    · refine wp_seq (wp_mono (iha h) ?_)
      rintro e a' w' ⟨h1, h2, env', rfl, ha, hK⟩
      have up : ∀ i, i ∈ writes a → i ∈ writes (a.seq b) := fun i hi => by simp [writes, hi]
      cases e with
      | normal =>
        refine wp_mono (ihb hK) ?_
        rintro e a'' w'' ⟨h1, h2, env'', rfl, ha', hK'⟩
        exact ⟨h1, h2, env'', rfl, (ha.mono up).trans (ha'.mono fun i hi => by simp [writes, hi]), hK'⟩
      | exit id => exact ⟨h1, h2, env', rfl, ha.mono up, hK⟩
      | goto l => exact ⟨h1, h2, env', rfl, ha.mono up, hK⟩
      | ret => exact ⟨h1, h2, env', rfl, ha.mono up, hK⟩
      | panic c => exact absurd rfl (h1 c)
      | outgrown => exact absurd rfl h2
    · rename_i live _
      obtain ⟨J, h, hJ⟩ := h
      refine wp_seq (wp_mono (iha h) ?_)
      rintro e a' w' ⟨h1, h2, env', rfl, ha, hK⟩
      have up : ∀ i, i ∈ writes a → i ∈ writes (a.seq b) := fun i hi => by simp [writes, hi]
      cases e with
      | normal =>
        obtain ⟨p, hp, hl⟩ := at_allT (by simp) hK
        have hb := hl _ hJ (nth env') w' hp
        have hform := ha.form (live.map (·.1))
        simp only [List.map_map] at hform
        have hform' : env' = setAll (reset env (writes a) (nth env')) (live.map (·.1)) (live.map fun x => nth env' x.1) := hform
        rw [← hform'] at hb
        refine wp_mono (ihb hb) ?_
        rintro e a'' w'' ⟨h1, h2, env'', rfl, ha', hK'⟩
        exact ⟨h1, h2, env'', rfl, (ha.mono up).trans (ha'.mono fun i hi => by simp [writes, hi]), hK'⟩
      | exit id => exact ⟨h1, h2, env', rfl, ha.mono up, hK⟩
      | goto l => exact ⟨h1, h2, env', rfl, ha.mono up, hK⟩
      | ret => exact ⟨h1, h2, env', rfl, ha.mono up, hK⟩
      | panic c => exact absurd rfl (h1 c)
      | outgrown => exact absurd rfl h2
  | cond c a b iha ihb =>
    intro an env K w h
    simp only [vc] at h
    split at h
    · rename_i he
      refine wp_cond_true (by rw [ev_eq]; exact he) (wp_mono (iha h) ?_)
      rintro e a' w' ⟨h1, h2, env', rfl, ha, hK⟩
      exact ⟨h1, h2, env', rfl, ha.mono fun i hi => by simp [writes, hi], hK⟩
    · rename_i he
      refine wp_cond_false (by rw [ev_eq]; exact he) (wp_mono (ihb h) ?_)
      rintro e a' w' ⟨h1, h2, env', rfl, ha, hK⟩
      exact ⟨h1, h2, env', rfl, ha.mono fun i hi => by simp [writes, hi], hK⟩
    · exact h.elim
  | block id a iha =>
    intro an env K w h
    refine wp_block (wp_mono (iha h) ?_)
    rintro e a' w' ⟨h1, h2, env', rfl, ha, hK⟩
    cases e with
    | normal => exact ⟨h1, h2, env', rfl, ha, hK⟩
    | exit i =>
      simp only [blkK] at hK
      simp only [Exit.inBlock]
      split at hK <;> rename_i hi
      · rw [if_pos hi]; exact ⟨by simp, by simp, env', rfl, ha, hK⟩
      · rw [if_neg hi]; exact ⟨h1, h2, env', rfl, ha, hK⟩
    | goto l => exact ⟨h1, h2, env', rfl, ha, hK⟩
    | ret => exact ⟨h1, h2, env', rfl, ha, hK⟩
    | panic c => exact absurd rfl (h1 c)
    | outgrown => exact absurd rfl h2
  | scope a iha =>
    intro an env K w h
    refine wp_scope_straight (wp_mono (iha h) ?_)
    rintro e a' w' ⟨h1, h2, env', rfl, ha, hK⟩
    cases e with
    | normal => exact ⟨h1, h2, env', rfl, ha, hK⟩
    | exit i => exact ⟨h1, h2, env', rfl, ha, hK⟩
    | goto l => exact hK.elim
    | ret => exact ⟨h1, h2, env', rfl, ha, hK⟩
    | panic c => exact absurd rfl (h1 c)
    | outgrown => exact absurd rfl h2
  | loop a iha =>
    intro an env K w h
    obtain ⟨I, ⟨m, h0⟩, hI⟩ := h
    refine wp_loop' (fun n a' w' => ∃ env' p, a' = act env' ∧ Agr (writes a) env env' ∧ p n w' ∧
      ∀ L : List Value → (Nat → World → Prop) → Prop, allT (an.live.map (·.2)) I L → L (an.live.map fun x => nth env' x.1) p) ?_ (n := m) ?_
    · rintro n a' w' ⟨env', p, rfl, ha, hp, hl⟩
      have hb := hl _ hI (nth env') n w' hp
      have hform := ha.form (an.live.map (·.1))
      simp only [List.map_map] at hform
      have hform' : env' = setAll (reset env (writes a) (nth env')) (an.live.map (·.1)) (an.live.map fun x => nth env' x.1) := hform
      rw [← hform'] at hb
      refine wp_mono (iha hb) ?_
      rintro e a'' w'' ⟨h1, h2, env'', rfl, ha', hK'⟩
      cases e with
      | normal =>
        obtain ⟨m', hm', hK'⟩ := hK'
        obtain ⟨p', hp', hl'⟩ := at_allT (by simp) hK'
        exact ⟨m', hm', env'', p', rfl, ha.trans ha', hp', hl'⟩
      | exit id => exact ⟨h1, h2, env'', rfl, ha.trans ha', hK'⟩
      | goto l => exact ⟨h1, h2, env'', rfl, ha.trans ha', hK'⟩
      | ret => exact ⟨h1, h2, env'', rfl, ha.trans ha', hK'⟩
      | panic c => exact absurd rfl (h1 c)
      | outgrown => exact absurd rfl h2
    · obtain ⟨p, hp, hl⟩ := at_allT (by simp) h0
      exact ⟨env, p, rfl, .refl _ _, hp, hl⟩
  | rangeFunc => intro an env K w h; exact h.elim
  | goto => intro an env K w h; exact h.elim
  | refuse => intro an env K w h; exact h.elim

/-- What a function's body leaves as its result. -/
def retK (P : Program) (fn : Func) (K : Value → World → Prop) : Exit → List Value → World → Prop
  | .normal, env, w => ss P (fun a v => w.cell? a = some v) (results fn env.toArray) fun v => K v w
  | .ret, env, w => ss P (fun a v => w.cell? a = some v) (results fn env.toArray) fun v => K v w
  | _, _, _ => False
def body (fn : Func) : Code := fn.body.getD .skip
/-- THE RULE: a call comes to what the body's condition says. -/
theorem call_of_vc (hok : ∀ n, okf.fns.contains n = true → okFn P n = true) {f : FuncId} {fn : Func} {args : List Value} {w : World} {K : Value → World → Prop} (an : Ann)
    (hf : P.funcs[f]? = some fn) (hb : fn.body.isSome = true)
    (h : vc P okf (body fn) an (args ++ List.replicate (fn.ntmps - args.length) undef) (retK P fn K) w) : CallV P f ⟨args⟩ w K := by
  cases hc : fn.body with
  | none => simp [hc] at hb
  | some c =>
    have hbody : body fn = c := by simp [body, hc]
    rw [hbody] at h
    refine calls_of_wp hf hc ?_
    have henv : ({ tmps := (⟨args⟩ : Array Value) ++ Array.replicate (fn.ntmps - (⟨args⟩ : Array Value).size) undef, defers := [] } : Act) = act (args ++ List.replicate (fn.ntmps - args.length) undef) := by
      simp [act]
    rw [henv]
    refine wp_mono (vc_sound hok c h) ?_
    rintro e a' w' ⟨h1, h2, env', rfl, ha, hK⟩
    have fin : ss P (fun a v => w'.cell? a = some v) (results fn env'.toArray) (fun v => K v w') →
        (act env').defers = [] ∧ ∃ v, (results fn (act env').tmps).run P w' = .ok v w' ∧ ∃ v', Ending.returned v = Ending.returned v' ∧ K v' w' := fun h => by
      obtain ⟨v, hv, hr⟩ := ss_sound (S := fun x => x = w') (fun a v hv x hx => by rw [hx]; exact hv) _ h
      exact ⟨rfl, v, hr w' rfl, v, rfl, hv⟩
    cases e with
    | normal => exact fin hK
    | ret => exact fin hK
    | exit i => exact hK.elim
    | goto l => exact hK.elim
    | panic c => exact absurd rfl (h1 c)
    | outgrown => exact absurd rfl h2
end
theorem cast_vc {a b : Prop} (e : a = b) (h : b) : a := e ▸ h
end Go.Vc

/-! A part of the proof that two events of one line are one event: the calculus that follows known memory by computing, and its soundness. By an AI agent. -/

namespace Go.Vc
open Go

/-! ## what a piece of work leaves as it was -/
structure Chg (S : Nat → Prop) (w w' : World) : Prop where
  os : w'.os = w.os
  tape : w'.tape = w.tape
  output : w'.output = w.output
  drawn : w.drawn ≤ w'.drawn
  size : w.heap.size ≤ w'.heap.size
  block : ∀ k, k < w.heap.size → ¬ S k → w'.heap[k]? = w.heap[k]?
abbrev Grow := Chg fun _ => False
theorem Chg.refl (S : Nat → Prop) (w : World) : Chg S w w := ⟨rfl, rfl, rfl, Nat.le_refl _, Nat.le_refl _, fun _ _ _ => rfl⟩
theorem Chg.trans {S T : Nat → Prop} {a b c : World} (h : Chg S a b) (k : Chg T b c) (hT : ∀ i, i < a.heap.size → T i → S i) : Chg S a c :=
  ⟨k.os.trans h.os, k.tape.trans h.tape, k.output.trans h.output, Nat.le_trans h.drawn k.drawn, Nat.le_trans h.size k.size, fun i hi hn =>
    (k.block i (Nat.lt_of_lt_of_le hi h.size) fun ht => hn (hT i hi ht)).trans (h.block i hi hn)⟩
theorem Chg.mono {S T : Nat → Prop} {a b : World} (h : Chg S a b) (hT : ∀ i, i < a.heap.size → S i → T i) : Chg T a b :=
  ⟨h.os, h.tape, h.output, h.drawn, h.size, fun i hi hn => h.block i hi fun hs => hn (hT i hi hs)⟩
theorem Grow.trans {a b c : World} (h : Grow a b) (k : Grow b c) : Grow a c := Chg.trans h k fun _ _ h => h
theorem Grow.chg {S : Nat → Prop} {a b : World} (h : Grow a b) : Chg S a b := Chg.mono h fun _ _ h => h.elim
/-- behind a change of S alone, whatever grows more -/
theorem Chg.grow {S : Nat → Prop} {a b c : World} (h : Chg S a b) (k : Grow b c) : Chg S a c := h.trans k fun _ _ h => h.elim
theorem Grow.then {S : Nat → Prop} {a b c : World} (h : Grow a b) (k : Chg S b c) : Chg S a c := (Grow.chg h).trans k fun _ _ h => h
theorem Chg.drew (w : World) : Grow w w.drew := ⟨rfl, rfl, rfl, Nat.le_succ _, Nat.le_refl _, fun _ _ _ => rfl⟩
theorem drew_heap (w : World) : w.drew.heap = w.heap := rfl
theorem Chg.alloc (w : World) (o : Obj) : Grow w (w.alloc o) :=
  ⟨rfl, rfl, rfl, Nat.le_refl _, by simp, fun k hk _ => by
    show (w.heap.push o)[k]? = _
    rw [Array.getElem?_push, if_neg (by omega)]⟩
theorem heap_lt {w : World} {b : Nat} {o : Obj} (h : w.heap[b]? = some o) : b < w.heap.size := by
  rcases Nat.lt_or_ge b w.heap.size with hl | hl
  · exact hl
  · simp [Array.getElem?_eq_none hl] at h
theorem Chg.get {S : Nat → Prop} {w w' : World} (g : Chg S w w') {b : Nat} {o : Obj} (h : w.heap[b]? = some o) (hn : ¬ S b) : w'.heap[b]? = some o := by
  rw [g.block b (heap_lt h) hn]; exact h
theorem Grow.get {w w' : World} (g : Grow w w') {b : Nat} {o : Obj} (h : w.heap[b]? = some o) : w'.heap[b]? = some o := Chg.get g h id
theorem Chg.setCell (w : World) (a : Addr) (v : Value) : Chg (· = a.block) w (w.setCell a v) :=
  ⟨rfl, rfl, rfl, Nat.le_refl _, by simp, fun k hk hn => by
    simp only [World.setCell, Array.getElem?_modify]
    rw [if_neg (by omega)]⟩

/-! ## cells -/
theorem add_mk (b o i : Nat) : (⟨b, o, none⟩ : Addr).add i = ⟨b, o + i, none⟩ := by
  unfold Addr.add; split
  · rename_i h; simp [h]
  · rfl
theorem cell_blk {w : World} {b : Nat} {cs : Array Value} {T : TypeId} {fz : Nat × Nat} (h : w.heap[b]? = some (.cells cs T fz)) (i : Nat) :
    w.cell? ⟨b, i, none⟩ = cs[i]? := by simp [World.cell?, h]
theorem frozen_blk {w : World} {b : Nat} {cs : Array Value} {T : TypeId} (h : w.heap[b]? = some (.cells cs T (0, 0))) (i : Nat) :
    w.frozen? ⟨b, i, none⟩ = false := by simp [World.frozen?, h]
theorem set_blk {w : World} {b : Nat} {cs : Array Value} {T : TypeId} {fz : Nat × Nat} (h : w.heap[b]? = some (.cells cs T fz)) (i : Nat) (v : Value) :
    (w.setCell ⟨b, i, none⟩ v).heap[b]? = some (.cells (cs.setIfInBounds i v) T fz) := by
  simp [World.setCell, Array.getElem?_modify, h]

/-! ## the words of a mirror -/
theorem Dr_some {a : Addr} {K : Addr → Prop} : Dr (some a) K ↔ K a := by
  constructor
  · rintro ⟨b, h, k⟩; cases h; exact k
  · intro h; exact ⟨a, rfl, h⟩
theorem newV {w : World} {o : Obj} {K : Nat → World → Prop}
    (h : ∀ b w', b = w.heap.size → w'.heap[b]? = some o → w'.heap.size = b + 1 → Grow w w' → K b w') : NewV w o K :=
  h _ _ rfl (by show (w.heap.push o)[w.heap.size]? = _; simp) (by simp) (Chg.alloc w o)
theorem stC {w : World} {b i : Nat} {v : Value} {K : World → Prop} {cs : Array Value} {T : TypeId} (hb : w.heap[b]? = some (.cells cs T (0, 0)))
    (hi : i < cs.size) (hv : oneC v = true)
    (h : ∀ w', w'.heap[b]? = some (.cells (cs.setIfInBounds i v) T (0, 0)) → w'.heap.size = w.heap.size → Chg (· = b) w w' → K w') : StC w ⟨b, i, none⟩ v K :=
  ⟨hv, ⟨cs[i], by rw [cell_blk hb]; simp [hi]⟩, frozen_blk hb i, h _ (set_blk hb i v) (by simp) (Chg.setCell w ⟨b, i, none⟩ v)⟩
theorem callV_mono {P : Program} {f : FuncId} {args : Array Value} {w : World} {K K' : Value → World → Prop} (h : CallV P f args w K) (hk : ∀ v w, K v w → K' v w) : CallV P f args w K' :=
  Calls.mono h fun _ _ ⟨v, e, hv⟩ => ⟨v, e, hk _ _ hv⟩

/-! ## rows -/
/-- From offset o on block b has the cells xs. -/
def RowAt (w : World) (b o : Nat) (xs : List Value) : Prop :=
  ∃ cs T fz, w.heap[b]? = some (.cells cs T fz) ∧ ∀ i, i < xs.length → cs[o + i]? = xs[i]?
theorem RowAt.cell {w : World} {b o : Nat} {xs : List Value} (h : RowAt w b o xs) {i : Nat} {v : Value} (hi : xs[i]? = some v) : w.cell? ⟨b, o + i, none⟩ = some v := by
  obtain ⟨cs, T, fz, hb, hc⟩ := h
  have hl : i < xs.length := by
    rcases Nat.lt_or_ge i xs.length with hl | hl
    · exact hl
    · simp [List.getElem?_eq_none hl] at hi
  rw [cell_blk hb, hc i hl, hi]
theorem RowAt.keep {S : Nat → Prop} {w w' : World} {b o : Nat} {xs : List Value} (h : RowAt w b o xs) (g : Chg S w w') (hn : ¬ S b) : RowAt w' b o xs := by
  obtain ⟨cs, T, fz, hb, hc⟩ := h
  exact ⟨cs, T, fz, g.get hb hn, hc⟩
/-- A slice's value that reads as the cells xs. -/
def Sl (w : World) (q : Option Addr) (xs : List Value) : Prop := xs = [] ∨ ∃ b o, q = some ⟨b, o, none⟩ ∧ RowAt w b o xs
theorem Sl.nil (w : World) (q : Option Addr) : Sl w q [] := .inl rfl
/-- It doesn't lie in one of the blocks S. -/
def Off (S : Nat → Prop) (q : Option Addr) : Prop := ∀ a, q = some a → ¬ S a.block
theorem Off.no (q : Option Addr) : Off (fun _ => False) q := fun _ _ h => h
theorem Sl.keep {S : Nat → Prop} {w w' : World} {q : Option Addr} {xs : List Value} (h : Sl w q xs) (g : Chg S w w') (hn : Off S q) : Sl w' q xs := by
  rcases h with h | ⟨b, o, rfl, h⟩
  · exact .inl h
  · exact .inr ⟨b, o, rfl, h.keep g (hn _ rfl)⟩
theorem Sl.grow {w w' : World} {q : Option Addr} {xs : List Value} (h : Sl w q xs) (g : Grow w w') : Sl w' q xs := h.keep g (Off.no q)
/-- Its i-th cell. -/
theorem Sl.at {w : World} {q : Option Addr} {xs : List Value} (h : Sl w q xs) {i : Nat} {v : Value} (hi : xs[i]? = some v) :
    ∃ b o, q = some ⟨b, o, none⟩ ∧ w.cell? ⟨b, o + i, none⟩ = some v := by
  rcases h with rfl | ⟨b, o, rfl, h⟩
  · simp at hi
  · exact ⟨b, o, rfl, h.cell hi⟩
theorem RowAt.lt {w : World} {b o : Nat} {xs : List Value} (h : RowAt w b o xs) : b < w.heap.size := by
  obtain ⟨cs, T, fz, hb, hc⟩ := h; exact heap_lt hb

/-! ## slices that may be written, and appended to; k: how many cells an element has -/
def Own (e : TypeId) (k : Nat) (w : World) (q : Option Addr) (c : Nat) (xs : List Value) : Prop :=
  (q = none ∧ c = 0 ∧ xs = []) ∨
  ∃ b o cs, q = some ⟨b, o, none⟩ ∧ w.heap[b]? = some (.cells cs e (0, 0)) ∧ cs.size = o + c * k ∧ c ≤ 9223372036854775807 ∧ xs.length ≤ c * k ∧ ∀ i, i < xs.length → cs[o + i]? = xs[i]?
theorem Own.sl {e : TypeId} {k : Nat} {w : World} {q : Option Addr} {c : Nat} {xs : List Value} (h : Own e k w q c xs) : Sl w q xs := by
  rcases h with ⟨_, _, h⟩ | ⟨b, o, cs, rfl, hb, _, _, _, h⟩
  · exact .inl h
  · exact .inr ⟨b, o, rfl, cs, e, _, hb, h⟩
theorem Own.keep {S : Nat → Prop} {e : TypeId} {k : Nat} {w w' : World} {q : Option Addr} {c : Nat} {xs : List Value} (h : Own e k w q c xs) (g : Chg S w w') (hn : Off S q) : Own e k w' q c xs := by
  rcases h with h | ⟨b, o, cs, rfl, hb, h0, h1, h2, h3⟩
  · exact .inl h
  · exact .inr ⟨b, o, cs, rfl, g.get hb (hn _ rfl), h0, h1, h2, h3⟩
theorem Own.grow {e : TypeId} {k : Nat} {w w' : World} {q : Option Addr} {c : Nat} {xs : List Value} (h : Own e k w q c xs) (g : Grow w w') : Own e k w' q c xs := h.keep g (Off.no q)
theorem Own.nil (e : TypeId) (k : Nat) (w : World) : Own e k w none 0 [] := .inl ⟨rfl, rfl, rfl⟩
theorem Own.lt {e : TypeId} {k : Nat} {w : World} {q : Option Addr} {c : Nat} {xs : List Value} (h : Own e k w q c xs) : ∀ a, q = some a → a.block < w.heap.size := by
  rintro a rfl
  rcases h with ⟨h, _, _⟩ | ⟨b, o, cs, h, hb, _⟩
  · cases h
  · cases h; exact heap_lt hb
/-- the block that it lies in -/
def blkOf (q : Option Addr) (n : Nat) : Prop := ∃ a, q = some a ∧ n = a.block
end Go.Vc

/-! A part of the proof that two events of one line are one event: the calculus that follows known memory by computing, and its soundness. By an AI agent. -/

namespace Go.Vc
open Go
section
variable {P : Program}
theorem sv_bind {α β : Type} (x : Sem α) (f : α → Sem β) {K : β → World → Prop} {w : World} : sv P (x >>= f) K w ↔ sv P x (fun a w => sv P (f a) K w) w := by
  have h : ∀ (x : Sem α) (w : World), sv P (x.bind f) K w = sv P x (fun a w => sv P (f a) K w) w := by
    intro x
    induction x with
    | pure a => intro w; rfl
    | load m a k ih => intro w; simp only [Sem.bind, sv, ih]
    | store m a v k ih => intro w; simp only [Sem.bind, sv, ih]
    | new o k ih => intro w; simp only [Sem.bind, sv, ih]
    | shape r k ih => intro w; simp only [Sem.bind, sv, ih]
    | freeze a n k ih => intro w; simp only [Sem.bind, sv, ih]
    | frozen a k ih => intro w; simp only [Sem.bind, sv, ih]
    | getObj r k ih => intro w; simp only [Sem.bind, sv, ih]
    | setObj r o k ih => intro w; simp only [Sem.bind, sv, ih]
    | choose q k ih => intro w; simp only [Sem.bind, sv, ih]
    | sys c k ih => intro w; rfl
    | program k ih => intro w; simp only [Sem.bind, sv, ih]
    | mark m k ih => intro w; simp only [Sem.bind, sv, ih]
    | halt h => intro w; rfl
  exact Iff.of_eq (h x w)
theorem sv_pure {α : Type} (a : α) {K : α → World → Prop} {w : World} : sv P (pure a : Sem α) K w ↔ K a w := Iff.rfl
theorem sv_pure' {α : Type} (a : α) {K : α → World → Prop} {w : World} : sv P (Sem.pure a : Sem α) K w ↔ K a w := Iff.rfl
theorem sv_program {K : Program → World → Prop} {w : World} : sv P program K w ↔ K P w := Iff.rfl
theorem sv_load {a : Addr} {K : Value → World → Prop} {w : World} : sv P (load a) K w ↔ LdC w a fun v => K v w := Iff.rfl
theorem sv_store {a : Addr} {v : Value} {K : Unit → World → Prop} {w : World} : sv P (store a v) K w ↔ StC w a v fun w => K () w := Iff.rfl
theorem sv_newObj {o : Obj} {K : Nat → World → Prop} {w : World} : sv P (newObj o) K w ↔ NewV w o K := Iff.rfl
theorem sv_choose {q : Question} {K : Nat → World → Prop} {w : World} : sv P (choose q) K w ↔ ChV w q K := Iff.rfl
theorem sv_getObj {r : Nat} {K : Obj → World → Prop} {w : World} : sv P (getObj r) K w ↔ GetV w r fun o => K o w := Iff.rfl
theorem sv_setObj {r : Nat} {o : Obj} {K : Unit → World → Prop} {w : World} : sv P (setObj r o) K w ↔ SetV w r o fun w => K () w := Iff.rfl
theorem sv_askRoom {n : Nat} {K : Unit → World → Prop} {w : World} : sv P (askRoom n) K w ↔ K () w := by unfold askRoom; split <;> exact Iff.rfl
theorem sv_ite {α : Type} (c : Prop) [Decidable c] (x y : Sem α) {K : α → World → Prop} {w : World} : sv P (if c then x else y) K w ↔ if c then sv P x K w else sv P y K w := by split <;> exact Iff.rfl
theorem sv_underlying {t : TypeId} {d : TypeDesc} (h : P.underlying t = some d) {K : TypeDesc → World → Prop} {w : World} : sv P (underlying t) K w ↔ K d w := by
  show sv P (match P.underlying t with | some d => pure d | none => stuck "no such type") K w ↔ _
  rw [h]; exact Iff.rfl
theorem sv_typeInfo {t : TypeId} {i : TypeInfo} (h : P.info? t = some i) {K : TypeInfo → World → Prop} {w : World} : sv P (typeInfo t) K w ↔ K i w := by
  show sv P (match P.info? t with | some d => pure d | none => stuck "no such type") K w ↔ _
  rw [h]; exact Iff.rfl
theorem sv_sizeOf {t : TypeId} {i : TypeInfo} (h : P.info? t = some i) {K : Nat → World → Prop} {w : World} : sv P (sizeOf t) K w ↔ K i.size w := by
  unfold sizeOf; rw [sv_bind, sv_typeInfo h]; exact Iff.rfl
theorem sv_zeroValue {t : TypeId} {i : TypeInfo} {z : Value} (h : P.info? t = some i) (hz : i.zero = some z) {K : Value → World → Prop} {w : World} : sv P (zeroValue t) K w ↔ K z w := by
  unfold zeroValue; rw [sv_bind, sv_typeInfo h, hz]; exact Iff.rfl
/-- many cells are read -/
theorem sv_loadCellsFrom {b o : Nat} {K : Array Value → World → Prop} {w : World} : ∀ (xs : List Value) (i : Nat) (acc : Array Value),
    (∀ j, j < xs.length → w.cell? ⟨b, o + i + j, none⟩ = xs[j]?) → K (acc ++ xs.toArray) w → sv P (loadCellsFrom ⟨b, o, none⟩ i xs.length acc) K w := by
  intro xs
  induction xs with
  | nil => intro i acc _ hK; simpa [loadCellsFrom, sv_pure] using hK
  | cons x xs ih =>
    intro i acc h hK
    simp only [List.length_cons, loadCellsFrom]
    rw [sv_bind, sv_load]
    refine ⟨x, by rw [add_mk]; simpa using h 0 (by simp), ?_⟩
    refine ih (i + 1) _ (fun j hj => ?_) (by simpa using hK)
    have := h (j + 1) (by simpa using hj)
    rw [show o + (i + 1) + j = o + i + (j + 1) by omega]
    simpa using this
theorem sv_loadCells {b o : Nat} {K : Array Value → World → Prop} {w : World} {xs : List Value} {n : Nat} (hn : n = xs.length) (h : RowAt w b o xs) (hK : K xs.toArray w) :
    sv P (loadCells ⟨b, o, none⟩ n) K w := by
  subst hn
  refine sv_loadCellsFrom xs 0 #[] (fun j hj => ?_) (by simpa using hK)
  rw [Nat.add_zero, h.cell (v := xs[j]) (by simp [hj])]
  simp [hj]
/-- many cells are written -/
theorem sv_storeCells {b o : Nat} {T : TypeId} {K : Unit → World → Prop} : ∀ (ys : List Value) (i : Nat) (cs : Array Value) (w : World),
    w.heap[b]? = some (.cells cs T (0, 0)) → o + i + ys.length ≤ cs.size → (∀ y, y ∈ ys → oneC y = true) →
    (∀ w' cs', w'.heap[b]? = some (.cells cs' T (0, 0)) → cs'.size = cs.size → (∀ j, j < o + i ∨ o + i + ys.length ≤ j → cs'[j]? = cs[j]?) → (∀ j, j < ys.length → cs'[o + i + j]? = ys[j]?) →
      w'.heap.size = w.heap.size → Chg (· = b) w w' → K () w') →
    sv P (storeCells ⟨b, o, none⟩ ys i) K w := by
  intro ys
  induction ys with
  | nil =>
    intro i cs w hb _ _ hK
    exact hK w cs hb rfl (fun j _ => rfl) (fun j hj => by simp at hj) rfl (.refl _ _)
  | cons y ys ih =>
    intro i cs w hb hl ho hK
    simp only [List.length_cons] at hl
    rw [storeCells, sv_bind, sv_store, add_mk]
    refine stC hb (by omega) (ho y (by simp)) fun w1 hb1 hs1 g1 => ?_
    refine ih (i + 1) _ w1 hb1 (by simp; omega) (fun z hz => ho z (by simp [hz])) fun w2 cs2 hb2 hs2 hout hin hsz g2 => ?_
    refine hK w2 cs2 hb2 (by simpa using hs2) (fun j hj => ?_) (fun j hj => ?_) (hsz.trans hs1) (g1.trans g2 fun _ _ h => h)
    · simp only [List.length_cons] at hj
      rw [hout j (by omega), Array.getElem?_setIfInBounds_ne (by omega)]
    · cases j with
      | zero =>
        rw [hout _ (by omega)]
        have : o + i < cs.size := by omega
        simp [this]
      | succ j =>
        have := hin j (by simpa using hj)
        rw [show o + i + (j + 1) = o + (i + 1) + j by omega, this]; simp

theorem growBy_le (n : Nat) : ∀ (r c : Nat), c < n → Builtin.growBy n r c ≤ 2 * n + 1024
  | 0, c, h => by simp [Builtin.growBy]; omega
  | r + 1, c, h => by
    unfold Builtin.growBy
    rw [if_neg (by omega)]
    by_cases h2 : c + (c + 768) / 4 < n
    · exact growBy_le n r _ h2
    · cases r with
      | zero => simp [Builtin.growBy]; omega
      | succ r => unfold Builtin.growBy; rw [if_pos (by omega)]; omega
theorem nextcap_le {n c : Nat} (h : c < n) : Builtin.nextslicecap n c ≤ 2 * n + 1024 := by
  unfold Builtin.nextslicecap
  split
  · omega
  · split
    · omega
    · exact growBy_le n 4 c h
theorem zeroCells_size (z : Array Value) (n : Nat) : (Builtin.zeroCells z n).size = n * z.size := by simp [Builtin.zeroCells]

/-- 'append(s, x...)', s a slice that may be written and appended to, x a slice that reads as ys. -/
theorem sv_append {ts xt t e : TypeId} {i : TypeInfo} {z : Value} (hu : P.underlying ts = some (.slice e)) (hx : P.underlying xt = some (.slice e)) (hi : P.info? e = some i) (hz : i.zero = some z)
    (hzs : z.cells.size = i.size) (hby : i.bytes ≠ 0) {w : World} {q q2 : Option Addr} {l c l2 c2 : Nat} {xs ys : List Value} {K : Value → World → Prop}
    (ho : Own e i.size w q c xs) (hl : xs.length = l * i.size) (hlc : l ≤ c) (hs : Sl w q2 ys) (hl2 : ys.length = l2 * i.size) (hone : ∀ y, y ∈ ys → oneC y = true)
    (hroom : (2 * (l + l2) + 1024) * i.bytes ≤ 281474976710656)
    (hK : ∀ q' c' w', Own e i.size w' q' c' (xs ++ ys) → l + l2 ≤ c' → Chg (blkOf q) w w' → (∀ a, q' = some a → q = some a ∨ a = ⟨w.heap.size, 0, Option.none⟩) →
      K (.slice q' (l + l2) c') w') :
    sv P (Builtin.append_ #[ts, xt] t ⟨[.slice q l c, .slice q2 l2 c2]⟩) K w := by
  have ld : ∀ (w : World) (q : Option Addr) (n c : Nat) (xs : List Value) (K : Array Value → World → Prop), Sl w q xs → xs.length = n * i.size → K xs.toArray w → sv P (Builtin.firstCells i.size n (.slice q n c)) K w := by
    intro w q n c xs K h hl hK
    rcases h with rfl | ⟨b, o, rfl, h⟩
    · cases q with
      | none => exact hK
      | some a =>
        have : n * i.size = 0 := by simpa using hl.symm
        simp only [Builtin.firstCells, this]
        exact hK
    · simp only [Builtin.firstCells]
      exact sv_loadCells (by omega) h hK
  unfold Builtin.append_
  simp only [List.getElem?_toArray, List.getElem?_cons_zero, List.getElem?_cons_succ, sv_bind, sv_underlying hu, sv_underlying hx, sv_sizeOf hi, sv_pure, Bool.false_eq_true, if_false, Builtin.lenOf,
    sv_ite, sv_typeInfo hi, sv_zeroValue hi hz, Bool.not_false, if_true, false_or]
  have ld2 := fun (w : World) (K : Array Value → World → Prop) (h : Sl w q2 ys) => ld w q2 l2 c2 ys K h hl2
  by_cases hin : l + l2 ≤ c
  · rw [if_pos hin]
    refine ld2 _ _ hs ?_
    rcases ho with ⟨rfl, rfl, rfl⟩ | ⟨b, o, cs, rfl, hb, h1, h1', h2, h3⟩
    · have : l2 = 0 := by omega
      subst this
      have : ys = [] := by simpa using hl2
      subst this
      have : l = 0 := by omega
      subst this
      exact hK none 0 w (.nil _ _ _) (by omega) (.refl _ _) (fun a h => by cases h)
    · have hle : (l + l2) * i.size ≤ c * i.size := Nat.mul_le_mul_right _ hin
      rw [Nat.add_mul] at hle
      simp only [sv_bind, sv_pure, add_mk]
      refine sv_storeCells (o := o + l * i.size) ys 0 cs w hb (by omega) hone fun w' cs' hb' hs' hout hin' hsz g => ?_
      refine hK _ c w' (.inr ⟨b, o, cs', rfl, hb', by omega, h1', by simp; omega, fun j hj => ?_⟩) hin (g.mono fun k _ h => ⟨_, rfl, h⟩) (fun a h => .inl h)
      simp only [List.length_append] at hj
      by_cases hjl : j < xs.length
      · rw [hout (o + j) (by omega), h3 j hjl, List.getElem?_append_left hjl]
      · have := hin' (j - xs.length) (by omega)
        rw [show o + l * i.size + 0 + (j - xs.length) = o + j by omega] at this
        rw [this, List.getElem?_append_right (by omega)]
  · rw [if_neg hin]
    have hcap := nextcap_le (n := l + l2) (c := c) (by omega)
    have hb1 : ¬ Builtin.nextslicecap (l + l2) c * i.bytes > 2 ^ 48 := by
      have h1 : Builtin.nextslicecap (l + l2) c * i.bytes ≤ (2 * (l + l2) + 1024) * i.bytes := Nat.mul_le_mul_right _ hcap
      omega
    rw [if_neg (fun h => hby h.2), if_neg hb1, sv_choose]
    unfold ChV
    rw [if_neg (by simp [Question.forced])]
    simp only [sv_askRoom]
    have hcut : l + l2 ≤ (Question.appendCap (l + l2) c e).cut (w.tape w.drawn (Question.appendCap (l + l2) c e)) := by
      simp only [Question.cut]; omega
    have hsmall : l + l2 ≤ 9223372036854775807 := by
      have h1 : (2 * (l + l2) + 1024) * 1 ≤ (2 * (l + l2) + 1024) * i.bytes := Nat.mul_le_mul_left _ (by omega)
      omega
    have hcut2 : (Question.appendCap (l + l2) c e).cut (w.tape w.drawn (Question.appendCap (l + l2) c e)) ≤ 9223372036854775807 := by
      simp only [Question.cut]
      have : w.tape w.drawn (Question.appendCap (l + l2) c e) % (2 ^ 63 - (l + l2)) < 2 ^ 63 - (l + l2) := Nat.mod_lt _ (by omega)
      omega
    generalize (Question.appendCap (l + l2) c e).cut (w.tape w.drawn (Question.appendCap (l + l2) c e)) = n at hcut hcut2 ⊢
    refine ld _ _ _ _ xs _ (ho.sl.grow (Chg.drew w)) hl ?_
    refine ld2 _ _ (hs.grow (Chg.drew w)) ?_
    unfold newRow
    rw [sv_bind, sv_newObj]
    refine newV fun b w1 hb hb1 hs1 g1 => ?_
    rw [sv_pure]
    have hb' : b = w.heap.size := hb
    have hlt : ¬ b < w.heap.size := by omega
    refine hK (some ⟨b, 0, none⟩) n w1 (.inr ⟨b, 0, _, rfl, hb1, ?_, hcut2, ?_, fun j hj => ?_⟩) hcut ((Chg.drew w).trans g1).chg ?_
    · simp only [Array.size_append, zeroCells_size, hzs, List.size_toArray, hl, hl2, Nat.zero_add]
      rw [← Nat.add_mul, ← Nat.add_mul]
      congr 1; omega
    · simp only [List.length_append, hl, hl2, ← Nat.add_mul]
      exact Nat.mul_le_mul_right _ hcut
    · simp only [Nat.zero_add]
      rw [Array.getElem?_append_left (by simpa using hj)]
      simp
    · rintro a h; cases h; rw [hb']; exact .inr rfl
/-- 'append(b, s...)', s a text. -/
theorem sv_append_str {ts xt t e : TypeId} {i : TypeInfo} (hu : P.underlying ts = some (.slice e)) (hx : P.underlying xt = some .string) (hi : P.info? e = some i) (hz : i.zero = some (.int .u8 0))
    (hk : i.size = 1) (hby : i.bytes = 1) {w : World} {q : Option Addr} {l c : Nat} {xs : List Value} {s : ByteArray} {K : Value → World → Prop}
    (ho : Own e 1 w q c xs) (hl : xs.length = l) (hlc : l ≤ c) (hroom : l + s.size ≤ 70368744177664)
    (hK : ∀ q' c' w', Own e 1 w' q' c' (xs ++ s.data.toList.map fun b => .int .u8 b.toNat) → l + s.size ≤ c' → Chg (blkOf q) w w' → (∀ a, q' = some a → q = some a ∨ a = ⟨w.heap.size, 0, Option.none⟩) →
      K (.slice q' (l + s.size) c') w') :
    sv P (Builtin.append_ #[ts, xt] t ⟨[.slice q l c, .string s]⟩) K w := by
  have ld : ∀ (w : World) (q : Option Addr) (n c : Nat) (xs : List Value) (K : Array Value → World → Prop), Sl w q xs → xs.length = n → K xs.toArray w → sv P (Builtin.firstCells i.size n (.slice q n c)) K w := by
    intro w q n c xs K h hl hK
    rcases h with rfl | ⟨b, o, rfl, h⟩
    · cases q with
      | none => exact hK
      | some a =>
        have : n * i.size = 0 := by rw [hk]; simpa using hl.symm
        simp only [Builtin.firstCells, this]
        exact hK
    · simp only [Builtin.firstCells]
      exact sv_loadCells (by rw [hk]; omega) h hK
  have ls : ∀ (w : World) (K : Array Value → World → Prop), K (s.data.toList.map fun b => .int .u8 b.toNat).toArray w → sv P (Builtin.firstCells i.size s.size (.string s)) K w := by
    intro w K hK
    simp only [Builtin.firstCells, sv_pure]
    have e : (s.extract 0 s.size).data.map (fun b => (.int .u8 b.toNat : Value)) = (s.data.toList.map fun b => .int .u8 b.toNat).toArray := by
      have h1 : s.extract 0 s.size = s := by
        apply ByteArray.ext
        rw [ByteArray.data_extract]
        exact Array.extract_size
      rw [h1]; apply Array.toList_inj.1; simp
    rw [e]; exact hK
  have hsz : (s.data.toList.map fun b => (.int .u8 b.toNat : Value)).length = s.size := by rw [List.length_map]; exact Array.length_toList
  unfold Builtin.append_
  simp only [List.getElem?_toArray, List.getElem?_cons_zero, List.getElem?_cons_succ, sv_bind, sv_underlying hu, sv_underlying hx, sv_sizeOf hi, sv_pure, Bool.false_eq_true, if_false, Builtin.lenOf,
    sv_ite, sv_typeInfo hi, sv_zeroValue hi hz, Bool.not_false, if_true, false_or]
  by_cases hin : l + s.size ≤ c
  · rw [if_pos hin]
    refine ls _ _ ?_
    rcases ho with ⟨rfl, rfl, rfl⟩ | ⟨b, o, cs, rfl, hb, h1, h1', h2, h3⟩
    · have : s.size = 0 := by omega
      rw [this] at hK hsz ⊢
      have h0 : (s.data.toList.map fun b => (.int .u8 b.toNat : Value)) = [] := List.eq_nil_of_length_eq_zero hsz
      rw [h0] at hK
      have : l = 0 := by simpa using hl.symm
      subst this
      exact hK none 0 w (.nil _ _ _) (by omega) (.refl _ _) (fun a h => by cases h)
    · simp only [sv_bind, sv_pure, add_mk]
      refine sv_storeCells (o := o + l * i.size) (s.data.toList.map fun b => .int .u8 b.toNat) 0 cs w hb (by rw [hsz, hk]; omega) (fun y hy => by obtain ⟨b, _, rfl⟩ := List.mem_map.1 hy; rfl) fun w' cs' hb' hs' hout hin' hsz' g => ?_
      rw [hk] at hout hin'
      refine hK _ c w' (.inr ⟨b, o, cs', rfl, hb', by omega, h1', by rw [List.length_append, hsz]; omega, fun j hj => ?_⟩) hin (g.mono fun k _ h => ⟨_, rfl, h⟩) (fun a h => .inl h)
      rw [List.length_append, hsz] at hj
      by_cases hjl : j < xs.length
      · rw [hout (o + j) (by omega), h3 j hjl, List.getElem?_append_left hjl]
      · have := hin' (j - xs.length) (by omega)
        rw [show o + l * 1 + 0 + (j - xs.length) = o + j by omega] at this
        rw [this, List.getElem?_append_right (by omega)]
  · rw [if_neg hin]
    have hcap := nextcap_le (n := l + s.size) (c := c) (by omega)
    rw [hby, hk]
    rw [hk] at ld ls
    rw [if_neg (fun h => by simp at h), if_neg (by omega), sv_choose]
    unfold ChV
    rw [if_neg (by simp [Question.forced])]
    simp only [sv_askRoom]
    have hcut : l + s.size ≤ (Question.appendCap (l + s.size) c e).cut (w.tape w.drawn (Question.appendCap (l + s.size) c e)) := by
      simp only [Question.cut]; omega
    have hcut2 : (Question.appendCap (l + s.size) c e).cut (w.tape w.drawn (Question.appendCap (l + s.size) c e)) ≤ 9223372036854775807 := by
      simp only [Question.cut]
      have : w.tape w.drawn (Question.appendCap (l + s.size) c e) % (2 ^ 63 - (l + s.size)) < 2 ^ 63 - (l + s.size) := Nat.mod_lt _ (by omega)
      omega
    generalize (Question.appendCap (l + s.size) c e).cut (w.tape w.drawn (Question.appendCap (l + s.size) c e)) = n at hcut hcut2 ⊢
    refine ld _ _ _ _ xs _ (ho.sl.grow (Chg.drew w)) hl ?_
    refine ls _ _ ?_
    unfold newRow
    rw [sv_bind, sv_newObj]
    refine newV fun b w1 hb hb1 hs1 g1 => ?_
    rw [sv_pure]
    have hb' : b = w.heap.size := hb
    refine hK (some ⟨b, 0, none⟩) n w1 (.inr ⟨b, 0, _, rfl, hb1, ?_, hcut2, ?_, fun j hj => ?_⟩) hcut ((Chg.drew w).trans g1).chg ?_
    · simp only [Array.size_append, zeroCells_size, List.size_toArray, hsz, hl, Nat.zero_add]
      have : (Value.cells (.int .u8 0)).size = 1 := rfl
      rw [this]; omega
    · rw [List.length_append, hsz]; omega
    · simp only [Nat.zero_add]
      rw [Array.getElem?_append_left (by simpa using hj)]
      simp
    · rintro a h; cases h; rw [hb']; exact .inr rfl
theorem sv_append' {ts xt t e : TypeId} {i : TypeInfo} {z : Value} {k by_ : Nat} (hu : P.underlying ts = some (.slice e)) (hx : P.underlying xt = some (.slice e)) (hi : P.info? e = some i) (hz : i.zero = some z)
    (hk : i.size = k) (hb : i.bytes = by_) (hzs : z.cells.size = k) (hby : by_ ≠ 0) {w : World} {q q2 : Option Addr} {l c l2 c2 : Nat} {xs ys : List Value} {K : Value → World → Prop}
    (ho : Own e k w q c xs) (hl : xs.length = l * k) (hlc : l ≤ c) (hs : Sl w q2 ys) (hl2 : ys.length = l2 * k) (hone : ∀ y, y ∈ ys → oneC y = true)
    (hroom : (2 * (l + l2) + 1024) * by_ ≤ 281474976710656)
    (hK : ∀ q' c' w', Own e k w' q' c' (xs ++ ys) → l + l2 ≤ c' → Chg (blkOf q) w w' → (∀ a, q' = some a → q = some a ∨ a = ⟨w.heap.size, 0, Option.none⟩) →
      K (.slice q' (l + l2) c') w') :
    sv P (Builtin.append_ #[ts, xt] t ⟨[.slice q l c, .slice q2 l2 c2]⟩) K w := by
  subst hk; subst hb
  exact sv_append hu hx hi hz hzs hby ho hl hlc hs hl2 hone hroom hK
end
theorem Grow.own {a b c : World} {q : Option Addr} (g : Grow a b) (h : Chg (blkOf q) b c) (ho : Off (fun k => k < a.heap.size) q) : Grow a c :=
  Chg.trans g h fun i hi => by rintro ⟨x, rfl, rfl⟩; exact ho x rfl hi
theorem Off.next {n m : Nat} {q q' : Option Addr} (ho : Off (fun k => k < n) q) (hq : ∀ a, q' = some a → q = some a ∨ a = ⟨m, 0, Option.none⟩) (hm : n ≤ m) : Off (fun k => k < n) q' := by
  intro a ha hlt
  rcases hq a ha with h | h
  · exact ho a h hlt
  · subst h; simp at hlt; omega
theorem Off.none (S : Nat → Prop) : Off S none := fun a h => by cases h
theorem Off.fresh {b o n : Nat} (h : n ≤ b) : Off (fun k => k < n) (some ⟨b, o, Option.none⟩) := fun a ha hlt => by cases ha; simp at hlt; omega
theorem Sl.one {w : World} {b : Nat} {v : Value} {T : TypeId} {fz : Nat × Nat} (h : w.heap[b]? = some (.cells #[v] T fz)) : Sl w (some ⟨b, 0, Option.none⟩) [v] :=
  .inr ⟨b, 0, rfl, _, _, _, h, fun i hi => by simp at hi; subst hi; rfl⟩
end Go.Vc

/-! A part of the proof that two events of one line are one event: the calculus that follows known memory by computing, and its soundness. By an AI agent. -/


namespace Go.Vc
open Go

/-- A block whose cells are known. -/
structure Blk where
  b : Nat
  cs : Array Value
  T : TypeId
  wr : Bool
/-- From w0 on but for S nothing old has changed; from wp on but for M; the blocks L hold what they say. -/
structure Fr (S : Nat → Prop) (w0 wp : World) (M : List Nat) (L : List Blk) (w : World) : Prop where
  chg : Chg S w0 w
  stp : Chg (· ∈ M) wp w
  loc : ∀ x, x ∈ L → w.heap[x.b]? = some (.cells x.cs x.T (0, 0))
  nodup : (L.map (·.b)).Nodup
  new : ∀ x, x ∈ L → x.wr = true → S x.b ∨ w0.heap.size ≤ x.b
abbrev Fs (S : Nat → Prop) (w0 : World) (L : List Blk) (w : World) : Prop := Fr S w0 w [] L w
section
variable {S : Nat → Prop} {w0 wp w : World} {M : List Nat} {L : List Blk}
theorem Fr.init (S : Nat → Prop) (w : World) : Fs S w [] w := ⟨.refl _ _, .refl _ _, (fun x h => by cases h), List.nodup_nil, (fun x h => by cases h)⟩
/-- a block that came in, which is written only if S says so -/
theorem Fr.entry {b : Nat} {cs : Array Value} {T : TypeId} {wr : Bool} (h : Fs S w L w) (hb : w.heap[b]? = some (.cells cs T (0, 0))) (hn : ∀ x, x ∈ L → x.b ≠ b) (hw : wr = true → S b) : Fs S w (⟨b, cs, T, wr⟩ :: L) w :=
  ⟨h.chg, h.stp, fun x hx => by
    rcases List.mem_cons.1 hx with rfl | hx
    · exact hb
    · exact h.loc x hx, by
    rw [List.map_cons, List.nodup_cons]
    exact ⟨fun hm => by obtain ⟨x, hx, he⟩ := List.mem_map.1 hm; exact hn x hx he, h.nodup⟩, fun x hx hwx => by
    rcases List.mem_cons.1 hx with rfl | hx
    · exact .inl (hw hwx)
    · exact h.new x hx hwx⟩
theorem Fr.blk (h : Fr S w0 wp M L w) (j : Nat) {x : Blk} (hj : L[j]? = some x) : w.heap[x.b]? = some (.cells x.cs x.T (0, 0)) := h.loc x (List.mem_of_getElem? hj)
theorem Fr.ld (h : Fr S w0 wp M L w) (j i : Nat) {x : Blk} {a : Addr} {v : Value} (hj : L[j]? = some x) (ha : a = ⟨x.b, i, none⟩) (hv : x.cs[i]? = some v) : w.cell? a = some v := by
  subst ha; rw [cell_blk (h.blk j hj), hv]
theorem Fr.lt (h : Fr S w0 wp M L w) : ∀ x, x ∈ L → x.b < w.heap.size := fun x hx => heap_lt (h.loc x hx)
theorem Fr.reset (h : Fr S w0 wp M L w) : Fs S w0 L w := ⟨h.chg, .refl _ _, h.loc, h.nodup, h.new⟩
theorem Fr.grow (h : Fr S w0 wp [] L w) : Grow wp w := h.stp.mono fun i _ hi => by cases hi
theorem Fr.sub (h : Fr S w0 wp M L w) {L' : List Blk} (hs : L'.Sublist L) : Fr S w0 wp M L' w :=
  ⟨h.chg, h.stp, fun x hx => h.loc x (hs.subset hx), h.nodup.sublist (hs.map _), fun x hx => h.new x (hs.subset hx)⟩
/-- a step that changes nothing of L -/
theorem Fr.step (h : Fr S w0 wp M L w) {w' : World} {S' : Nat → Prop} (g : Chg S' w w') (hn : ∀ x, x ∈ L → ¬ S' x.b) (hs : ∀ k, k < w0.heap.size → S' k → S k) : Fs S w0 L w' :=
  ⟨h.chg.trans g hs, .refl _ _, fun x hx => g.get (h.loc x hx) (hn x hx), h.nodup, h.new⟩
theorem Fr.after (h : Fr S w0 wp M L w) {w' : World} (g : Grow w w') : Fs S w0 L w' := h.step g (fun _ _ h => h) fun _ _ h => h.elim
theorem Fr.more (h : Fr S w0 wp M L w) {w' : World} (g : Grow w w') : Fr S w0 wp M L w' :=
  ⟨h.chg.grow g, h.stp.grow g, fun x hx => g.get (h.loc x hx), h.nodup, h.new⟩
theorem Fr.drew (h : Fr S w0 wp M L w) : Fr S w0 wp M L w.drew := h.more (.drew w)
theorem Fr.newO (h : Fr S w0 wp M L w) {o : Obj} {K : Nat → World → Prop} (k : ∀ r w', r = w.heap.size → w'.heap[r]? = some o → Grow w w' → Fr S w0 wp M L w' → K r w') : NewV w o K :=
  newV fun b w' hb ho _ g => k b w' hb ho g (h.more g)
theorem Fr.newB (h : Fr S w0 wp M L w) {cs : Array Value} {T : TypeId} {K : Nat → World → Prop} (k : ∀ r w', wp.heap.size ≤ r → Fr S w0 wp M (⟨r, cs, T, true⟩ :: L) w' → K r w') : NewV w (.cells cs T (0, 0)) K :=
  newV fun b w' hb ho _ g => k b w' (hb ▸ h.stp.size) ⟨h.chg.grow g, h.stp.grow g, fun x hx => by
    rcases List.mem_cons.1 hx with rfl | hx
    · exact ho
    · exact g.get (h.loc x hx), by
    rw [List.map_cons, List.nodup_cons]
    refine ⟨fun hm => ?_, h.nodup⟩
    obtain ⟨x, hx, he⟩ := List.mem_map.1 hm
    have := h.lt x hx
    simp only [] at he
    omega, fun x hx hw => by
    rcases List.mem_cons.1 hx with rfl | hx
    · exact .inr (by show w0.heap.size ≤ b; rw [hb]; exact h.chg.size)
    · exact h.new x hx hw⟩
theorem Fr.unM {b : Nat} (hb : wp.heap.size ≤ b) (h : Fr S w0 wp (b :: M) L w) : Fr S w0 wp M L w :=
  ⟨h.chg, ⟨h.stp.os, h.stp.tape, h.stp.output, h.stp.drawn, h.stp.size, fun k hk hn => h.stp.block k hk fun e => by
    rcases List.mem_cons.1 e with e | e
    · omega
    · exact hn e⟩, h.loc, h.nodup, h.new⟩
/-- what holds of the blocks L, whatever else has changed -/
def Lo (S : Nat → Prop) (w0 : World) (L : List Blk) (w : World) : Prop := ∃ wp M, Fr S w0 wp M L w
theorem Fr.lo (h : Fr S w0 wp M L w) {L' : List Blk} (hs : L'.Sublist L) : Lo S w0 L' w := ⟨wp, M, h.sub hs⟩
theorem Lo.ld (h : Lo S w0 L w) (j i : Nat) {x : Blk} {a : Addr} {v : Value} (hj : L[j]? = some x) (ha : a = ⟨x.b, i, none⟩) (hv : x.cs[i]? = some v) : w.cell? a = some v := by
  obtain ⟨wp, M, h⟩ := h; exact h.ld j i hj ha hv
theorem stC_mono {w : World} {a : Addr} {v : Value} {K K' : World → Prop} (h : StC w a v K) (hk : ∀ w, K w → K' w) : StC w a v K' := ⟨h.1, h.2.1, h.2.2.1, hk _ h.2.2.2⟩
theorem set_mem {α : Type} : ∀ {L : List α} {j : Nat} {x y : α}, x ∈ L.set j y → x = y ∨ ∃ i, i ≠ j ∧ L[i]? = some x
  | [], j, x, y, h => by simp at h
  | a :: L, 0, x, y, h => by
    rcases List.mem_cons.1 h with h | h
    · exact .inl h
    · obtain ⟨i, hi⟩ := List.getElem?_of_mem h
      exact .inr ⟨i + 1, by omega, by simpa using hi⟩
  | a :: L, j + 1, x, y, h => by
    rcases List.mem_cons.1 h with h | h
    · exact .inr ⟨0, by omega, by simp [h]⟩
    · rcases set_mem h with h | ⟨i, hi, he⟩
      · exact .inl h
      · exact .inr ⟨i + 1, by omega, by simpa using he⟩
theorem Fr.st (h : Fr S w0 wp M L w) (j i : Nat) {x : Blk} {a : Addr} {v : Value} {K : World → Prop} (hj : L[j]? = some x) (ha : a = ⟨x.b, i, none⟩) (hw : x.wr = true) (hi' : Nat.blt i x.cs.size = true) (hv : oneC v = true)
    (k : ∀ w', Fr S w0 wp (x.b :: M) (L.set j ⟨x.b, x.cs.setIfInBounds i v, x.T, true⟩) w' → K w') : StC w a v K := by
  subst ha
  have hi : i < x.cs.size := by
    have := Nat.le_of_ble_eq_true (n := i + 1) (m := x.cs.size) hi'
    omega
  have hx := List.mem_of_getElem? hj
  refine stC (h.blk j hj) hi hv fun w' hb' hs g => k w' ⟨h.chg.trans g fun i hi e => ?_, ?_, fun y hy => ?_, ?_, fun y hy hwy => ?_⟩
  · subst e
    rcases h.new x hx hw with h' | h'
    · exact h'
    · omega
  · exact (h.stp.mono fun i _ e => List.mem_cons_of_mem _ e).trans g fun i _ e => by subst e; exact List.mem_cons_self
  · rcases set_mem hy with rfl | ⟨i', hi', he⟩
    · exact hb'
    · have hy' := List.mem_of_getElem? he
      refine g.get (h.loc y hy') fun e => ?_
      have hnd := h.nodup
      have h1 : (L.map (·.b))[i']? = some y.b := by simp [he]
      have h2 : (L.map (·.b))[j]? = some x.b := by simp [hj]
      rw [e] at h1
      have hl1 : i' < (L.map (·.b)).length := (List.getElem?_eq_some_iff.1 h1).1
      exact hi' ((List.getElem?_inj hl1 hnd).1 (h1.trans h2.symm))
  · have : (L.set j ⟨x.b, x.cs.setIfInBounds i v, x.T, true⟩).map (·.b) = L.map (·.b) := by
      rw [List.map_set]
      apply List.ext_getElem?
      intro n
      rw [List.getElem?_set]
      split
      · rename_i e; subst e
        simp [hj]
        exact (List.getElem?_eq_some_iff.1 hj).1
      · rfl
    rw [this]; exact h.nodup
  · rcases set_mem hy with rfl | ⟨i', hi', he⟩
    · exact h.new x hx hw
    · exact h.new y (List.mem_of_getElem? he) hwy
theorem Fr.st1 (h : Fr S w0 wp M L w) (j i : Nat) (L' : List Blk) {x : Blk} {a : Addr} {v : Value} {K : World → Prop} (hj : L[j]? = some x) (ha : a = ⟨x.b, i, none⟩) (hw : x.wr = true) (hi : Nat.blt i x.cs.size = true) (hv : oneC v = true)
    (hL : L' = L.set j ⟨x.b, x.cs.setIfInBounds i v, x.T, true⟩) (k : ∀ w', Fr S w0 wp (x.b :: M) L' w' → K w') : StC w a v K := by
  subst hL; exact h.st j i hj ha hw hi hv k
/-- many cells laid from o on -/
def wrAt (cs : Array Value) : Nat → List Value → Array Value
  | _, [] => cs
  | o, v :: vs => wrAt (cs.setIfInBounds o v) (o + 1) vs
theorem wrAt_size (vs : List Value) : ∀ (cs : Array Value) (o : Nat), (wrAt cs o vs).size = cs.size := by
  induction vs with
  | nil => intro cs o; rfl
  | cons v vs ih => intro cs o; simp [wrAt, ih]
theorem Fr.weakM {b : Nat} (h : Fr S w0 wp (b :: b :: M) L w) : Fr S w0 wp (b :: M) L w :=
  ⟨h.chg, h.stp.mono fun i _ e => by
    rcases List.mem_cons.1 e with e | e
    · subst e; exact List.mem_cons_self
    · exact e, h.loc, h.nodup, h.new⟩
theorem Fr.stL_ {b j : Nat} {T : TypeId} {K : World → Prop} : ∀ (vs : List Value) (cs : Array Value) (o i : Nat) {L : List Blk} {M : List Nat} {w : World}, Fr S w0 wp (b :: M) L w → L[j]? = some ⟨b, cs, T, true⟩ → vs.all oneC = true → o + i + vs.length ≤ cs.size →
    (∀ w', Fr S w0 wp (b :: M) (L.set j ⟨b, wrAt cs (o + i) vs, T, true⟩) w' → K w') → stCells ⟨b, o, none⟩ i vs K w
  | [], cs, o, i, L, M, w, h, hj, hv, hi, k => by
    refine k w ?_
    have : L.set j ⟨b, cs, T, true⟩ = L := by
      apply List.ext_getElem?
      intro n
      rw [List.getElem?_set]
      split
      · rename_i e; subst e
        rw [if_pos (List.getElem?_eq_some_iff.1 hj).1, hj]
      · rfl
    show Fr S w0 wp (b :: M) (L.set j ⟨b, cs, T, true⟩) w
    rw [this]; exact h
  | v :: vs, cs, o, i, L, M, w, h, hj, hv, hi, k => by
    have hv' : oneC v = true ∧ vs.all oneC = true := by simpa using hv
    simp only [List.length_cons] at hi
    show StC w (Addr.add ⟨b, o, none⟩ i) v fun w => stCells ⟨b, o, none⟩ (i + 1) vs K w
    rw [add_mk]
    refine h.st j (o + i) hj rfl rfl (Nat.ble_eq_true_of_le (by show o + i + 1 ≤ cs.size; omega)) hv'.1 fun w1 h1 => ?_
    refine Fr.stL_ (j := j) (T := T) vs (cs.setIfInBounds (o + i) v) o (i + 1) h1.weakM ?_ hv'.2 (by simp; omega) fun w2 h2 => k w2 ?_
    · rw [List.getElem?_set]; simp [(List.getElem?_eq_some_iff.1 hj).1]
    · rw [List.set_set] at h2; exact h2
theorem Fr.stL (h : Fr S w0 wp M L w) (j o : Nat) (vs : List Value) (L' : List Blk) {x : Blk} {a : Addr} {K : World → Prop} (hj : L[j]? = some x) (ha : a = ⟨x.b, o, none⟩) (hw : x.wr = true) (hv : vs.all oneC = true)
    (hi : Nat.ble (o + vs.length) x.cs.size = true) (hL : L' = L.set j ⟨x.b, wrAt x.cs o vs, x.T, true⟩) (k : ∀ w', Fr S w0 wp (x.b :: M) L' w' → K w') : stCells a 0 vs K w := by
  subst ha; subst hL
  obtain ⟨b, cs, T, wr⟩ := x
  simp only [] at hw; subst hw
  exact Fr.stL_ vs cs o 0 (M := M) ⟨h.chg, h.stp.mono fun i _ e => List.mem_cons_of_mem _ e, h.loc, h.nodup, h.new⟩ hj hv (Nat.le_of_ble_eq_true hi) k
end
end Go.Vc

/-! A part of the proof that two events of one line are one event: the calculus that follows known memory by computing, and its soundness. By an AI agent. -/

namespace Go.Vc
open Go
/-! The condition of a piece of code, with the blocks that are known followed by program: definitions. -/
/-- A cell: a value; a truth that is known; a pointer to place o of the i-th known block (its number is b; lit: o is a literal); a slice in it. -/
inductive Cel where
  | v (x : Value)
  | k (b : Bool)
  | p (i b : Nat) (lit : Bool) (o : Nat)
  | q (i b : Nat) (lit : Bool) (o l c : Nat)
def Cel.den : Cel → Value
  | .v x => x
  | .k b => .bool b
  | .p _ b _ o => .pointer (some ⟨b, o, none⟩)
  | .q _ b _ o l c => .slice (some ⟨b, o, none⟩) l c
def denCs : List Cel → List Value
  | [] => []
  | x :: l => x.den :: denCs l
inductive SV where
  | c (x : Cel)
  | a (l : List Cel)
def SV.den : SV → Value
  | .c x => x.den
  | .a l => .agg ⟨denCs l⟩
def denE : List SV → List Value
  | [] => []
  | s :: l => s.den :: denE l
/-- what is known of a block: its cells; its cells as one array; nothing more -/
inductive Cs where
  | l (cs : List Cel)
  | r (A : Array Value)
  | x
def Cs.arr : Cs → Option (Array Value)
  | .l cs => some ⟨denCs cs⟩
  | .r A => some A
  | .x => none
structure Bk where
  b : Nat
  cs : Cs
  T : TypeId
  wr : Bool
def LH : List Bk → List Blk
  | [] => []
  | ⟨b, c, T, w⟩ :: H => (match c.arr with | some A => ⟨b, A, T, w⟩ :: LH H | none => LH H)
/-- the state: slots; known blocks; the blocks written since the last world that was seen; that world; has anything happened since? -/
structure Sy where
  env : List SV
  H : List Bk
  M : List Nat
  wp : World
  dy : Bool

def nthS : List SV → Nat → SV
  | [], _ => .c (.v undef)
  | v :: _, 0 => v
  | _ :: vs, n + 1 => nthS vs n
def putS : List SV → Nat → SV → List SV
  | [], _, _ => []
  | _ :: vs, 0, x => x :: vs
  | v :: vs, n + 1, x => v :: putS vs n x
def putSD (env : List SV) : Option Nat → SV → List SV
  | none, _ => env
  | some d, x => putS env d x
/-- a value that is a literal, or that has been told true from false -/
def litV (v : Value) : SV := match v with | .bool b => .c (.k b) | v => .c (.v v)
/-- as litV, where v is known to be told true from false -/
def litIf (b : Bool) (v : Value) : SV := match b with | true => litV v | false => .c (.v v)
def ev3 (env : List SV) : Operand → SV
  | .tmp t => nthS env t
  | .const v => litV v
  | .global g => .c (.v (.pointer (some ⟨g, 0, none⟩)))
  | .func f => .c (.v (.func (.func f) #[] #[]))
def constO : Operand → Bool
  | .const _ => true
  | _ => false
def cvs : List Value → List Cel
  | [] => []
  | v :: l => .v v :: cvs l
def cellsOf : SV → Option (List Cel)
  | .a l => some l
  | .c (.v (.agg ⟨l⟩)) => some (cvs l)
  | _ => none
def nthC : List Cel → Nat → Option Cel
  | [], _ => none
  | v :: _, 0 => some v
  | _ :: vs, n + 1 => nthC vs n
def putC : List Cel → Nat → Cel → List Cel
  | [], _, _ => []
  | _ :: vs, 0, x => x :: vs
  | v :: vs, n + 1, x => v :: putC vs n x
def over : List Cel → List Cel → List Cel
  | l, [] => l
  | [], _ => []
  | _ :: l, x :: xs => x :: over l xs
def spl : List Cel → Nat → List Cel → List Cel
  | l, 0, xs => over l xs
  | [], _, _ => []
  | y :: l, n + 1, xs => y :: spl l n xs
def cutC : List Cel → Nat → Nat → List Cel
  | _, _, 0 => []
  | [], _, _ => []
  | x :: l, 0, n + 1 => x :: cutC l 0 n
  | _ :: l, o + 1, n + 1 => cutC l o (n + 1)
def lenC : List Cel → Nat
  | [] => 0
  | _ :: l => lenC l + 1
def nthH : List Bk → Nat → Option Bk
  | [], _ => none
  | v :: _, 0 => some v
  | _ :: vs, n + 1 => nthH vs n
def setH : List Bk → Nat → Cs → List Bk
  | [], _, _ => []
  | ⟨b, _, T, w⟩ :: H, 0, c => ⟨b, c, T, w⟩ :: H
  | x :: H, n + 1, c => x :: setH H n c
def lenH : List Bk → Nat
  | [] => 0
  | _ :: l => lenH l + 1

/-! ## normal forms, so that nothing is computed twice -/
def fC (x : Cel) (K : Cel → Prop) : Prop :=
  match x with
  | .v x => K (.v x)
  | .k b => K (.k b)
  | .p i b l o => K (.p i b l o)
  | .q i b l o n c => K (.q i b l o n c)
def fL : List Cel → (List Cel → Prop) → Prop
  | [], K => K []
  | x :: l, K => fC x fun x => fL l fun l => K (x :: l)
def fS (s : SV) (K : SV → Prop) : Prop :=
  match s with
  | .c x => fC x fun x => K (.c x)
  | .a l => fL l fun l => K (.a l)
def fE : List SV → (List SV → Prop) → Prop
  | [], K => K []
  | x :: l, K => fE l fun l => K (x :: l)
def fCs (c : Cs) (K : Cs → Prop) : Prop :=
  match c with
  | .l cs => fL cs fun cs => K (.l cs)
  | .r A => K (.r A)
  | .x => K .x
def fH : List Bk → (List Bk → Prop) → Prop
  | [], K => K []
  | ⟨b, c, T, w⟩ :: l, K => fCs c fun c => fH l fun l => K (⟨b, c, T, w⟩ :: l)

def nS (σ : Sy) (K : Sy → Prop) : Prop := match σ with | ⟨e, H, M, wp, dy⟩ => K ⟨e, H, M, wp, dy⟩
def Sy.withEnv (σ : Sy) (e : List SV) : Sy := match σ with | ⟨_, H, M, wp, dy⟩ => ⟨e, H, M, wp, dy⟩
def Sy.st (σ : Sy) (H : List Bk) (b : Nat) : Sy := match σ with | ⟨e, _, M, wp, _⟩ => ⟨e, H, b :: M, wp, true⟩
def Sy.nw (σ : Sy) (H : List Bk) : Sy := match σ with | ⟨e, _, M, wp, _⟩ => ⟨e, H, M, wp, true⟩
def Sy.seen (σ : Sy) (H : List Bk) (w : World) : Sy := match σ with | ⟨e, _, _, _, _⟩ => ⟨e, H, [], w, false⟩
def Sy.withH (σ : Sy) (H : List Bk) : Sy := match σ with | ⟨e, _, M, wp, dy⟩ => ⟨e, H, M, wp, dy⟩
section
variable (P : Program)
/-! ## operations that only compute, or read -/
def spl3 (isb : Bool) (x : Cel) (K : SV → Prop) : Prop :=
  match isb with
  | false => K (.c x)
  | true => match x with
    | .v (.bool b) => (b = true → K (.c (.k true))) ∧ (b = false → K (.c (.k false)))
    | x => K (.c x)
def isBT (t : TypeId) : Bool := match P.underlying t with | some .bool => true | _ => false
def ckT (t : TypeId) : Ck := (flat P 12 t).headD .any
/-- a known block is read at a literal place -/
def ldL (t : TypeId) (cs : List Cel) (o : Nat) (K : SV → Prop) : Prop :=
  match known P t, aggT P t with
  | true, false => (match nthC cs o with | some x => spl3 (isBT P t) x K | none => False)
  | true, true => (match Nat.ble (o + szOf P t) (lenC cs) with | true => K (.a (cutC cs o (szOf P t))) | false => False)
  | false, _ => False
def ldRC (A : Array Value) (o : Nat) : List Ck → (List Value → Prop) → Prop
  | [], K => K []
  | c :: cs, K => tel1 c fun v => A[o]? = some v ∧ ldRC A (o + 1) cs fun r => K (v :: r)
/-- a known block is read at a place that is no literal -/
def ldR (t : TypeId) (A : Array Value) (o : Nat) (K : SV → Prop) : Prop :=
  match known P t, aggT P t with
  | true, false => tel1 (ckT P t) fun v => A[o]? = some v ∧ spl3 (isBT P t) (.v v) K
  | true, true => (match Nat.beq (flat P 12 t).length (szOf P t) with | true => ldRC A o (flat P 12 t) fun vs => K (.c (.v (.agg ⟨vs⟩))) | false => False)
  | false, _ => False
def one3 (c : Ck) (x : Cel) (K : Prop) : Prop :=
  match x with
  | .v v => one1 c v K
  | _ => K
def ones3 : List Ck → List Cel → Prop → Prop
  | [], [], K => K
  | c :: cs, x :: xs, K => one3 c x (ones3 cs xs K)
  | _, _, _ => False
def fill3 (place : Nat → Option (TypeId × Nat)) (cells : List Cel) : List (Nat × SV) → (List Cel → Prop) → Prop
  | [], K => K cells
  | (i, s) :: rest, K =>
    match place i with
    | none => False
    | some (ft, off) =>
      match known P ft, aggT P ft with
      | true, true => (match cellsOf s with
        | some cs => (match Nat.beq (lenC cs) (szOf P ft) && Nat.ble (off + lenC cs) (lenC cells) with | true => fL (spl cells off cs) fun cells => fill3 place cells rest K | false => False)
        | none => False)
      | true, false => (match s with
        | .c y => (match Nat.beq (szOf P ft) 1 && Nat.ble (off + 1) (lenC cells) with | true => one3 (ckT P ft) y (fL (putC cells off y) fun cells => fill3 place cells rest K) | false => False)
        | .a _ => False)
      | false, _ => False
def litC (v : Value) : Cel := match v with | .bool b => .k b | v => .v v
def litCs : List Value → List Cel
  | [] => []
  | v :: l => litC v :: litCs l
def evps (env : List SV) : List (Nat × Operand) → List (Nat × SV)
  | [] => []
  | (i, o) :: r => (i, ev3 env o) :: evps env r
def build3 (env : List SV) (t : TypeId) (parts : Array (Nat × Operand)) (K : SV → Prop) : Prop :=
  match zeroOf P t, P.underlying t with
  | some z, some (.struct fs) =>
    (match fs.toList.all (fun f => known P f.type) with
     | true => fill3 P (fun i => (fs[i]?).map fun f => (f.type, f.offset)) (litCs z.cells.toList) (evps env parts.toList) fun cs => K (.a cs)
     | false => False)
  | some z, some (.array _ e) =>
    (match known P e with
     | true => fill3 P (fun i => some (e, i * szOf P e)) (litCs z.cells.toList) (evps env parts.toList) fun cs => K (.a cs)
     | false => False)
  | _, _ => False
def fieldC (s : TypeId) (cs : List Cel) (f : Nat) (K : SV → Prop) : Prop :=
  match P.underlying s with
  | some (.struct fs) => (match fs[f]? with
    | some fd => ldL P fd.type cs fd.offset K
    | none => False)
  | _ => False
/-- bounds of a slice of what is known -/
def loC (env : List SV) (y : Nat) : Option Operand → (Nat → Prop) → Prop
  | none, K => K 0
  | some o, K => match ev3 env o with
    | .c (.v (.int _ h)) => 0 ≤ h ∧ h ≤ (y : Int) ∧ K h.toNat
    | _ => False
def hiC (env : List SV) (len y : Nat) : Option Operand → (Nat → Prop) → Prop
  | none, K => K len
  | some o, K => match ev3 env o with
    | .c (.v (.int _ h)) => 0 ≤ h ∧ h ≤ (y : Int) ∧ K h.toNat
    | _ => False
def sliceAt0 (lo : Option Operand) (cap l o sz : Nat) : Nat := match lo with | none => o | some _ => if cap = l then o else o + l * sz
def sil3 (R : Addr → Value → Prop) (rd : Nat → Bool) (env : List SV) (H : List Bk) (o : Oper) (K : SV → Prop) : Prop :=
  match o.op with
  | .move x | .assign x => K (ev3 env x)
  | .pick c a b => (match ev3 env c with
    | .c (.k true) => K (ev3 env a)
    | .c (.k false) => K (ev3 env b)
    | _ => False)
  | .nilCheck x => (match ev3 env x with
    | .c (.p i b l a) => K (.c (.p i b l a))
    | _ => opS P R (denE env) o fun v => K (.c (.v v)))
  | .fieldAddr s x f => (match ev3 env x with
    | .c (.p i b l a) => (match P.underlying s with
      | some (.struct fs) => (match fs[f]? with
        | some fd => (match known P fd.type && !Nat.beq (szOf P fd.type) 0 with | true => K (.c (.p i b l (a + fd.offset))) | false => False)
        | none => False)
      | _ => False)
    | _ => opS P R (denE env) o fun v => K (.c (.v v)))
  | .field s x f => (match ev3 env x with
    | .a cs => fieldC P s cs f K
    | _ => opS P R (denE env) o fun v => K (litIf (boolRes P o) v))
  | .index t x i => (match ev3 env x, constO i, ev3 env i, P.underlying t with
    | .a cs, true, .c (.v (.int _ n)), some (.array l e) => (match n with
      | .ofNat n => (match Nat.blt n l && known P e with | true => ldL P e cs (n * szOf P e) K | false => False)
      | _ => False)
    | _, _, _, _ => opS P R (denE env) o fun v => K (litIf (boolRes P o) v))
  | .indexAddr t x i => (match ev3 env x, ev3 env i, P.underlying t with
    | .c (.q b n lit a l _), .c (.v (.int _ j)), some (.slice e) =>
      (match known P e with | true => 0 ≤ j ∧ j < l ∧ K (.c (.p b n (lit && constO i) (a + j.toNat * szOf P e))) | false => False)
    | .c (.p b n lit a), .c (.v (.int _ j)), some (.array l e) =>
      (match known P e with | true => 0 ≤ j ∧ j < l ∧ K (.c (.p b n (lit && constO i) (a + j.toNat * szOf P e))) | false => False)
    | _, _, _ => opS P R (denE env) o fun v => K (.c (.v v)))
  | .slice t x lo hi none => (match ev3 env x, P.underlying t with
    | .c (.q b n lit a l c), some (.slice e) =>
      (match known P e with | true => hiC env l c hi fun h => loC env h lo fun g => K (.c (.q b n (lit && lo.isNone) (sliceAt0 lo c g a (szOf P e)) (h - g) (c - g))) | false => False)
    | .c (.p b n lit a), some (.array l e) =>
      (match known P e with | true => hiC env l l hi fun h => loC env h lo fun g => K (.c (.q b n (lit && (lo.all constO)) (sliceAt0 lo l g a (szOf P e)) (h - g) (l - g))) | false => False)
    | _, _ => opS P R (denE env) o fun v => K (.c (.v v)))
  | .load t a => (match ev3 env a with
    | .c (.p i b lit o') => (match nthH H i, rd i with
      | some ⟨_, .l cs, _, _⟩, true => (match lit with
        | true => ldL P t cs o' K
        | false => ldR P t ⟨denCs cs⟩ o' K)
      | some ⟨_, .r A, _, _⟩, true => ldR P t A o' K
      | _, _ => opS P R (denE env) o fun v => K (litIf (boolRes P o) v))
    | _ => opS P R (denE env) o fun v => K (litIf (boolRes P o) v))
  | .build t parts => build3 P env t parts K
  | .binOp op t x y _ => (match nilTy P t y, ev3 env x, y, op with
    | true, .c (.p _ _ _ _), .const (.pointer none), .eql => K (.c (.k false))
    | true, .c (.p _ _ _ _), .const (.pointer none), .neq => K (.c (.k true))
    | true, .c (.q _ _ _ _ _ _), .const (.slice none _ _), .eql => K (.c (.k false))
    | true, .c (.q _ _ _ _ _ _), .const (.slice none _ _), .neq => K (.c (.k true))
    | _, _, _, _ => opS P R (denE env) o fun v => K (litV v))
  | .unOp _ _ _ => opS P R (denE env) o fun v => K (litV v)
  | .extract _ _ => opS P R (denE env) o fun v => K (litIf (isBT P o.type) v)
  | _ => opS P R (denE env) o fun v => K (litIf (boolRes P o) v)
/-- does the reader have to be asked for what a cell holds? -/
def asks (env : List SV) (H : List Bk) (o : Oper) : Bool :=
  match o.op with
  | .load _ a => (match ev3 env a with
    | .c (.p i _ _ _) => (match nthH H i with | some ⟨_, .x, _, _⟩ => true | some _ => false | none => true)
    | _ => true)
  | _ => false
def exT3 (okf : Ctx) (o : Oper) (s : SV) (K : SV → Prop) : Prop :=
  match okf.ext.contains (o.dst.getD 0) with
  | true => (match s with
    | .c (.v v) => tyB (kdOf P o.type) v fun v => K (litIf (isBT P o.type) v)
    | s => K s)
  | false => K s

/-! ## operations that change memory, or ask -/
variable (okf : Ctx) (S : Nat → Prop) (w0 : World) (nE : Nat)
/-- a world is seen -/
def vis (σ : Sy) (K : World → Sy → Prop) : Prop :=
  match σ.dy with
  | false => K σ.wp σ
  | true => ∀ w, Fr S w0 σ.wp σ.M (LH σ.H) w → nS (σ.seen σ.H w) (K w)
def new3 (σ : Sy) (T : TypeId) (cs : List Cel) (K : SV → Sy → Prop) (f : Nat → SV) : Prop :=
  fL cs fun cs => ∀ r, σ.wp.heap.size ≤ r → fH (σ.H ++ [⟨r, .l cs, T, true⟩]) fun H => nS (σ.nw H) (K (f r))
def rep (n : Nat) (l : List Ck) : List Ck := match n with | 0 => [] | n + 1 => l ++ rep n l
/-- known blocks whose cells another one may have changed -/
def hav3 : List Nat → List Bk → (List Bk → Prop) → Prop
  | [], H, K => K H
  | i :: is, H, K =>
    match nthH H i with
    | some ⟨_, .l cs, T, true⟩ =>
      (match Nat.beq ((lenC cs / (flat P 12 T).length) * (flat P 12 T).length) (lenC cs) with
       | true => tel (rep (lenC cs / (flat P 12 T).length) (flat P 12 T)) fun vs => hav3 is (setH H i (.l (cvs vs))) K
       | false => False)
    | some ⟨_, .r _, _, true⟩ => ∃ A, hav3 is (setH H i (.r A)) K
    | _ => False
def gen3 (hv : List Nat) (σ : Sy) (o : Oper) (K : SV → Sy → Prop) : Prop :=
  vis S w0 σ fun w σ1 => opI P okf (denE σ1.env) o (fun v w' => hav3 P hv σ1.H fun H' => Fs S w0 (LH H') w' ∧
    nS (σ1.seen H' w') (K (litIf (isBT P o.type) v))) w
def unl (lk : Nat → Bool) : List Nat → Bool
  | [] => true
  | i :: is => !lk i && unl lk is
def ns3 (lk : Nat → Bool) (hv : List Nat) (σ : Sy) (o : Oper) (K : SV → Sy → Prop) : Prop :=
  match o.op with
  | .store t a x => (match ev3 σ.env a with
    | .c (.p i b lit off) => (match nthH σ.H i, lk i with
      | some ⟨_, .l cs, _, true⟩, false => (match lit, known P t, aggT P t with
        | true, true, false => (match ev3 σ.env x with
          | .c y => (match Nat.beq (szOf P t) 1 && Nat.blt off (lenC cs) with
            | true => one3 (ckT P t) y (fL (putC cs off y) fun cs => fH (setH σ.H i (.l cs)) fun H => nS (σ.st H b) (K (.c (.v undef))))
            | false => False)
          | .a _ => False)
        | true, true, true => (match cellsOf (ev3 σ.env x) with
          | some ys => (match Nat.beq (lenC ys) (szOf P t) && Nat.ble (off + lenC ys) (lenC cs) with
            | true => ones3 (flat P 12 t) ys (fL (spl cs off ys) fun cs => fH (setH σ.H i (.l cs)) fun H => nS (σ.st H b) (K (.c (.v undef))))
            | false => False)
          | none => False)
        | false, true, false => (match ev3 σ.env x with
          | .c y => (match Nat.beq (szOf P t) 1 with
            | true => off < lenC cs ∧ one3 (ckT P t) y (fH (setH σ.H i (.r ((⟨denCs cs⟩ : Array Value).setIfInBounds off y.den))) fun H => nS (σ.st H b) (K (.c (.v undef))))
            | false => False)
          | .a _ => False)
        | _, _, _ => False)
      | some ⟨_, .r A, _, true⟩, false => (match known P t, aggT P t with
        | true, false => (match ev3 σ.env x with
          | .c y => (match Nat.beq (szOf P t) 1 with
            | true => off < A.size ∧ one3 (ckT P t) y (fH (setH σ.H i (.r (A.setIfInBounds off y.den))) fun H => nS (σ.st H b) (K (.c (.v undef))))
            | false => False)
          | .a _ => False)
        | _, _ => False)
      | some ⟨_, .x, _, _⟩, _ => gen3 P okf S w0 [] σ o K
      | _, _ => False)
    | _ => gen3 P okf S w0 [] σ o K)
  | .alloc t => (match zeroOf P t with
    | some z => new3 σ t (litCs z.cells.toList) K fun r => .c (.p (lenH σ.H) r true 0)
    | none => False)
  | .box t x => (match aggT P t with
    | true => (match cellsOf (ev3 σ.env x) with
      | some cs => new3 σ t cs K fun r => .c (.p (lenH σ.H) r true 0)
      | none => False)
    | false => (match ev3 σ.env x with
      | .c y => one3 (ckT P t) y (new3 σ t [y] K fun r => .c (.p (lenH σ.H) r true 0))
      | .a _ => False))
  | .buildSlice t len parts => (match P.underlying t with
    | some (.slice e) => (match known P e, zeroOf P e with
      | true, some z => (match Nat.ble (len * szOf P e) 16777216 && !Nat.beq (len * szOf P e) 0 with
        | true => fill3 P (fun i => some (e, i * szOf P e)) (litCs ((Array.range (len * szOf P e)).map (z.cells[· % z.cells.size]!)).toList) (evps σ.env parts.toList) fun cs =>
            new3 σ e cs K fun r => .c (.q (lenH σ.H) r true 0 len len)
        | false => (match Nat.beq (len * szOf P e) 0 && Nat.beq parts.size 0 with
          | true => new3 σ e [] K fun r => .c (.q (lenH σ.H) r true 0 len len)
          | false => False))
      | _, _ => False)
    | _ => False)
  | _ => (match unl lk hv with | true => gen3 P okf S w0 hv σ o K | false => False)

def refC : Cel → List Nat → List Nat
  | .p i _ _ _, l => i :: l
  | .q i _ _ _ _ _, l => i :: l
  | _, l => l
def refCs : List Cel → List Nat → List Nat
  | [], l => l
  | x :: xs, l => refC x (refCs xs l)
def refS : SV → List Nat → List Nat
  | .c x, l => refC x l
  | .a xs, l => refCs xs l
def wrIn (H : List Bk) (i : Nat) : Bool := match nthH H i with | some ⟨_, .l _, _, true⟩ => true | some ⟨_, .r _, _, true⟩ => true | _ => false
/-- the blocks that a call is handed, and may change (told by the mark 999) -/
def hvOf (l : List Nat) (env : List SV) (H : List Bk) (o : Oper) : List Nat :=
  match l with
  | [999] => (match o.op with
    | .call c => ((c.args.toList.foldr (fun x l => refS (ev3 env x) l) []).filter (wrIn H)).eraseDups
    | _ => [])
  | l => l
/-! ## regions -/
/-- one operation, in its turn -/
def one3o (ops : Array Oper) (lk : Nat → Bool) (hvs : List (Nat × List Nat)) (i : Nat) (σ : Sy) (K : Sy → Prop) : Prop :=
  match ops[i]? with
  | none => K σ
  | some o => match Region.wanted o (yielded ops ⟨denE σ.env⟩) with
    | true => (match silent P o.op with
      | true => (match asks σ.env σ.H o with
        | true => vis S w0 σ fun w σ1 => sil3 P (fun a v => w.cell? a = some v) (fun _ => true) σ1.env σ1.H o fun s => exT3 P okf o s fun s => fS s fun s => fE (putSD σ1.env o.dst s) fun e => nS (σ1.withEnv e) K
        | false => sil3 P (fun _ _ => False) (fun _ => true) σ.env σ.H o fun s => exT3 P okf o s fun s => fS s fun s => fE (putSD σ.env o.dst s) fun e => nS (σ.withEnv e) K)
      | false => ns3 P okf S w0 lk (hvOf ((hvs.lookup i).getD []) σ.env σ.H o) σ o fun s σ1 => fS s fun s => fE (putSD σ1.env o.dst s) fun e => nS (σ1.withEnv e) K)
    | false => fE (putSD σ.env o.dst (.c (.v undef))) fun e => nS (σ.withEnv e) K
def ops3 (ops : Array Oper) (lk : Nat → Bool) (hvs : List (Nat × List Nat)) : List Nat → Sy → (Sy → Prop) → Prop
  | [], σ, K => K σ
  | i :: rest, σ, K => one3o P okf S w0 ops lk hvs i σ fun σ => ops3 ops lk hvs rest σ K
def silo3 (ops : Array Oper) (Su : World → Prop) (rd : Nat → Bool) (i : Nat) (σ : Sy) (K : Sy → Prop) : Prop :=
  match ops[i]? with
  | none => False
  | some o => match Region.wanted o (yielded ops ⟨denE σ.env⟩) with
    | true => sil3 P (fun a v => ∀ w, Su w → w.cell? a = some v) rd σ.env σ.H o fun s => exT3 P okf o s fun s => fS s fun s => fE (putSD σ.env o.dst s) fun e => nS (σ.withEnv e) K
    | false => fE (putSD σ.env o.dst (.c (.v undef))) fun e => nS (σ.withEnv e) K
def keep3 (user : Bool) (Su : World → Prop) (σ : Sy) (K : Sy → Prop) : Prop :=
  match user with
  | true => vis S w0 σ fun w σ1 => Su w ∧ K σ1
  | false => K σ
/-- is it a load? -/
def loadAt (ops : Array Oper) (i : Nat) : Bool := match ops[i]? with
  | some o => (match o.op with | .load .. => true | _ => false)
  | none => false
/-- loads are to be done each in its turn (told by the mark 998) -/
def turns (hvs : List (Nat × List Nat)) : Bool := hvs.any fun x => Nat.beq x.1 998
def any3 (ops : Array Oper) (user : Bool) (Su : World → Prop) (rd lk : Nat → Bool) (hvs : List (Nat × List Nat)) : Nat → Array Bool → Sy → (Sy → Prop) → Prop
  | 0, listed, σ, K => (match Region.ready .any ops listed with | [] => K σ | _ => False)
  | n + 1, listed, σ, K =>
    match Region.ready .any ops listed with
    | [] => K σ
    | r :: rs => match (r :: rs).find? (fun i => silAt P ops (denE σ.env) listed i && !(turns hvs && loadAt ops i)) with
      | some i => silo3 P okf ops Su rd i σ fun σ => any3 ops user Su rd lk hvs n (listed.setIfInBounds i true) σ K
      | none => allR (r :: rs) fun i => one3o P okf S w0 ops lk hvs i σ fun σ => match isLast ops i with
        | true => any3 ops user Su rd lk hvs n (listed.setIfInBounds i true) σ K
        | false => keep3 S w0 user Su σ fun σ => any3 ops user Su rd lk hvs n (listed.setIfInBounds i true) σ K

/-! ## code -/
/-- what is told of a region: the slots that are still spoken of (if what isn't is to be forgotten); is the reader asked for what stays?; the blocks that it changes; which blocks an operation's callee changes -/
structure RA where
  keep : Option (List Nat)
  user : Bool
  drop : List Nat
  hv : List (Nat × List Nat)
inductive An where
  | z
  | s (a b : An)
  | cut (live : List (Nat × Sk)) (gs : List Nat) (a b : An)
  | c (a b : An)
  | l (keep keep2 : Option (List Nat)) (live : List (Nat × Sk)) (gs : List Nat) (b : An)
  | b (a : An)
  | r (x : RA)
def An.fst : An → An
  | .s x _ | .cut _ _ x _ | .c x _ | .b x | .l _ _ _ _ x => x
  | _ => .z
def An.snd : An → An
  | .s _ x | .cut _ _ _ x | .c _ x => x
  | _ => .z
def An.cuts : An → Option (List (Nat × Sk) × List Nat)
  | .cut x y _ _ => some (x, y)
  | _ => none
def An.live : An → List (Nat × Sk) × List Nat
  | .l _ _ x y _ => (x, y)
  | _ => ([], [])
def An.kp : An → Option (List Nat)
  | .l x _ _ _ _ => x
  | _ => none
def An.kp2 : An → Option (List Nat)
  | .l _ x _ _ _ => x
  | _ => none
def An.ra : An → RA
  | .r x => x
  | _ => ⟨none, true, [], []⟩
def refsAt (env : List SV) : List Nat → List Nat
  | [] => []
  | i :: is => refS (nthS env i) (refsAt env is)
def refsH (H : List Bk) : List Nat → List Nat
  | [] => []
  | i :: is => match nthH H i with
    | some ⟨_, .l cs, _, _⟩ => i :: refCs cs (refsH H is)
    | _ => i :: refsH H is
def forget1 (keep : List Nat) (nE : Nat) (lk : Nat → Bool) : Nat → List Bk → List Bk
  | _, [] => []
  | i, ⟨b, c, T, w⟩ :: H => (match keep.contains i || Nat.blt i nE || lk i with | true => ⟨b, c, T, w⟩ | false => ⟨b, .x, T, w⟩) :: forget1 keep nE lk (i + 1) H
def forget (keep : Option (List Nat)) (nE : Nat) (lk : Nat → Bool) (σ : Sy) (K : Sy → Prop) : Prop :=
  match keep with
  | none => K σ
  | some ks => fH (forget1 (refsH σ.H (refsH σ.H (refsH σ.H (refsAt σ.env ks)))) nE lk 0 σ.H) fun H => nS (σ.withH H) K
def blkV (H : List Bk) (i : Nat) : Value := match nthH H i with
  | some ⟨_, c, _, _⟩ => (match c.arr with | some A => .agg A | none => undef)
  | none => undef
def csOf (k : Sk) (v : Value) : Cs := match k with
  | .a _ => (match v with | .agg ⟨l⟩ => .l (cvs l) | _ => .x)
  | .c _ => .r v.cells
/-- none of these blocks has been forgotten -/
def gsLive (H : List Bk) : List (Nat × Sk) → Bool
  | [] => true
  | (i, _) :: gs => (match nthH H i with | some ⟨_, .l _, _, _⟩ => true | some ⟨_, .r _, _, _⟩ => true | _ => false) && gsLive H gs
def lvOk (m : List Nat) : List (Nat × Sk) → Bool
  | [] => true
  | (i, _) :: l => m.contains i && lvOk m l
def setHs (H : List Bk) : List (Nat × Sk) → List Value → List Bk
  | [], _ => H
  | (i, k) :: gs, vs => setHs (setH H i (csOf k (vs.headD undef))) gs vs.tail
def svOf (k : Sk) (v : Value) : SV := match k with | .c .bool => litV v | _ => .c (.v v)
def setAllS (env : List SV) : List (Nat × Sk) → List Value → List SV
  | [], _ => env
  | (i, k) :: is, vs => setAllS (putS env i (svOf k (vs.headD undef))) is vs.tail
def resetS (env : List SV) : List Nat → (Nat → Value) → List SV
  | [], _ => env
  | i :: is, D => resetS (putS env i (.c (.v (D i)))) is D
def gKinds (l g : List (Nat × Sk)) : List Sk := l.map (·.2) ++ g.map (·.2)
def gVals (σ : Sy) (l g : List (Nat × Sk)) : List Value := l.map (fun x => (nthS σ.env x.1).den) ++ g.map fun x => blkV σ.H x.1
def gsOk (H : List Bk) (lk : Nat → Bool) : List (Nat × Sk) → Bool
  | [] => true
  | (i, k) :: gs => !lk i && (match nthH H i with
    | some ⟨_, .l _, _, true⟩ => true
    | some ⟨_, .r _, _, true⟩ => (match k with | .c .any => true | _ => false)
    | _ => false) && gsOk H lk gs
/-- the blocks that slots point to, and their cells' kinds -/
def gsOf (env : List SV) (H : List Bk) : List Nat → List Nat → List (Nat × Sk)
  | [], _ => []
  | s :: ss, seen => match (match nthS env (s % 1000000) with | .c (.p i _ _ _) => some i | .c (.q i _ _ _ _ _) => some i | _ => none) with
    | some i => (match seen.contains i, nthH H i, Nat.ble 1000000 s with
      | false, some ⟨_, .l cs, T, _⟩, false => (i, .a (rep (lenC cs / (flat P 12 T).length) (flat P 12 T))) :: gsOf env H ss (i :: seen)
      | false, some ⟨_, .l _, _, _⟩, true => (i, .c .any) :: gsOf env H ss (i :: seen)
      | false, some ⟨_, .r _, _, _⟩, _ => (i, .c .any) :: gsOf env H ss (i :: seen)
      | _, _, _ => gsOf env H ss seen)
    | none => gsOf env H ss seen
def fKs : List Ck → (List Ck → Prop) → Prop
  | [], K => K []
  | .int k :: l, K => fKs l fun l => K (.int k :: l)
  | .bool :: l, K => fKs l fun l => K (.bool :: l)
  | .str :: l, K => fKs l fun l => K (.str :: l)
  | .ptr :: l, K => fKs l fun l => K (.ptr :: l)
  | .sl :: l, K => fKs l fun l => K (.sl :: l)
  | .mp :: l, K => fKs l fun l => K (.mp :: l)
  | .any :: l, K => fKs l fun l => K (.any :: l)
def fG : List (Nat × Sk) → (List (Nat × Sk) → Prop) → Prop
  | [], K => K []
  | (i, .c k) :: l, K => fG l fun l => K ((i, .c k) :: l)
  | (i, .a ks) :: l, K => fKs ks fun ks => fG l fun l => K ((i, .a ks) :: l)
def dropV (l : List (Nat × Sk)) (vs : List Value) : List Value := vs.drop l.length
/-- the blocks that are there and aren't told of change -/
def lock (H : List Bk) (g : List (Nat × Sk)) (lk : Nat → Bool) (i : Nat) : Bool := lk i || (Nat.blt i (lenH H) && !(g.map (·.1)).contains i)
/-- the blocks that slots point to -/
def slotsIx (env : List SV) : List Nat → List Nat
  | [] => []
  | s :: ss => refS (nthS env s) (slotsIx env ss)
def lockR (H : List Bk) (drop : List Nat) (i : Nat) : Bool := Nat.blt i (lenH H) && !drop.contains i
/-- a function's results -/
def resK (H : List Bk) (env : List SV) : List ResultVar → (List Value → Prop) → Prop
  | [], K => K []
  | .tmp t :: rs, K => resK H env rs fun vs => K ((nthS env t).den :: vs)
  | .cell a t :: rs, K => (match nthS env a with
    | .c (.p i _ lit o) => (match nthH H i with
      | some ⟨_, .l cs, _, _⟩ => (match lit with
        | true => ldL P t cs o fun s => resK H env rs fun vs => K (s.den :: vs)
        | false => ldR P t ⟨denCs cs⟩ o fun s => resK H env rs fun vs => K (s.den :: vs))
      | some ⟨_, .r A, _, _⟩ => ldR P t A o fun s => resK H env rs fun vs => K (s.den :: vs)
      | _ => False)
    | _ => False)
def oneV : List Value → Value
  | [v] => v
  | vs => .tuple ⟨vs⟩
def retK3 (fn : Func) (K : Value → World → Prop) : Exit → Sy → Prop
  | .normal, σ => resK P σ.H σ.env fn.results.toList fun vs => forget (some []) nE (fun _ => false) σ fun σ => vis S w0 σ fun w _ => K (oneV vs) w
  | .ret, σ => resK P σ.H σ.env fn.results.toList fun vs => forget (some []) nE (fun _ => false) σ fun σ => vis S w0 σ fun w _ => K (oneV vs) w
  | _, _ => False
def seqK3 (N : Sy → Prop) (K : Exit → Sy → Prop) : Exit → Sy → Prop
  | .normal, σ => N σ
  | e, σ => K e σ
def blkK3 (id : Nat) (K : Exit → Sy → Prop) : Exit → Sy → Prop
  | .exit i, σ => (if i = id then K .normal σ else K (.exit i) σ)
  | e, σ => K e σ
def vc3 : Code → An → (Nat → Bool) → Sy → (Exit → Sy → Prop) → Prop
  | .skip, _, _, σ, K => K .normal σ
  | .label _, _, _, σ, K => K .normal σ
  | .exit id, _, _, σ, K => K (.exit id) σ
  | .ret, _, _, σ, K => K .ret σ
  | .region _ ops d, an, lk, σ, K =>
    forget an.ra.keep nE lk σ fun σ =>
    (match d with
     | false => ops3 P okf S w0 ops lk an.ra.hv (List.range ops.size) σ (K .normal)
     | true => (match drawOk P ops with
       | true => (match an.ra.user with
         | false => any3 P okf S w0 ops false (fun _ => True) (lockR σ.H (slotsIx σ.env an.ra.drop)) (fun i => lk i || lockR σ.H (slotsIx σ.env an.ra.drop) i) an.ra.hv ops.size (Array.replicate ops.size false) (σ.nw σ.H) (K .normal)
         | true => vis S w0 (σ.nw σ.H) fun w σ => ∃ Su : World → Prop, Su w ∧
             any3 P okf S w0 ops true Su (lockR σ.H (slotsIx σ.env an.ra.drop)) (fun i => lk i || lockR σ.H (slotsIx σ.env an.ra.drop) i) an.ra.hv ops.size (Array.replicate ops.size false) σ (K .normal))
       | false => False))
  | .seq a b, an, lk, σ, K =>
    (match an.cuts with
     | none => vc3 a an.fst lk σ (seqK3 (fun σ => vc3 b an.snd lk σ K) K)
     | some (live, gl) => fG (gsOf P σ.env σ.H gl []) fun gs =>
       (match gsOk σ.H lk gs && lvOk (writes a) live with
        | true => ∃ J : CurT (gKinds live gs) (World → Prop),
           vc3 a an.fst (lock σ.H gs lk) σ (seqK3 (fun σ1 => match gsLive σ1.H gs with | true => vis S w0 σ1 fun w σ1 => atT (gKinds live gs) J (gVals σ1 live gs) fun p => p w | false => False) K) ∧
           allT (gKinds live gs) J fun vals p => ∀ (D : Nat → Value) (w : World), p w → Fs S w0 (LH (setHs σ.H gs (dropV live vals))) w →
             fE (setAllS (resetS σ.env (writes a) D) live vals) fun e => fH (setHs σ.H gs (dropV live vals)) fun H => vc3 b an.snd lk ⟨e, H, [], w, false⟩ K
        | false => False))
  | .cond c a b, an, lk, σ, K =>
    (match ev3 σ.env c with
     | .c (.k true) => vc3 a an.fst lk σ K
     | .c (.k false) => vc3 b an.snd lk σ K
     | .c (.v (.bool true)) => vc3 a an.fst lk σ K
     | .c (.v (.bool false)) => vc3 b an.snd lk σ K
     | _ => False)
  | .block id a, an, lk, σ, K => vc3 a an.fst lk σ (blkK3 id K)
  | .scope a, an, lk, σ, K => vc3 a an.fst lk σ (fun e σ => match e with | .goto _ => False | e => K e σ)
  | .loop a, an, lk, σ, K =>
    forget an.kp nE lk σ fun σ => vis S w0 σ fun w σ => forget an.kp2 nE lk σ fun σ =>
    fG (gsOf P σ.env σ.H an.live.2 []) fun gs =>
    (match gsOk σ.H lk gs && lvOk (writes a) an.live.1 with
     | true => ∃ I : CurT (gKinds an.live.1 gs) (Nat → World → Prop),
        (∃ m, atT (gKinds an.live.1 gs) I (gVals σ an.live.1 gs) fun p => p m w) ∧
        allT (gKinds an.live.1 gs) I fun vals p => ∀ (D : Nat → Value) (m : Nat) (w : World), p m w → Fs S w0 (LH (setHs σ.H gs (dropV an.live.1 vals))) w →
          fE (setAllS (resetS σ.env (writes a) D) an.live.1 vals) fun e => fH (setHs σ.H gs (dropV an.live.1 vals)) fun H =>
          vc3 a an.fst (lock σ.H gs lk) ⟨e, H, [], w, false⟩
            (seqK3 (fun σ1 => match gsLive σ1.H gs with | true => vis S w0 σ1 fun w1 σ1 => ∃ m', m' < m ∧ atT (gKinds an.live.1 gs) I (gVals σ1 an.live.1 gs) fun p => p m' w1 | false => False) K)
     | false => False)
  | _, _, _, _, _ => False
end
end Go.Vc
