/-
  A part of the proof that two events of one line are one event: the calculus that follows known memory by computing, and its soundness. By an AI agent.
-/
import Derived.Test.YtfmmpnaljkdigaaGreatDoorVc2
set_option linter.unusedVariables false
set_option linter.unusedSimpArgs false
namespace Go.Vc
open Go
section
variable {P : Program} {R : Addr → Value → Prop} {S : World → Prop}

theorem splitP_elim {p : Prop} [Decidable p] {K : Value → Prop} (h : splitP p K) : K (.bool (decide p)) := by
  by_cases hp : p
  · simpa [hp] using h.1 hp
  · simpa [hp] using h.2 hp
theorem splitN_elim {p : Prop} [Decidable p] {K : Value → Prop} (h : splitN p K) : K (.bool (!decide p)) := by
  by_cases hp : p
  · simpa [hp] using h.1 hp
  · simpa [hp] using h.2 hp
theorem int_beq (a b : Int) : (a == b) = decide (a = b) := by by_cases h : a = b <;> simp [h]
theorem ev_const (env : List Value) (c : Value) : ev env (.const c) = c := rfl
theorem cmpI_sound {op : BinOp} {a b : Int} {K : Value → Prop} (h : cmpI op a b K) : ∃ v, K v ∧ Op.intCmp op a b = pure v := by
  cases op <;> simp only [cmpI] at h <;> try exact h.elim
  · exact ⟨_, splitP_elim h, by simp only [Op.intCmp, int_beq]⟩
  · exact ⟨_, splitN_elim h, by simp only [Op.intCmp, bne, int_beq]⟩
  all_goals exact ⟨_, splitP_elim h, rfl⟩
theorem strCmp_sound {op : BinOp} {a b : ByteArray} {K : Value → Prop} (h : strCmp op a b K) : ∃ v, K v ∧ Op.stringOp op a b = pure v := by
  cases op <;> simp only [strCmp] at h <;> try exact h.elim
  · refine ⟨_, h.2, ?_⟩
    have h9 : ¬ ((a.size + b.size : Nat) : Int) > IntKind.i64.max := by
      have : IntKind.i64.max = 9223372036854775807 := by decide
      omega
    simp only [Op.stringOp]; rw [if_neg h9]
  · exact ⟨_, splitP_elim h, by simp [Op.stringOp, bsEq]⟩
  · exact ⟨_, splitN_elim h, by simp [Op.stringOp, bsEq]⟩
  · exact ⟨_, splitP_elim h, by simp [Op.stringOp]⟩
theorem gen_sound (hR : ∀ a v, R a v → ∀ w, S w → w.cell? a = some v) {env : List Value} {o : Oper} {K : Value → Prop} (h : gen P R env o K) : ∃ v, K v ∧ ∀ w, S w → (execOp (ev env) o).run P w = .ok (.value v) w := by
  obtain ⟨v, hk, hr⟩ := ss_sound hR _ h
  refine ⟨v, hk, fun w hw => ?_⟩
  have := hr w hw
  rw [Sem.run_bind] at this
  cases hx : (execOp (ev env) o).run P w with
  | halt x w' => rw [hx] at this; simp at this
  | ok n w' =>
    rw [hx] at this
    cases n <;> simp [asVal] at this
    obtain ⟨rfl, rfl⟩ := this
    rfl
theorem known_ex {t : TypeId} (h : known P t = true) : ∃ i, P.info? t = some i ∧ szOf P t = i.size := by
  unfold known at h
  cases hi : P.info? t with
  | none => simp [hi] at h
  | some i => exact ⟨i, rfl, by simp [szOf, hi]⟩
theorem known_un {t : TypeId} (h : known P t = true) : ∃ d, P.underlying t = some d := by
  unfold known at h
  cases hi : P.underlying t with
  | none => simp [hi] at h
  | some i => exact ⟨i, rfl⟩
theorem run_sizeOf {t : TypeId} (h : known P t = true) (w : World) : (sizeOf t).run P w = .ok (szOf P t) w := by
  obtain ⟨i, hi, hs⟩ := known_ex h
  simp [sizeOf, typeInfo, hi, hs]
theorem nilTest_true {P : Program} {t : TypeId} {y : Operand} (h : nilTy P t y = true) : ∃ c, y = .const c := by
  cases y <;> simp [nilTy] at h
  exact ⟨_, rfl⟩
theorem eq_if {t : TypeId} {x y : Value} {ms : Array (String × TypeId)} (hu : P.underlying t = some (.interface ms)) (w : World) (b : Bool)
    (h : (x = .nilIface ∧ y = .nilIface ∧ b = true) ∨ (∃ u v, x = .iface u v ∧ y = .nilIface ∧ b = false)) : (Op.equal t x y).run P w = .ok b w := by
  show (Op.equalIn (9999 + 1) t x y).run P w = _
  rw [Op.equalIn]
  rcases h with ⟨rfl, rfl, rfl⟩ | ⟨u, v, rfl, rfl, rfl⟩ <;> simp [run_underlying hu]
theorem eq_fn {t : TypeId} {x y : Value} {a b' : Array TypeId} {c : Bool} (hu : P.underlying t = some (.func a b' c)) (w : World) (b : Bool)
    (h : (x = .nilFunc ∧ y = .nilFunc ∧ b = true) ∨ (∃ f u v, x = .func f u v ∧ y = .nilFunc ∧ b = false)) : (Op.equal t x y).run P w = .ok b w := by
  show (Op.equalIn (9999 + 1) t x y).run P w = _
  rw [Op.equalIn]
  rcases h with ⟨rfl, rfl, rfl⟩ | ⟨f, u, v, rfl, rfl, rfl⟩ <;> simp [run_underlying hu]
theorem eq_ptr {t e : TypeId} (hu : P.underlying t = some (.pointer e)) (w : World) (p : Option Addr) : (Op.equal t (.pointer p) (.pointer none)).run P w = .ok p.isNone w := by
  show (Op.equalIn (9999 + 1) t _ _).run P w = _
  rw [Op.equalIn]
  cases p <;> simp [run_underlying hu]
theorem run_sizeOf0 {t : TypeId} (h : known P t = true) (w : World) : (sizeOf t).run P w = .ok (szOf P t) w := by
  unfold known at h
  cases hi : P.info? t with
  | none => simp [hi] at h
  | some i => simp [sizeOf, typeInfo, hi, szOf]
theorem eq_ptr2 {t e : TypeId} (hu : P.underlying t = some (.pointer e)) (hk : known P e = true) (hs : szOf P e ≠ 0) (w : World) {a b : Addr} (hab : a.block = b.block) :
    (Op.equal t (.pointer (some a)) (.pointer (some b))).run P w = .ok (decide (a = b)) w := by
  show (Op.equalIn (9999 + 1) t _ _).run P w = _
  rw [Op.equalIn]
  have hb : (a == b) = decide (a = b) := by by_cases h : a = b <;> simp [h]
  simp [run_underlying hu, run_sizeOf0 hk, hs, sameAddr, hab, hb]
theorem eq_sl {t e : TypeId} (hu : P.underlying t = some (.slice e)) (w : World) (p : Option Addr) (l c l' c' : Nat) : (Op.equal t (.slice p l c) (.slice none l' c')).run P w = .ok p.isNone w := by
  show (Op.equalIn (9999 + 1) t _ _).run P w = _
  rw [Op.equalIn]
  cases p <;> simp [run_underlying hu]
theorem eq_mp {t e f : TypeId} (hu : P.underlying t = some (.map e f)) (w : World) (p : Option Nat) : (Op.equal t (.map p) (.map none)).run P w = .ok p.isNone w := by
  show (Op.equalIn (9999 + 1) t _ _).run P w = _
  rw [Op.equalIn]
  cases p <;> simp [run_underlying hu]
/-- '== nil' -/
theorem nilTest_sound {env : List Value} {t : TypeId} {x : Value} {y : Operand} {A B : Prop} (hn : nilTy P t y = true) (h : nilTest x (ev env y) A B) :
    ∃ b, (if b then A else B) ∧ ∀ w, (Op.equal t x (ev env y)).run P w = .ok b w := by
  unfold nilTy at hn
  split at hn <;> (try (simp at hn; done)) <;> split at hn <;> (try (simp at hn; done)) <;> rename_i hu <;> simp only [ev_const, nilTest] at h
  · obtain ⟨h1, h2, h3⟩ := h
    rcases h3 with hx | ⟨t', v, hx⟩
    · exact ⟨true, by simpa using h1 hx, fun w => eq_if hu w _ (.inl ⟨hx, rfl, rfl⟩)⟩
    · exact ⟨false, by simpa using h2 _ _ hx, fun w => eq_if hu w _ (.inr ⟨_, _, hx, rfl, rfl⟩)⟩
  · obtain ⟨h1, h2, h3⟩ := h
    rcases h3 with hx | ⟨t', a, b, hx⟩
    · exact ⟨true, by simpa using h1 hx, fun w => eq_fn hu w _ (.inl ⟨hx, rfl, rfl⟩)⟩
    · exact ⟨false, by simpa using h2 _ _ _ hx, fun w => eq_fn hu w _ (.inr ⟨_, _, _, hx, rfl, rfl⟩)⟩
  · cases x <;> simp only at h <;> try exact h.elim
    rename_i p
    refine ⟨p.isNone, ?_, fun w => eq_ptr hu w p⟩
    cases p with
    | none => simpa using h.1 rfl
    | some a => simpa using h.2 _ rfl
  · cases x <;> simp only at h <;> try exact h.elim
    rename_i p _ _
    refine ⟨p.isNone, ?_, fun w => eq_sl hu w p _ _ _ _⟩
    cases p with
    | none => simpa using h.1 rfl
    | some a => simpa using h.2 _ rfl
  · cases x <;> simp only at h <;> try exact h.elim
    rename_i p
    refine ⟨p.isNone, ?_, fun w => eq_mp hu w p⟩
    cases p with
    | none => simpa using h.1 rfl
    | some a => simpa using h.2 _ rfl
theorem eqGuard_const {op : BinOp} {t : TypeId} {x : Operand} {a c : Value} (hn : nilTy P t (.const c) = true) (w : World) :
    (eqGuard op t x (.const c) a c).run P w = .ok () w := by
  cases c <;> simp [nilTy] at hn <;> cases op <;> simp [eqGuard] <;> cases a <;> simp
theorem eqGuard_int {op : BinOp} {t : TypeId} {x y : Operand} {k k' : IntKind} {a b : Int} (w : World) :
    (eqGuard op t x y (.int k a) (.int k' b)).run P w = .ok () w := by
  cases op <;> simp [eqGuard]
theorem eqGuard_str {op : BinOp} {t : TypeId} {x y : Operand} {a b : ByteArray} (w : World) :
    (eqGuard op t x y (.string a) (.string b)).run P w = .ok () w := by
  cases op <;> simp [eqGuard]
theorem eqFields_plain (w : World) : ∀ (fs : List Field) (i : Nat) (xs ys : List Value) (px py : List Value), px.length = i → py.length = i → plainFs P fs i = true →
    eqOk xs ys = true → xs.length = fs.length → ∃ b, (Op.eqFields (9998 + 1) ⟨px ++ xs⟩ ⟨py ++ ys⟩ fs).run P w = .ok b w ∧ (b = true ↔ eqP xs ys) := by
  intro fs
  induction fs with
  | nil =>
    intro i xs ys px py hx hy hp ho hl
    have : xs = [] := by simpa using hl
    subst this
    exact ⟨true, by simp [Op.eqFields], by simp [eqP]⟩
  | cons f fs ih =>
    intro i xs ys px py hx hy hp ho hl
    simp only [plainFs, Bool.and_eq_true, beq_iff_eq, bne_iff_ne, ne_eq] at hp
    obtain ⟨⟨⟨⟨h1, h2⟩, h3⟩, h4⟩, h5⟩ := hp
    cases xs with
    | nil => simp at hl
    | cons x xs =>
      cases ys with
      | nil => cases x <;> simp [eqOk] at ho
      | cons y ys =>
        have hag : (isAgg f.type).run P w = .ok false w := by
          unfold isAgg
          split at h4
          · rename_i k hu; simp [run_underlying hu]
          · simp at h4
        have hpx : (part f.type ⟨px ++ x :: xs⟩ f.offset).run P w = .ok x w := by
          unfold part
          rw [Sem.run_bind, hag, h1]
          simp [← hx]
        have hpy : (part f.type ⟨py ++ y :: ys⟩ f.offset).run P w = .ok y w := by
          unfold part
          rw [Sem.run_bind, hag, h1]
          simp [← hy]
        have key : ∃ b, (Op.equalIn (9998 + 1) f.type x y).run P w = .ok b w ∧ eqOk xs ys = true ∧ ((b = true ∧ eqP xs ys) ↔ eqP (x :: xs) (y :: ys)) := by
          cases x <;> cases y <;> simp only [eqOk] at ho <;> (try (exact absurd ho (by decide)))
          rename_i k a k' b
          simp only [Bool.and_eq_true, decide_eq_true_eq] at ho
          obtain ⟨rfl, ho⟩ := ho
          split at h4
          · rename_i k' hu
            exact ⟨a == b, run_equalIn_int w 9998 f.type k k' a b hu, ho, by simp [eqP]⟩
          · simp at h4
        obtain ⟨b, hb, ho', hiff⟩ := key
        cases b with
        | false =>
          refine ⟨false, ?_, by simpa using hiff⟩
          have hb' : (Op.equalIn 9999 f.type x y).run P w = .ok false w := hb
          simp [Op.eqFields, h2, hpx, hpy, hb']
        | true =>
          obtain ⟨c, hc, hi⟩ := ih (i + 1) xs ys (px ++ [x]) (py ++ [y]) (by simp [hx]) (by simp [hy]) h5 ho' (by simpa using hl)
          refine ⟨c, ?_, by rw [hi]; simpa using hiff⟩
          have hb' : (Op.equalIn 9999 f.type x y).run P w = .ok true w := hb
          simp [Op.eqFields, h2, hpx, hpy, hb']
          simpa using hc
theorem eqS_sound {t : TypeId} {op : BinOp} {xs ys : Array Value} {x y : Operand} {K : Value → Prop} (h : eqS P t op xs ys K) :
    ∃ v, K v ∧ ∀ w, ((do eqGuard op t x y (.agg xs) (.agg ys); binOp op t (.agg xs) (.agg ys) : Sem Value)).run P w = .ok v w := by
  have main : (eqOk xs.toList ys.toList && plainStruct P t xs.size) = true → ∃ b, (∀ w, (Op.equalIn 10000 t (.agg xs) (.agg ys)).run P w = .ok b w) ∧ (b = true ↔ eqP xs.toList ys.toList) ∧ P.eqGuardType P.depth t = false := by
    intro hh
    simp only [Bool.and_eq_true, plainStruct] at hh
    obtain ⟨ho, hp⟩ := hh
    split at hp
    · rename_i fs hu
      simp only [Bool.and_eq_true, beq_iff_eq, Bool.not_eq_true'] at hp
      obtain ⟨⟨⟨h1, h2⟩, h3⟩, h4⟩ := hp
      have hf : P.fieldsOf t = fs := by simp [Program.fieldsOf, hu]
      have hx : ∀ w, ∃ b, (Op.eqFields (9998 + 1) xs ys fs.toList).run P w = .ok b w ∧ (b = true ↔ eqP xs.toList ys.toList) := fun w => by
        have := eqFields_plain w fs.toList 0 xs.toList ys.toList [] [] rfl rfl h1 ho (by simpa using h2.symm)
        simpa using this
      have hdec : ∀ w b, (Op.eqFields (9998 + 1) xs ys fs.toList).run P w = .ok b w → (b = true ↔ eqP xs.toList ys.toList) := fun w b hb => by
        obtain ⟨c, hc, hi⟩ := hx w
        rw [hc] at hb; cases hb; exact hi
      by_cases he : eqP xs.toList ys.toList
      · refine ⟨true, fun w => ?_, by simp [he], h4⟩
        rw [show (10000 : Nat) = (9998 + 1) + 1 from rfl, run_equalIn_struct w (9998 + 1) t xs ys (by rw [hf]; exact hu) h3, hf]
        obtain ⟨c, hc, hi⟩ := hx w
        rw [hc, hi.2 he]
      · refine ⟨false, fun w => ?_, by simp [he], h4⟩
        rw [show (10000 : Nat) = (9998 + 1) + 1 from rfl, run_equalIn_struct w (9998 + 1) t xs ys (by rw [hf]; exact hu) h3, hf]
        obtain ⟨c, hc, hi⟩ := hx w
        cases c with
        | false => exact hc
        | true => exact absurd (hi.1 rfl) he
    · simp at hp
  unfold eqS at h
  split at h
  · rename_i hh
    obtain ⟨b, hb, hi, hg⟩ := main hh
    refine ⟨.bool b, ?_, fun w => ?_⟩
    · cases b with
      | true => exact h.1 (hi.1 rfl)
      | false => exact h.2 fun e => by simpa using hi.2 e
    · rw [Sem.run_bind, run_eqGuard_agg w _ t x y xs ys hg]
      simp [run_eql_struct, hb]
  · rename_i hh
    obtain ⟨b, hb, hi, hg⟩ := main hh
    refine ⟨.bool !b, ?_, fun w => ?_⟩
    · cases b with
      | true => exact h.1 (hi.1 rfl)
      | false => exact h.2 fun e => by simpa using hi.2 e
    · rw [Sem.run_bind, run_eqGuard_agg w _ t x y xs ys hg]
      simp [run_neq_struct, hb]
  · exact h.elim
theorem binOp_cmp {op : BinOp} {t : TypeId} {k : IntKind} {a b : Int} (h : isCmp op = true) : binOp op t (.int k a) (.int k b) = Op.intCmp op a b := by
  cases op <;> simp [isCmp] at h <;> simp [binOp]
theorem binOp_str {op : BinOp} {t : TypeId} {a b : ByteArray} : binOp op t (.string a) (.string b) = Op.stringOp op a b := by
  cases op <;> simp [binOp]
theorem run_val {α : Type} (s : Sem α) (f : α → Next) (w : World) (v : α) (h : s.run P w = .ok v w) : (do pure (f (← s)) : Sem Next).run P w = .ok (f v) w := by
  simp [h]
theorem binS_sound (hR : ∀ a v, R a v → ∀ w, S w → w.cell? a = some v) {env : List Value} {o : Oper} {op : BinOp} {t yt : TypeId} {x y : Operand} {K : Value → Prop} (ho : o.op = .binOp op t x y yt)
    (h : binS P R env o op t x y K) : ∃ v, K v ∧ ∀ w, S w → (execOp (ev env) o).run P w = .ok (.value v) w := by
  have hex : execOp (ev env) o = (do pure (.value (← (do eqGuard op t x y (ev env x) (ev env y); binOp op t (ev env x) (ev env y) : Sem Value))) : Sem Next) := by
    simp only [execOp, ho]
  unfold binS at h
  split at h
  · rename_i hn
    obtain ⟨c, rfl⟩ := nilTest_true hn
    split at h
    · obtain ⟨b, hb, hr⟩ := nilTest_sound hn h
      refine ⟨.bool b, by cases b <;> simpa using hb, fun w _ => ?_⟩
      rw [hex]
      refine run_val _ _ _ _ ?_
      have e1 := eqGuard_const (op := .eql) (x := x) (a := ev env x) hn w
      simp only [Sem.run_bind, ev_const] at hr ⊢
      rw [e1]
      have : binOp .eql t (ev env x) c = (do pure (.bool (← Op.equal t (ev env x) c)) : Sem Value) := by
        cases c <;> simp [nilTy] at hn <;> cases ev env x <;> rfl
      simp [this, hr w]
    · obtain ⟨b, hb, hr⟩ := nilTest_sound hn h
      refine ⟨.bool !b, by cases b <;> simpa using hb, fun w _ => ?_⟩
      rw [hex]
      refine run_val _ _ _ _ ?_
      have e1 := eqGuard_const (op := .neq) (x := x) (a := ev env x) hn w
      simp only [Sem.run_bind, ev_const] at hr ⊢
      rw [e1]
      have : binOp .neq t (ev env x) c = (do pure (.bool (!(← Op.equal t (ev env x) c))) : Sem Value) := by
        cases c <;> simp [nilTy] at hn <;> cases ev env x <;> rfl
      simp [this, hr w]
    · exact h.elim
  · split at h
    · rename_i hc ha hb
      split at h
      · rename_i hk
        subst hk
        obtain ⟨v, hv, hr⟩ := cmpI_sound h
        refine ⟨v, hv, fun w _ => ?_⟩
        rw [hex, ha, hb]
        refine run_val _ _ _ _ ?_
        rw [Sem.run_bind, eqGuard_int, binOp_cmp hc, hr]; rfl
      · exact h.elim
    · rename_i k a k' b hc ha hb
      have fin : ∀ v, K v → binOp op t (.int k a) (.int k' b) = pure v → ∃ v, K v ∧ ∀ w, S w → (execOp (ev env) o).run P w = .ok (.value v) w := by
        intro v hv hr
        refine ⟨v, hv, fun w _ => ?_⟩
        rw [hex, ha, hb]
        refine run_val _ _ _ _ ?_
        rw [Sem.run_bind, eqGuard_int, hr]; rfl
      split at h
      · split at h
        · rename_i hk; subst hk
          exact fin _ h.2 (by simp [binOp, Op.intDiv, h.1])
        · exact h.elim
      · split at h
        · rename_i hk; subst hk
          exact fin _ h.2 (by simp [binOp, Op.intDiv, h.1])
        · exact h.elim
      · exact fin _ h.2 (by
          have : ¬ b < 0 := by omega
          simp [binOp, Op.shift, this])
      · exact fin _ h.2 (by
          have : ¬ b < 0 := by omega
          simp [binOp, Op.shift, this])
      · exact gen_sound hR h
    · rename_i ha hb
      obtain ⟨v, hv, hr⟩ := strCmp_sound h
      refine ⟨v, hv, fun w _ => ?_⟩
      rw [hex, ha, hb]
      refine run_val _ _ _ _ ?_
      rw [Sem.run_bind, eqGuard_str, binOp_str, hr]; rfl
    · rename_i ha hb
      obtain ⟨v, hv, hr⟩ := eqS_sound (x := x) (y := y) h
      refine ⟨v, hv, fun w _ => ?_⟩
      rw [hex, ha, hb]
      exact run_val _ _ _ _ (hr w)
    · rename_i p q hc ha hb
      have hg : ∀ w, (eqGuard op t x y (.pointer p) (.pointer q)).run P w = .ok () w := fun w => by cases op <;> simp [eqGuard]
      split at h
      · rename_i e hu
        split at h
        · rename_i hk
          obtain ⟨a, rfl, b, rfl, hab, h⟩ := h
          refine ⟨.bool (decide (a = b)), splitP_elim h, fun w _ => ?_⟩
          rw [hex, ha, hb]
          refine run_val _ _ _ _ ?_
          rw [Sem.run_bind, hg]
          have : binOp .eql t (.pointer (some a)) (.pointer (some b)) = (do pure (.bool (← Op.equal t (.pointer (some a)) (.pointer (some b)))) : Sem Value) := rfl
          simp only [Result.andThen_ok, this, Sem.run_bind, eq_ptr2 hu hk.1 hk.2 w hab]
          rfl
        · exact h.elim
      · rename_i e hu
        split at h
        · rename_i hk
          obtain ⟨a, rfl, b, rfl, hab, h⟩ := h
          refine ⟨.bool (!decide (a = b)), splitN_elim h, fun w _ => ?_⟩
          rw [hex, ha, hb]
          refine run_val _ _ _ _ ?_
          rw [Sem.run_bind, hg]
          have : binOp .neq t (.pointer (some a)) (.pointer (some b)) = (do pure (.bool (!(← Op.equal t (.pointer (some a)) (.pointer (some b))))) : Sem Value) := rfl
          simp only [Result.andThen_ok, this, Sem.run_bind, eq_ptr2 hu hk.1 hk.2 w hab]
          rfl
        · exact h.elim
      · exact h.elim
    · exact gen_sound hR h
end
end Go.Vc
