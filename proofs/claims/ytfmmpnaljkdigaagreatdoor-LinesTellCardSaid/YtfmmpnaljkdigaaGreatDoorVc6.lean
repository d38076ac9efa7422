/-
  A part of the proof that two events of one line are one event: the calculus that follows known memory by computing, and its soundness. By an AI agent.
-/
import Derived.Test.YtfmmpnaljkdigaaGreatDoorVc5
import Derived.Scope
set_option linter.unusedVariables false
set_option linter.unusedSimpArgs false
namespace Go.Vc
open Go

/-! ## curried assertions over slots -/
def CurC : List Ck → Type → Type
  | [], B => B
  | .int _ :: cs, B => Int → CurC cs B
  | .bool :: cs, B => Bool → CurC cs B
  | .str :: cs, B => ByteArray → CurC cs B
  | .ptr :: cs, B => Option Addr → CurC cs B
  | .sl :: cs, B => Option Addr → Nat → Nat → CurC cs B
  | .mp :: cs, B => Option Nat → CurC cs B
  | .any :: cs, B => Value → CurC cs B
def allC {B : Type} : (cs : List Ck) → CurC cs B → (List Value → B → Prop) → Prop
  | [], I, K => K [] I
  | .int k :: cs, I, K => ∀ n : Int, allC cs (I n) fun r p => K (.int k n :: r) p
  | .bool :: cs, I, K => ∀ b : Bool, allC cs (I b) fun r p => K (.bool b :: r) p
  | .str :: cs, I, K => ∀ s : ByteArray, allC cs (I s) fun r p => K (.string s :: r) p
  | .ptr :: cs, I, K => ∀ q : Option Addr, allC cs (I q) fun r p => K (.pointer q :: r) p
  | .sl :: cs, I, K => ∀ (a : Option Addr) (l c : Nat), allC cs (I a l c) fun r p => K (.slice a l c :: r) p
  | .mp :: cs, I, K => ∀ m : Option Nat, allC cs (I m) fun r p => K (.map m :: r) p
  | .any :: cs, I, K => ∀ v : Value, allC cs (I v) fun r p => K (v :: r) p
def atC {B : Type} : (cs : List Ck) → CurC cs B → List Value → (B → Prop) → Prop
  | [], I, vs, K => (match vs with | [] => K I | _ => False)
  | .int k :: cs, I, vs, K => (match vs with | .int k' n :: vs => if k = k' then atC cs (I n) vs K else False | _ => False)
  | .bool :: cs, I, vs, K => (match vs with | .bool b :: vs => atC cs (I b) vs K | _ => False)
  | .str :: cs, I, vs, K => (match vs with | .string s :: vs => atC cs (I s) vs K | _ => False)
  | .ptr :: cs, I, vs, K => (match vs with | .pointer q :: vs => atC cs (I q) vs K | _ => False)
  | .sl :: cs, I, vs, K => (match vs with | .slice a l c :: vs => atC cs (I a l c) vs K | _ => False)
  | .mp :: cs, I, vs, K => (match vs with | .map m :: vs => atC cs (I m) vs K | _ => False)
  | .any :: cs, I, vs, K => (match vs with | v :: vs => atC cs (I v) vs K | _ => False)
/-- what is at once shown by 'atC' and used by 'allC' -/
theorem at_all {B : Type} : ∀ {cs : List Ck} {I : CurC cs B} {vs : List Value} {K : B → Prop}, atC cs I vs K →
    ∃ p, K p ∧ ∀ L : List Value → B → Prop, allC cs I L → L vs p := by
  intro cs
  induction cs with
  | nil =>
    intro I vs K h
    cases vs with
    | nil => exact ⟨I, h, fun L hl => hl⟩
    | cons v vs => exact h.elim
  | cons c cs ih =>
    intro I vs K h
    cases vs with
    | nil => cases c <;> exact h.elim
    | cons v vs =>
      cases c
      case int k =>
        cases v <;> try exact h.elim
        rename_i k' n
        simp only [atC] at h
        split at h
        · rename_i hk; subst hk
          obtain ⟨p, hp, hl⟩ := ih h
          exact ⟨p, hp, fun L hL => hl (fun r p => L (.int k n :: r) p) (hL n)⟩
        · exact h.elim
      case bool =>
        cases v <;> try exact h.elim
        rename_i x
        obtain ⟨p, hp, hl⟩ := ih h
        exact ⟨p, hp, fun L hL => hl (fun r p => L (.bool x :: r) p) (hL x)⟩
      case str =>
        cases v <;> try exact h.elim
        rename_i x
        obtain ⟨p, hp, hl⟩ := ih h
        exact ⟨p, hp, fun L hL => hl (fun r p => L (.string x :: r) p) (hL x)⟩
      case ptr =>
        cases v <;> try exact h.elim
        rename_i x
        obtain ⟨p, hp, hl⟩ := ih h
        exact ⟨p, hp, fun L hL => hl (fun r p => L (.pointer x :: r) p) (hL x)⟩
      case sl =>
        cases v <;> try exact h.elim
        rename_i x y z
        obtain ⟨p, hp, hl⟩ := ih h
        exact ⟨p, hp, fun L hL => hl (fun r p => L (.slice x y z :: r) p) (hL x y z)⟩
      case mp =>
        cases v <;> try exact h.elim
        rename_i x
        obtain ⟨p, hp, hl⟩ := ih h
        exact ⟨p, hp, fun L hL => hl (fun r p => L (.map x :: r) p) (hL x)⟩
      case any =>
        obtain ⟨p, hp, hl⟩ := ih h
        exact ⟨p, hp, fun L hL => hl (fun r p => L (v :: r) p) (hL v)⟩

def CurS : Sk → Type → Type
  | .c k, B => CurC [k] B
  | .a ks, B => CurC ks B
def CurT : List Sk → Type → Type
  | [], B => B
  | s :: ss, B => CurS s (CurT ss B)
def allS {B : Type} : (s : Sk) → CurS s B → (Value → B → Prop) → Prop
  | .c .bool, I, K => K (.bool true) (I true) ∧ K (.bool false) (I false)
  | .c k, I, K => allC [k] I fun vs p => K (vs.headD undef) p
  | .a ks, I, K => allC ks I fun vs p => K (.agg ⟨vs⟩) p
def atS {B : Type} : (s : Sk) → CurS s B → Value → (B → Prop) → Prop
  | .c k, I, v, K => atC [k] I [v] K
  | .a ks, I, v, K => (match v with | .agg cs => atC ks I cs.toList K | _ => False)
theorem at_allS {B : Type} {s : Sk} {I : CurS s B} {v : Value} {K : B → Prop} (h : atS s I v K) : ∃ p, K p ∧ ∀ L : Value → B → Prop, allS s I L → L v p := by
  cases s with
  | c k =>
    obtain ⟨p, hp, hl⟩ := at_all h
    refine ⟨p, hp, fun L hL => ?_⟩
    cases k with
    | bool =>
      refine hl (fun vs p => L (vs.headD undef) p) ?_
      intro b
      cases b
      · exact hL.2
      · exact hL.1
    | _ => exact hl (fun vs p => L (vs.headD undef) p) hL
  | a ks =>
    cases v <;> try exact h.elim
    rename_i cs
    obtain ⟨p, hp, hl⟩ := at_all h
    exact ⟨p, hp, fun L hL => hl (fun vs p => L (.agg ⟨vs⟩) p) hL⟩
def allT {B : Type} : (ss : List Sk) → CurT ss B → (List Value → B → Prop) → Prop
  | [], I, K => K [] I
  | s :: ss, I, K => allS s I fun v I => allT ss I fun r p => K (v :: r) p
def atT {B : Type} : (ss : List Sk) → CurT ss B → List Value → (B → Prop) → Prop
  | [], I, _, K => K I
  | s :: ss, I, vs, K => atS s I (vs.headD undef) fun I => atT ss I vs.tail K
theorem at_allT {B : Type} : ∀ {ss : List Sk} {I : CurT ss B} {vs : List Value} {K : B → Prop}, vs.length = ss.length → atT ss I vs K →
    ∃ p, K p ∧ ∀ L : List Value → B → Prop, allT ss I L → L vs p := by
  intro ss
  induction ss with
  | nil =>
    intro I vs K hl h
    cases vs with
    | nil => exact ⟨I, h, fun L hL => hL⟩
    | cons v vs => simp at hl
  | cons s ss ih =>
    intro I vs K hl h
    cases vs with
    | nil => simp at hl
    | cons v vs =>
      obtain ⟨I', h2, ha⟩ := at_allS h
      obtain ⟨p, hp, hb⟩ := ih (by simpa using hl) h2
      exact ⟨p, hp, fun L hL => hb (fun r p => L (v :: r) p) (ha (fun v I => allT ss I fun r p => L (v :: r) p) hL)⟩

/-! ## slots -/
def setAll (env : List Value) : List Nat → List Value → List Value
  | [], _ => env
  | i :: is, vs => setAll (put env i (vs.headD undef)) is vs.tail
def reset (env : List Value) : List Nat → (Nat → Value) → List Value
  | [], _ => env
  | i :: is, D => reset (put env i (D i)) is D
theorem put_len (e : List Value) (i : Nat) (x : Value) : (put e i x).length = e.length := by
  induction e generalizing i with
  | nil => rfl
  | cons v vs ih => cases i <;> simp [put, ih]
theorem nth_put (e : List Value) (i : Nat) (x : Value) (j : Nat) : nth (put e i x) j = if i = j ∧ i < e.length then x else nth e j := by
  induction e generalizing i j with
  | nil => simp [put, nth]
  | cons v vs ih =>
    cases i with
    | zero => cases j <;> simp [put, nth]
    | succ i => cases j with
      | zero => simp [put, nth]
      | succ j => simp [put, nth, ih]
theorem list_ext {a b : List Value} (hl : a.length = b.length) (h : ∀ i, nth a i = nth b i) : a = b := by
  induction a generalizing b with
  | nil => cases b with
    | nil => rfl
    | cons => simp at hl
  | cons x xs ih => cases b with
    | nil => simp at hl
    | cons y ys =>
      have h0 : x = y := h 0
      rw [h0, ih (by simpa using hl) fun i => h (i + 1)]
theorem reset_len (e : List Value) (m : List Nat) (D : Nat → Value) : (reset e m D).length = e.length := by
  induction m generalizing e with
  | nil => rfl
  | cons i is ih => simp [reset, ih, put_len]
theorem nth_reset (e : List Value) (m : List Nat) (D : Nat → Value) (j : Nat) : nth (reset e m D) j = if j ∈ m ∧ j < e.length then D j else nth e j := by
  induction m generalizing e with
  | nil => simp [reset]
  | cons i is ih =>
    simp only [reset, ih, put_len, nth_put, List.mem_cons]
    by_cases h1 : j ∈ is ∧ j < e.length
    · simp [h1]
    · rw [if_neg h1]
      by_cases h2 : i = j ∧ i < e.length
      · obtain ⟨rfl, h2⟩ := h2; simp [h2]
      · rw [if_neg h2]
        rw [if_neg]
        rintro ⟨h3 | h3, h4⟩
        · exact h2 ⟨h3.symm, h3 ▸ h4⟩
        · exact h1 ⟨h3, h4⟩
theorem setAll_len (e : List Value) (is : List Nat) (vs : List Value) : (setAll e is vs).length = e.length := by
  induction is generalizing e vs with
  | nil => rfl
  | cons i is ih => simp [setAll, ih, put_len]
theorem setAll_same {e e' : List Value} (is : List Nat) (hl : e.length = e'.length) (j : Nat) :
    nth (setAll e is (is.map (nth e'))) j = nth e j ∨ nth (setAll e is (is.map (nth e'))) j = nth e' j := by
  induction is generalizing e with
  | nil => exact .inl rfl
  | cons i is ih =>
    simp only [setAll, List.map_cons, List.headD_cons, List.tail_cons]
    rcases ih (e := put e i (nth e' i)) (by simp [put_len, hl]) with h | h
    · rw [h, nth_put]
      split
      · rename_i h2; obtain ⟨rfl, _⟩ := h2; exact .inr rfl
      · exact .inl rfl
    · exact .inr h
/-- What has been left as it was but for some slots. -/
def Agr (m : List Nat) (e e' : List Value) : Prop := e'.length = e.length ∧ ∀ i, i ∉ m → nth e' i = nth e i
theorem Agr.refl (m : List Nat) (e : List Value) : Agr m e e := ⟨rfl, fun _ _ => rfl⟩
theorem Agr.trans {m : List Nat} {a b c : List Value} (h : Agr m a b) (k : Agr m b c) : Agr m a c := ⟨k.1.trans h.1, fun i hi => (k.2 i hi).trans (h.2 i hi)⟩
theorem Agr.mono {m m' : List Nat} {a b : List Value} (h : Agr m a b) (hm : ∀ i, i ∈ m → i ∈ m') : Agr m' a b := ⟨h.1, fun i hi => h.2 i fun hm' => hi (hm i hm')⟩
theorem Agr.put (m : List Nat) (e : List Value) (d : Option Nat) (x : Value) (h : ∀ i, d = some i → i ∈ m) : Agr m e (putD e d x) := by
  cases d with
  | none => exact .refl _ _
  | some i =>
    refine ⟨put_len _ _ _, fun j hj => ?_⟩
    simp only [putD, nth_put]
    rw [if_neg]
    rintro ⟨rfl, _⟩
    exact hj (h i rfl)
theorem Agr.form {m : List Nat} {e e' : List Value} (h : Agr m e e') (is : List Nat) : e' = setAll (reset e m (nth e')) is (is.map (nth e')) := by
  refine list_ext ?_ fun j => ?_
  · simp [setAll_len, reset_len, h.1]
  · have hr : nth (reset e m (nth e')) j = nth e' j := by
      rw [nth_reset]
      split
      · rfl
      · rename_i hn
        by_cases hj : j ∈ m
        · have : ¬ j < e.length := fun hl => hn ⟨hj, hl⟩
          have z : ∀ (l : List Value) (j : Nat), ¬ j < l.length → nth l j = undef := by
            intro l
            induction l with
            | nil => intro j _; rfl
            | cons x xs ih => intro j hj; cases j with
              | zero => simp at hj
              | succ j => exact ih j (by simpa using hj)
          rw [z _ _ this, z _ _ (by rw [h.1]; exact this)]
        · exact (h.2 j hj).symm
    rcases setAll_same (e := reset e m (nth e')) (e' := e') is (by simp [reset_len, h.1]) j with h2 | h2
    · rw [h2, hr]
    · rw [h2]
theorem Agr.setReset (m is : List Nat) (e : List Value) (D : Nat → Value) (vs : List Value) (h : ∀ i, i ∈ is → i ∈ m) : Agr m e (setAll (reset e m D) is vs) := by
  have h1 : Agr m e (reset e m D) := ⟨reset_len _ _ _, fun i hi => by rw [nth_reset, if_neg]; rintro ⟨h, _⟩; exact hi h⟩
  have h2 : ∀ (is : List Nat) (e : List Value) (vs : List Value), (∀ i, i ∈ is → i ∈ m) → Agr m e (setAll e is vs) := by
    intro is
    induction is with
    | nil => intro e vs _; exact .refl _ _
    | cons i is ih =>
      intro e vs h
      exact (Agr.put m e (some i) (vs.headD undef) (by rintro j hj; cases hj; exact h i (by simp))).trans (ih _ _ fun j hj => h j (by simp [hj]))
  exact h1.trans (h2 is _ vs h)
end Go.Vc
