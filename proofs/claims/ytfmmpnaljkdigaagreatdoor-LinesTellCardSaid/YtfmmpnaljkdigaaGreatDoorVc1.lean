/-
  The condition calculus over Go's statements, first part: values, expressions, and when they are safe. By an AI agent.
-/
import Derived.OrdersHeld
import Derived.Laws.World
set_option linter.unusedVariables false
set_option linter.unusedSimpArgs false
namespace Go.Vc
open Go

/-! ## environments -/
def nth : List Value → Nat → Value
  | [], _ => undef
  | v :: _, 0 => v
  | _ :: vs, n + 1 => nth vs n
def put : List Value → Nat → Value → List Value
  | [], _, _ => []
  | _ :: vs, 0, x => x :: vs
  | v :: vs, n + 1, x => v :: put vs n x
def putD (env : List Value) : Option Nat → Value → List Value
  | none, _ => env
  | some d, x => put env d x
def ev (env : List Value) : Operand → Value
  | .tmp t => nth env t
  | .const v => v
  | .global g => .pointer (some ⟨g, 0, none⟩)
  | .func f => .func (.func f) #[] #[]

theorem nth_eq (env : List Value) (n : Nat) : nth env n = env.toArray.getD n undef := by
  induction env generalizing n with
  | nil => simp [nth]
  | cons v vs ih => cases n with
    | zero => simp [nth]
    | succ n => simp [nth, ih]
theorem put_eq (env : List Value) (n : Nat) (x : Value) : (put env n x).toArray = env.toArray.setIfInBounds n x := by
  induction env generalizing n with
  | nil => simp [put]
  | cons v vs ih => cases n with
    | zero => simp [put]
    | succ n =>
      have := ih n
      simp only [List.setIfInBounds_toArray, List.set_cons_succ, put] at this ⊢
      simpa using this
def act (env : List Value) : Act := { tmps := env.toArray, defers := [] }
theorem act_put (env : List Value) (d : Option Nat) (x : Value) : (act env).put d x = act (putD env d x) := by
  cases d <;> simp [act, Act.put, putD, put_eq]
theorem ev_eq (env : List Value) : (act env).eval = ev env := by
  funext o; cases o <;> simp [act, Act.eval, ev, nth_eq]

/-! ## kinds -/
inductive Ck where
  | int (k : IntKind) | bool | str | ptr | sl | mp | any
inductive Sk where
  | c (k : Ck) | a (ks : List Ck)
inductive Kd where
  | s (k : Sk) | t (ks : List Sk)

def flat (P : Program) : Nat → TypeId → List Ck
  | 0, _ => []
  | n + 1, t =>
    match P.underlying t with
    | some .bool => [.bool]
    | some (.int k) => [.int k]
    | some .string => [.str]
    | some (.pointer _) => [.ptr]
    | some (.slice _) => [.sl]
    | some (.map _ _) => [.mp]
    | some (.struct fs) => fs.toList.flatMap fun f => flat P n f.type
    | some (.array m e) => (List.replicate m (flat P n e)).flatten
    | _ => [.any]
def aggT (P : Program) (t : TypeId) : Bool :=
  match P.underlying t with
  | some (.struct _) | some (.array _ _) => true
  | _ => false
def skOf (P : Program) (t : TypeId) : Sk := if aggT P t then .a (flat P 12 t) else .c ((flat P 12 t).headD .any)
def kdOf (P : Program) (t : TypeId) : Kd :=
  match P.underlying t with
  | some (.tuple ts) => .t (ts.toList.map (skOf P))
  | _ => .s (skOf P t)

/-- There are values of these kinds. -/
def tel : List Ck → (List Value → Prop) → Prop
  | [], K => K []
  | .int k :: cs, K => ∃ n : Int, tel cs fun r => K (.int k n :: r)
  | .bool :: cs, K => ∃ b : Bool, tel cs fun r => K (.bool b :: r)
  | .str :: cs, K => ∃ s : ByteArray, tel cs fun r => K (.string s :: r)
  | .ptr :: cs, K => ∃ p : Option Addr, tel cs fun r => K (.pointer p :: r)
  | .sl :: cs, K => ∃ (a : Option Addr) (l c : Nat), tel cs fun r => K (.slice a l c :: r)
  | .mp :: cs, K => ∃ m : Option Nat, tel cs fun r => K (.map m :: r)
  | .any :: cs, K => ∃ v : Value, tel cs fun r => K (v :: r)
def tel1 (c : Ck) (K : Value → Prop) : Prop :=
  match c with
  | .int k => ∃ n : Int, K (.int k n)
  | .bool => ∃ b : Bool, K (.bool b)
  | .str => ∃ s : ByteArray, K (.string s)
  | .ptr => ∃ p : Option Addr, K (.pointer p)
  | .sl => ∃ (a : Option Addr) (l c : Nat), K (.slice a l c)
  | .mp => ∃ m : Option Nat, K (.map m)
  | .any => ∃ v : Value, K v
def telS (s : Sk) (K : Value → Prop) : Prop :=
  match s with
  | .c k => tel1 k K
  | .a ks => tel ks fun vs => K (.agg ⟨vs⟩)
def telSs : List Sk → (List Value → Prop) → Prop
  | [], K => K []
  | s :: ss, K => telS s fun v => telSs ss fun r => K (v :: r)
def telK (k : Kd) (K : Value → Prop) : Prop :=
  match k with
  | .s s => telS s K
  | .t ss => telSs ss fun vs => K (.tuple ⟨vs⟩)

theorem tel_ex : ∀ {cs : List Ck} {K : List Value → Prop}, tel cs K → ∃ vs, K vs
  | [], _, h => ⟨_, h⟩
  | .int _ :: _, _, ⟨_, h⟩ | .bool :: _, _, ⟨_, h⟩ | .str :: _, _, ⟨_, h⟩ | .ptr :: _, _, ⟨_, h⟩ | .mp :: _, _, ⟨_, h⟩ | .any :: _, _, ⟨_, h⟩ =>
    let ⟨_, h⟩ := tel_ex h; ⟨_, h⟩
  | .sl :: _, _, ⟨_, _, _, h⟩ => let ⟨_, h⟩ := tel_ex h; ⟨_, h⟩
theorem tel1_ex {c : Ck} {K : Value → Prop} (h : tel1 c K) : ∃ v, K v := by
  cases c <;> simp only [tel1] at h
  case sl => obtain ⟨_, _, _, h⟩ := h; exact ⟨_, h⟩
  all_goals (obtain ⟨_, h⟩ := h; exact ⟨_, h⟩)
theorem telS_ex {s : Sk} {K : Value → Prop} (h : telS s K) : ∃ v, K v := by
  cases s with
  | c k => exact tel1_ex h
  | a ks => obtain ⟨_, h⟩ := tel_ex h; exact ⟨_, h⟩
theorem telSs_ex : ∀ {ss : List Sk} {K : List Value → Prop}, telSs ss K → ∃ vs, K vs
  | [], _, h => ⟨_, h⟩
  | _ :: _, _, h => let ⟨_, h⟩ := telS_ex h; let ⟨_, h⟩ := telSs_ex h; ⟨_, h⟩
theorem telK_ex {k : Kd} {K : Value → Prop} (h : telK k K) : ∃ v, K v := by
  cases k with
  | s s => exact telS_ex h
  | t ss => obtain ⟨_, h⟩ := telSs_ex h; exact ⟨_, h⟩
/-- v is of the kind k. -/
def tyK (k : Kd) (v : Value) (K : Value → Prop) : Prop := telK k fun x => v = x ∧ K x
theorem tyK_elim {k : Kd} {v : Value} {K : Value → Prop} (h : tyK k v K) : K v := by
  obtain ⟨x, rfl, h⟩ := telK_ex h; exact h

def splitV : Value → (Value → Prop) → Prop
  | .bool b, K => (b = true → K (.bool true)) ∧ (b = false → K (.bool false))
  | v, K => K v
theorem splitV_elim {v : Value} {K : Value → Prop} (h : splitV v K) : K v := by
  cases v <;> simp only [splitV] at h <;> try exact h
  rename_i b; cases b
  · exact h.2 rfl
  · exact h.1 rfl
def splitIf (b : Bool) (v : Value) (K : Value → Prop) : Prop := match b with | true => splitV v K | false => K v
theorem splitIf_elim {b : Bool} {v : Value} {K : Value → Prop} (h : splitIf b v K) : K v := by
  cases b
  · exact h
  · exact splitV_elim h
def isB : Sk → Bool
  | .c .bool => true
  | _ => false
/-- Truths on their own, or in a tuple, are told true from false. -/
def splitL : List Sk → List Value → (List Value → Prop) → Prop
  | [], vs, K => K vs
  | _ :: _, [], K => K []
  | s :: ss, v :: vs, K => splitIf (isB s) v fun v => splitL ss vs fun r => K (v :: r)
theorem splitL_elim : ∀ {ss : List Sk} {vs : List Value} {K : List Value → Prop}, splitL ss vs K → K vs := by
  intro ss
  induction ss with
  | nil => intro vs K h; exact h
  | cons s ss ih =>
    intro vs K h
    cases vs with
    | nil => exact h
    | cons v vs => exact ih (K := fun r => K (v :: r)) (splitIf_elim h)
def tyB (k : Kd) (v : Value) (K : Value → Prop) : Prop :=
  match k with
  | .s s => telS s fun x => v = x ∧ splitIf (isB s) x K
  | .t ss => telSs ss fun vs => v = .tuple ⟨vs⟩ ∧ splitL ss vs fun vs => K (.tuple ⟨vs⟩)
theorem tyB_elim {k : Kd} {v : Value} {K : Value → Prop} (h : tyB k v K) : K v := by
  unfold tyB at h
  split at h
  · obtain ⟨x, rfl, h2⟩ := telS_ex h; exact splitIf_elim h2
  · obtain ⟨x, rfl, h2⟩ := telSs_ex h; exact splitL_elim (K := fun vs => K (.tuple ⟨vs⟩)) h2
def splitP (p : Prop) (K : Value → Prop) : Prop := (p → K (.bool true)) ∧ (¬ p → K (.bool false))
def splitN (p : Prop) (K : Value → Prop) : Prop := (p → K (.bool false)) ∧ (¬ p → K (.bool true))
def Dr (p : Option Addr) (K : Addr → Prop) : Prop := ∃ a, p = some a ∧ K a
def drf : Value → (Addr → Prop) → Prop
  | .pointer p, K => Dr p K
  | _, _ => False
theorem drf_ex {v : Value} {K : Addr → Prop} (h : drf v K) : ∃ a, v = .pointer (some a) ∧ K a := by
  cases v <;> simp only [drf] at h
  obtain ⟨a, rfl, h⟩ := h; exact ⟨a, rfl, h⟩

/-! ## silent runs -/
def ss {α : Type} (P : Program) (R : Addr → Value → Prop) : Sem α → (α → Prop) → Prop
  | .pure a, K => K a
  | .load _ a k, K => ∃ v, R a v ∧ ss P R (k v) K
  | .program k, K => ss P R (k P) K
  | .mark _ k, K => ss P R k K
  | _, _ => False
theorem ss_sound {α : Type} {P : Program} {R : Addr → Value → Prop} {S : World → Prop} (hR : ∀ a v, R a v → ∀ w, S w → w.cell? a = some v) (s : Sem α) :
    ∀ {K : α → Prop}, ss P R s K → ∃ a, K a ∧ ∀ w, S w → s.run P w = .ok a w := by
  induction s with
  | pure a => intro K h; exact ⟨a, h, fun _ _ => rfl⟩
  | load m a k ih =>
    intro K h
    obtain ⟨v, hv, h⟩ := h
    obtain ⟨x, hx, hr⟩ := ih v h
    exact ⟨x, hx, fun w hw => by simp [Sem.run, hR a v hv w hw, hr w hw]⟩
  | program k ih => intro K h; obtain ⟨x, hx, hr⟩ := ih P h; exact ⟨x, hx, fun w hw => by simp [Sem.run, hr w hw]⟩
  | mark m k ih => intro K h; obtain ⟨x, hx, hr⟩ := ih h; exact ⟨x, hx, fun w hw => by simp [Sem.run, hr w hw]⟩
  | _ => intro K h; exact h.elim

/-! ## runs -/
def oneC : Value → Bool
  | .agg _ | .tuple _ => false
  | _ => true
def NewV (w : World) (o : Obj) (K : Nat → World → Prop) : Prop := K w.heap.size (w.alloc o)
def StC (w : World) (a : Addr) (v : Value) (K : World → Prop) : Prop :=
  oneC v = true ∧ (∃ u, w.cell? a = some u) ∧ w.frozen? a = false ∧ K (w.setCell a v)
def LdC (w : World) (a : Addr) (K : Value → Prop) : Prop := ∃ v, w.cell? a = some v ∧ K v
def ChV (w : World) (q : Question) (K : Nat → World → Prop) : Prop :=
  if q.forced then K 0 w else K (q.cut (w.tape w.drawn q)) w.drew
def GetV (w : World) (r : Nat) (K : Obj → Prop) : Prop := ∃ o, w.heap[r]? = some o ∧ (∀ c e f, o ≠ .cells c e f) ∧ K o
def SetV (w : World) (r : Nat) (x : Obj) (K : World → Prop) : Prop :=
  (∃ o, w.heap[r]? = some o ∧ (∀ c e f, o ≠ .cells c e f)) ∧ K { w with heap := w.heap.setIfInBounds r x }
def sv {α : Type} (P : Program) : Sem α → (α → World → Prop) → World → Prop
  | .pure a, K, w => K a w
  | .load _ a k, K, w => LdC w a fun v => sv P (k v) K w
  | .store _ a v k, K, w => StC w a v fun w => sv P k K w
  | .new o k, K, w => NewV w o fun r w => sv P (k r) K w
  | .shape r k, K, w => sv P (k (w.shape? r)) K w
  | .freeze a n k, K, w => sv P k K (w.freeze a n)
  | .frozen a k, K, w => sv P (k (w.frozen? a)) K w
  | .getObj r k, K, w => GetV w r fun o => sv P (k o) K w
  | .setObj r o k, K, w => SetV w r o fun w => sv P k K w
  | .choose q k, K, w => ChV w q fun n w => sv P (k n) K w
  | .sys _ _, _, _ => False
  | .program k, K, w => sv P (k P) K w
  | .mark _ k, K, w => sv P k K w
  | .halt _, _, _ => False
theorem sv_sound {α : Type} {P : Program} (s : Sem α) : ∀ {K : α → World → Prop} {w : World}, sv P s K w → ∃ a w', s.run P w = .ok a w' ∧ K a w' := by
  induction s with
  | pure a => intro K w h; exact ⟨a, w, rfl, h⟩
  | load m a k ih => intro K w h; obtain ⟨v, hv, h⟩ := h; simpa [Sem.run, hv] using ih v h
  | store m a v k ih =>
    intro K w h
    obtain ⟨h1, ⟨u, h2⟩, h3, h⟩ := h
    obtain ⟨x, w', hr, hk⟩ := ih h
    refine ⟨x, w', ?_, hk⟩
    cases v <;> simp_all [Sem.run, oneC]
  | new o k ih => intro K w h; simpa [Sem.run] using ih _ h
  | shape r k ih => intro K w h; simpa [Sem.run] using ih _ h
  | freeze a n k ih => intro K w h; simpa [Sem.run] using ih h
  | frozen a k ih => intro K w h; simpa [Sem.run] using ih _ h
  | getObj r k ih =>
    intro K w h
    obtain ⟨o, ho, hn, h⟩ := h
    obtain ⟨x, w', hr, hk⟩ := ih o h
    refine ⟨x, w', ?_, hk⟩
    simp only [Sem.run, ho]
    cases o <;> first | exact hr | exact absurd rfl (hn _ _ _)
  | setObj r x k ih =>
    intro K w h
    obtain ⟨⟨o, ho, hn⟩, h⟩ := h
    obtain ⟨y, w', hr, hk⟩ := ih h
    refine ⟨y, w', ?_, hk⟩
    simp only [Sem.run, ho]
    cases o <;> first | exact hr | exact absurd rfl (hn _ _ _)
  | choose q k ih =>
    intro K w h
    unfold sv ChV at h
    simp only [Sem.run]
    split at h <;> rename_i hq
    · rw [if_pos hq]; exact ih _ h
    · rw [if_neg hq]; exact ih _ h
  | sys c k ih => intro K w h; exact h.elim
  | program k ih => intro K w h; simpa [Sem.run] using ih P h
  | mark m k ih => intro K w h; simpa [Sem.run] using ih h
  | halt h => intro K w h; exact h.elim
theorem sv_mono {α : Type} {P : Program} (s : Sem α) {K K' : α → World → Prop} (hk : ∀ a w, K a w → K' a w) : ∀ {w : World}, sv P s K w → sv P s K' w := by
  induction s with
  | pure a => intro w h; exact hk _ _ h
  | load m a k ih => intro w h; obtain ⟨v, hv, h⟩ := h; exact ⟨v, hv, ih v h⟩
  | store m a v k ih => intro w h; obtain ⟨h1, h2, h3, h⟩ := h; exact ⟨h1, h2, h3, ih h⟩
  | new o k ih => intro w h; exact ih _ h
  | shape r k ih => intro w h; exact ih _ h
  | freeze a n k ih => intro w h; exact ih h
  | frozen a k ih => intro w h; exact ih _ h
  | getObj r k ih => intro w h; obtain ⟨o, ho, hn, h⟩ := h; exact ⟨o, ho, hn, ih o h⟩
  | setObj r x k ih => intro w h; obtain ⟨h1, h⟩ := h; exact ⟨h1, ih h⟩
  | choose q k ih =>
    intro w h
    unfold sv ChV at h ⊢
    split at h <;> rename_i hq
    · rw [if_pos hq]; exact ih _ h
    · rw [if_neg hq]; exact ih _ h
  | sys c k ih => intro w h; exact h.elim
  | program k ih => intro w h; exact ih P h
  | mark m k ih => intro w h; exact ih h
  | halt h => intro w h; exact h.elim
end Go.Vc
