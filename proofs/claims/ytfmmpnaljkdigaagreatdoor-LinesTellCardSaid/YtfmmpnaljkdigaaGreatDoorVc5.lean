/-
  A part of the proof that two events of one line are one event: the calculus that follows known memory by computing, and its soundness. By an AI agent.
-/
import Derived.Test.YtfmmpnaljkdigaaGreatDoorVc4
set_option linter.unusedVariables false
set_option linter.unusedSimpArgs false
namespace Go.Vc
open Go

def stCells (a : Addr) (i : Nat) : List Value → (World → Prop) → World → Prop
  | [], K, w => K w
  | v :: vs, K, w => StC w (a.add i) v fun w => stCells a (i + 1) vs K w
def stK (P : Program) (t : TypeId) (a : Addr) (v : Value) (K : World → Prop) (w : World) : Prop :=
  match known P t, aggT P t with
  | true, false => if szOf P t = 1 then StC w a v K else False
  | true, true => (match v with
    | .agg cs => if cs.size = szOf P t then stCells a 0 cs.toList K w else False
    | _ => False)
  | false, _ => False
def CallV (P : Program) (f : FuncId) (args : Array Value) (w : World) (K : Value → World → Prop) : Prop :=
  Calls P f args w fun e w' => ∃ v, e = .returned v ∧ K v w'
def biS (b : Builtin) (ts : Array TypeId) (t : TypeId) (args : Array Value) : Sem Value :=
  match b with
  | .append => Builtin.append_ ts t args
  | .copy => Builtin.copy_ ts t args
  | .delete => Builtin.delete_ ts t args
  | .clear => Builtin.clear_ ts t args
  | .len => Builtin.len_ ts t args
  | .cap => Builtin.cap_ ts t args
  | .unsafeSliceData => Builtin.unsafeSliceData_ ts t args
  | .unsafeString => Builtin.unsafeString_ ts t args
  | .unsafeStringData => Builtin.unsafeStringData_ ts t args
  | .unsafeSlice => Builtin.unsafeSlice_ ts t args
  | _ => stuck "no such builtin"
/-- the functions that may be called by their number; the slots whose 'extract' is to be told by its kind -/
structure Ctx where
  fns : List Nat
  ext : List Nat
def entB (v : Value) (K : Value → Prop) : Prop := ∃ k x, v = .tuple #[k, x] ∧ K (.tuple #[k, x])
/-- what a step of an iterator gives -/
def nextB (v : Value) (K : Value → Prop) : Prop :=
  (v = .tuple #[.bool false] ∧ K (.tuple #[.bool false])) ∨ ∃ k x, v = .tuple #[.bool true, k, x] ∧ K (.tuple #[.bool true, k, x])
def bslI (P : Program) (env : List Value) (t : TypeId) (len : Nat) (parts : Array (Nat × Operand)) (K : Value → World → Prop) (w : World) : Prop :=
  match P.underlying t with
  | some (.slice e) =>
    (match known P e, zeroOf P e with
     | true, some z =>
       if len * szOf P e ≤ 2 ^ 24 ∧ len * szOf P e ≠ 0 then
         fillS P (fun i => some (e, i * szOf P e)) ((Array.range (len * szOf P e)).map (z.cells[· % z.cells.size]!)).toList (parts.toList.map fun p => (p.1, ev env p.2)) fun cs =>
           NewV w (.cells ⟨cs⟩ e (0, 0)) fun r w => K (.slice (some ⟨r, 0, none⟩) len len) w
       else (if len * szOf P e = 0 ∧ parts.size = 0 then NewV w (.cells #[] e (0, 0)) fun r w => K (.slice (some ⟨r, 0, none⟩) len len) w else False)
     | _, _ => False)
  | _ => False
def opI (P : Program) (okf : Ctx) (env : List Value) (o : Oper) (K : Value → World → Prop) (w : World) : Prop :=
  match o.op with
  | .store t a x => drf (ev env a) fun a => stK P t a (ev env x) (fun w => K undef w) w
  | .call c =>
    (match c.callee with
     | .value f => (match ev env f with
       | .func (.func n) first captured =>
         (match okf.fns.contains n with
         | true => CallV P n ⟨first.toList ++ (c.args.toList.map (ev env) ++ captured.toList)⟩ w fun v w => tyB (kdOf P o.type) v fun v => K v w
         | false => sv P (callFunc n ⟨first.toList ++ (c.args.toList.map (ev env) ++ captured.toList)⟩ >>= asVal) (fun v w => tyB (kdOf P o.type) v fun v => K v w) w)
       | _ => False)
     | .builtin b => sv P (biS b c.argTypes o.type (c.args.toList.map (ev env)).toArray) (fun v w => tyB (kdOf P o.type) v fun v => K v w) w
     | .invoke _ _ => False)
  | .lookup t x i ok => sv P (Instr.lookup t (ev env x) (ev env i) ok) (fun v w => tyB (kdOf P o.type) v fun v => K v w) w
  | .mapUpdate t m k x | .insert t m k x => sv P (Instr.mapUpdate t (ev env m) (ev env k) (ev env x)) (fun _ w => K undef w) w
  | .mapEntry t m k => sv P (Instr.mapEntry t (ev env m) (ev env k)) (fun v w => tyB (kdOf P o.type) v fun v => K v w) w
  | .entryStore t m s x => sv P (Instr.entryStore t (ev env m) (ev env s) (ev env x)) (fun _ w => K undef w) w
  | .range t x => sv P (Instr.range t (ev env x)) (fun v w => K v w) w
  | .next it s => sv P (Instr.next (ev env it) s o.type) (fun v w => nextB v fun v => K v w) w
  | .entry it => sv P (Instr.entry (ev env it)) (fun v w => entB v fun v => K v w) w
  | .makeSlice t l c => sv P (Instr.makeSlice t (ev env l) (ev env c)) (fun v w => tyB (.s (.c .sl)) v fun v => K v w) w
  | .convert s d x => sv P (convert s d (ev env x)) (fun v w => tyB (kdOf P d) v fun v => K v w) w
  | .typeAssert x xt at_ ok => sv P (Instr.typeAssert (ev env x) xt at_ ok) (fun v w => tyB (kdOf P o.type) v fun v => K v w) w
  | .buildSlice t len parts => bslI P env t len parts K w
  | .alloc _ | .box .. | .makeMap .. => sv P (execOp (ev env) o >>= asVal) K w
  | _ => False

/-- the functions that may be called by their number -/
def okFn (P : Program) (n : Nat) : Bool :=
  match P.funcs[n]? with
  | some fn => fn.name != "runtime.NumGoroutine" && fn.body.isSome
  | none => false

section
variable {P : Program}
theorem stCells_sound {a : Addr} : ∀ {vs : List Value} {i : Nat} {K : World → Prop} {w : World}, stCells a i vs K w → ∃ w', (storeCells a vs i).run P w = .ok () w' ∧ K w' := by
  intro vs
  induction vs with
  | nil => intro i K w h; exact ⟨w, rfl, h⟩
  | cons v vs ih =>
    intro i K w h
    obtain ⟨h1, ⟨u, h2⟩, h3, h⟩ := h
    obtain ⟨w', hr, hK⟩ := ih h
    refine ⟨w', ?_, hK⟩
    rw [storeCells, Sem.run_bind, run_store P w _ v .plain (by cases v <;> simp_all [oneC, Value.oneCell'])]
    simp [h2, h3, hr]
theorem stK_sound {t : TypeId} {a : Addr} {v : Value} {K : World → Prop} {w : World} (h : stK P t a v K w) :
    ∃ w', (storeVar t a v).run P w = .ok () w' ∧ K w' := by
  unfold stK at h
  split at h
  · rename_i hk ha
    split at h
    · rename_i hs
      have hv : v.cells = #[v] := by cases v <;> first | rfl | (simp [StC, oneC] at h)
      obtain ⟨w', hr, hK⟩ := stCells_sound (P := P) (a := a) (vs := [v]) (i := 0) (K := K) (w := w) (by
        have : a.add 0 = a := rfl
        simpa [stCells, this] using h)
      exact ⟨w', by simp [storeVar, hv, run_sizeOf hk, hs, hr], hK⟩
    · exact h.elim
  · rename_i hk ha
    split at h
    · rename_i cs
      split at h
      · rename_i hs
        obtain ⟨w', hr, hK⟩ := stCells_sound (P := P) h
        exact ⟨w', by simp [storeVar, Value.cells, run_sizeOf hk, hs, hr], hK⟩
      · exact h.elim
    · exact h.elim
  · exact h.elim
theorem sv_val {s : Sem Value} {f : Value → Next} {K : Value → World → Prop} {w : World} (h : sv P s K w) :
    ∃ v w', (do pure (f (← s)) : Sem Next).run P w = .ok (f v) w' ∧ K v w' := by
  obtain ⟨v, w', hr, hk⟩ := sv_sound s h
  exact ⟨v, w', by simp [hr], hk⟩
theorem callFunc_run {n : Nat} {args : Array Value} {w : World} (h : okFn P n = true) : (callFunc n args).run P w = .ok (.enter n args) w := by
  unfold okFn at h
  split at h
  · rename_i fn hf
    simp only [Bool.and_eq_true, bne_iff_ne, ne_eq] at h
    have h2 : ¬ fn.body = none := by cases hb : fn.body <;> simp_all
    simp [callFunc, hf, h.1, h2]
  · exact absurd h (by simp)
theorem biS_run {b : Builtin} {ts : Array TypeId} {t : TypeId} {cs : Array Bool} {args : Array Value} {w w' : World} {v : Value}
    (h : (biS b ts t args).run P w = .ok v w') : (builtin b ts t cs args).run P w = .ok (.value v) w' := by
  cases b <;> simp only [biS] at h <;> first | (simp [stuck] at h; done) | (simp [builtin, h])
theorem bslI_sound {env : List Value} {t : TypeId} {len : Nat} {parts : Array (Nat × Operand)} {K : Value → World → Prop} {w : World} (h : bslI P env t len parts K w) :
    ∃ v w', (Instr.buildSlice t len (parts.map fun (i, x) => (i, ev env x))).run P w = .ok v w' ∧ K v w' := by
  have hl : (parts.map fun (x : Nat × Operand) => (x.1, ev env x.2)).toList = parts.toList.map fun p => (p.1, ev env p.2) := by simp
  unfold bslI at h
  split at h
  · rename_i e hu
    split at h
    · rename_i z hk hz
      split at h
      · rename_i hs
        obtain ⟨cs, hK, hr⟩ := fillS_sound (place' := fun i => some (i * szOf P e, szOf P e)) (fun i => rfl) h
        refine ⟨_, _, ?_, hK⟩
        have e1 : ¬ len * szOf P e > 2 ^ 24 := by omega
        have e2 : Instr.fill (fun i => some (i * szOf P e, szOf P e)) ((Array.range (len * szOf P e)).map (z.cells[· % z.cells.size]!)) (parts.toList.map fun p => (p.1, ev env p.2)) = some ⟨cs⟩ := hr
        simp only [Instr.buildSlice, Sem.run_bind, run_underlying hu, run_sizeOf hk, Result.andThen_ok, Sem.run_ite]
        rw [if_neg e1]
        simp only [Sem.run_pure, Result.andThen_ok, if_neg hs.2, run_zero hz]
        rw [hl, e2]
        simp [newRow]
      · split at h
        · rename_i hs
          refine ⟨_, _, ?_, h⟩
          have e1 : ¬ len * szOf P e > 2 ^ 24 := by omega
          have e2 : parts = #[] := Array.eq_empty_of_size_eq_zero hs.2
          subst e2
          simp only [Instr.buildSlice, Sem.run_bind, run_underlying hu, run_sizeOf hk, Result.andThen_ok, Sem.run_ite]
          rw [if_neg e1]
          have e3 : (Array.range 0 : Array Nat) = #[] := by apply Array.toList_inj.1; simp
          simp [hs.1, Instr.fill, newRow, e3]
        · exact h.elim
    · exact h.elim
  · exact h.elim
theorem opI_sound {okf : Ctx} (hok : ∀ n, okf.fns.contains n = true → okFn P n = true) {env : List Value} {o : Oper} {K : Value → World → Prop} {w : World}
    (h : opI P okf env o K w) {next : Act → World → Prop} {Q : Exit → Act → World → Prop} (hn : ∀ v w', K v w' → next (act (putD env o.dst v)) w') :
    o.wp P (act env) w next Q := by
  have fin : ∀ (v : Value) (w' : World), K v w' → (execOp (ev env) o).run P w = .ok (.value v) w' → o.wp P (act env) w next Q := by
    intro v w' hK hr
    unfold Oper.wp
    rw [ev_eq, hr, Oper.upon_value, act_put]
    exact hn _ _ hK
  have finU : ∀ (w' : World), K undef w' → (execOp (ev env) o).run P w = .ok .skip w' → o.wp P (act env) w next Q := by
    intro w' hK hr
    unfold Oper.wp
    rw [ev_eq, hr, Oper.upon_skip, act_put]
    exact hn _ _ hK
  unfold opI at h
  split at h
  · rename_i t a x ho
    obtain ⟨a', he, h⟩ := drf_ex h
    obtain ⟨w', hr, hK⟩ := stK_sound h
    exact finU w' hK (by simp [execOp, ho, he, Instr.storeAt, Instr.sureAddr, hr])
  · rename_i c ho
    split at h
    · rename_i f hc
      split at h
      · rename_i n first captured hf
        have hr : (execOp (ev env) o).run P w = (callFunc n ⟨first.toList ++ (c.args.toList.map (ev env) ++ captured.toList)⟩).run P w := by
          have e1 : (resolve (ev env) c o.type).run P w = .ok { target := .fn (.func n) captured, args := first ++ c.args.map (ev env) } w := by
            simp [resolve, hc, hf, Deferred.ofValue]
          simp only [execOp, ho, Sem.run_bind, e1, Result.andThen_ok]
          simp only [invoke]
          congr 2
          apply Array.toList_inj.1
          simp
        split at h
        · rename_i hokn
          rw [callFunc_run (hok n (by simpa using hokn))] at hr
          unfold Oper.wp
          rw [ev_eq, hr, Oper.upon_enter]
          refine Calls.mono h ?_
          rintro e w' ⟨v, rfl, hv⟩
          show next ((act env).put o.dst v) w'
          rw [act_put]
          exact hn _ _ (tyB_elim hv)
        · obtain ⟨v, w', hr2, hK⟩ := sv_sound _ h
          refine fin v w' (tyB_elim hK) ?_
          rw [hr]
          rw [Sem.run_bind] at hr2
          cases hx : (callFunc n ⟨first.toList ++ (c.args.toList.map (ev env) ++ captured.toList)⟩).run P w with
          | halt x w' => rw [hx] at hr2; simp at hr2
          | ok m w'' =>
            rw [hx] at hr2
            cases m <;> simp [asVal] at hr2
            obtain ⟨rfl, rfl⟩ := hr2
            rfl
      · exact h.elim
    · rename_i b hc
      obtain ⟨v, w', hr, hK⟩ := sv_sound _ h
      refine fin v w' (tyB_elim hK) ?_
      obtain ⟨cs, e1⟩ : ∃ cs, (resolve (ev env) c o.type).run P w = .ok { target := .builtin b c.argTypes o.type cs, args := c.args.map (ev env) } w :=
        ⟨_, by simp only [resolve, hc]; rfl⟩
      simp only [execOp, ho, Sem.run_bind, e1, Result.andThen_ok, invoke]
      refine biS_run ?_
      have e2 : (c.args.toList.map (ev env)).toArray = c.args.map (ev env) := by apply Array.toList_inj.1; simp
      rw [← e2]; exact hr
    · exact h.elim
  · rename_i t x i ok ho
    obtain ⟨v, w', hr, hK⟩ := sv_sound _ h
    exact fin v w' (tyB_elim hK) (by simp [execOp, ho, hr])
  · rename_i t m k x ho
    obtain ⟨v, w', hr, hK⟩ := sv_sound _ h
    exact finU w' hK (by simp [execOp, ho, hr])
  · rename_i t m k x ho
    obtain ⟨v, w', hr, hK⟩ := sv_sound _ h
    exact finU w' hK (by simp [execOp, ho, hr])
  · rename_i t m k ho
    obtain ⟨v, w', hr, hK⟩ := sv_sound _ h
    exact fin v w' (tyB_elim hK) (by simp [execOp, ho, hr])
  · rename_i t m s x ho
    obtain ⟨v, w', hr, hK⟩ := sv_sound _ h
    exact finU w' hK (by simp [execOp, ho, hr])
  · rename_i t x ho
    obtain ⟨v, w', hr, hK⟩ := sv_sound _ h
    exact fin v w' hK (by simp [execOp, ho, hr])
  · rename_i it s ho
    obtain ⟨v, w', hr, hK⟩ := sv_sound _ h
    refine fin v w' ?_ (by simp [execOp, ho, hr])
    rcases hK with ⟨rfl, hK⟩ | ⟨_, _, rfl, hK⟩ <;> exact hK
  · rename_i it ho
    obtain ⟨v, w', hr, hK⟩ := sv_sound _ h
    refine fin v w' ?_ (by simp [execOp, ho, hr])
    obtain ⟨_, _, rfl, hK⟩ := hK
    exact hK
  · rename_i t l c ho
    obtain ⟨v, w', hr, hK⟩ := sv_sound _ h
    exact fin v w' (tyB_elim hK) (by simp [execOp, ho, hr])
  · rename_i s d x ho
    obtain ⟨v, w', hr, hK⟩ := sv_sound _ h
    exact fin v w' (tyB_elim hK) (by simp [execOp, ho, hr])
  · rename_i x xt at_ ok ho
    obtain ⟨v, w', hr, hK⟩ := sv_sound _ h
    exact fin v w' (tyB_elim hK) (by simp [execOp, ho, hr])
  · rename_i t len parts ho
    obtain ⟨v, w', hr, hK⟩ := bslI_sound h
    refine fin v w' hK ?_
    have e : execOp (ev env) o = (do pure (.value (← Instr.buildSlice t len (parts.map fun (i, x) => (i, ev env x)))) : Sem Next) := by simp only [execOp, ho]
    rw [e]; simp [hr]
  iterate 3
    · obtain ⟨v, w', hr, hK⟩ := sv_sound _ h
      refine fin v w' hK ?_
      rw [Sem.run_bind] at hr
      cases hx : (execOp (ev env) o).run P w with
      | halt x w' => rw [hx] at hr; simp at hr
      | ok n w'' =>
        rw [hx] at hr
        cases n <;> simp [asVal] at hr
        obtain ⟨rfl, rfl⟩ := hr
        rfl
  · exact h.elim
end
end Go.Vc
