/-
  A part of the proof that two events of one line are one event: the calculus that follows known memory by computing, and its soundness. By an AI agent.
-/
import Derived.Test.YtfmmpnaljkdigaaGreatDoorVc3
set_option linter.unusedVariables false
set_option linter.unusedSimpArgs false
namespace Go.Vc
open Go
section
variable {P : Program} {R : Addr → Value → Prop} {S : World → Prop}

theorem idxS_sound {t : TypeId} {x i : Value} {K : Value → Prop} (h : idxS P t x i K) : ∃ v, K v ∧ ∀ w, (Instr.indexAt t x i).run P w = .ok v w := by
  unfold idxS at h
  split at h
  · rename_i e base len cap k n hu
    split at h
    · rename_i hk
      obtain ⟨a, rfl, h0, h1, hK⟩ := h
      refine ⟨_, hK, fun w => ?_⟩
      have := run_sizeOf hk w
      simp [Instr.indexAt, asIntOf, run_underlying hu, h0, h1, this]
    · exact h.elim
  · rename_i len e x k n hu
    split at h
    · rename_i hk
      obtain ⟨a, rfl, h0, h1, hK⟩ := drf_ex h
      refine ⟨_, hK, fun w => ?_⟩
      have := run_sizeOf hk w
      simp [Instr.indexAt, asIntOf, run_underlying hu, Instr.sureAddr, h0, h1, this]
    · exact h.elim
  · exact h.elim
theorem run_isAgg {t : TypeId} (h : known P t = true) (w : World) : (isAgg t).run P w = .ok (aggT P t) w := by
  obtain ⟨d, hd⟩ := known_un h
  unfold isAgg aggT
  simp only [Sem.run_bind, run_underlying hd, hd, Result.andThen_ok]
  cases d <;> rfl
theorem run_part {t : TypeId} (h : known P t = true) (cs : Array Value) (off : Nat) (w : World) :
    (part t cs off).run P w = if aggT P t then .ok (.agg (cs.extract off (off + szOf P t))) w else (match cs[off]? with | some v => .ok v w | none => .halt (.stuck "part: no such cell") w) := by
  unfold part
  simp only [Sem.run_bind, run_isAgg h, Result.andThen_ok]
  cases aggT P t
  · simp only [Bool.false_eq_true, if_false]
    cases cs[off]? <;> rfl
  · simp [run_sizeOf h]
theorem byteAt_some {s : ByteArray} {i : Nat} (h : i < s.size) : s[i]? = some (UInt8.ofNat (byteAt s i)) ∧ byteAt s i = (s[i]).toNat := by
  have e : byteAt s i = (s[i]).toNat := by
    unfold byteAt
    have : i < s.data.size := h
    simp only [Array.getD, this, dif_pos]
    rfl
  refine ⟨?_, e⟩
  rw [e]
  simp [h]
theorem ixS_sound {t : TypeId} {x i : Value} {K : Value → Prop} (h : ixS P t x i K) : ∃ v, K v ∧ ∀ w, (Instr.index t x i).run P w = .ok v w := by
  unfold ixS at h
  split at h
  · rename_i s k n hu
    obtain ⟨h0, h1, hK⟩ := h
    refine ⟨_, hK, fun w => ?_⟩
    have hl : n.toNat < s.size := by omega
    have := (byteAt_some hl)
    simp only [Instr.index, asIntOf, Sem.run_bind, Sem.run_pure, Result.andThen_ok, run_underlying hu, h0, if_true]
    rw [this.1]
    simp [this.2]
  · rename_i len e cs k n hu
    split at h
    · rename_i hk
      obtain ⟨h0, h1, hK⟩ := h
      split at hK
      · rename_i ha
        obtain ⟨vs, hx, hK⟩ := tel_ex hK
        refine ⟨_, hK, fun w => ?_⟩
        simp [Instr.index, asIntOf, run_underlying hu, h0, h1, run_sizeOf hk, run_part hk, ha, hx]
      · rename_i ha
        obtain ⟨v, hx, hK⟩ := tel1_ex hK
        refine ⟨_, hK, fun w => ?_⟩
        simp [Instr.index, asIntOf, run_underlying hu, h0, h1, run_sizeOf hk, run_part hk, ha, hx]
    · exact h.elim
  · exact h.elim
theorem hiS_ex {env : List Value} {len y : Nat} {o : Option Operand} {K : Nat → Prop} (h : hiS env len y o K) :
    (o = none ∧ K len) ∨ ∃ x k i, o = some x ∧ ev env x = .int k i ∧ 0 ≤ i ∧ i ≤ (y : Int) ∧ K i.toNat := by
  cases o with
  | none => exact .inl ⟨rfl, h⟩
  | some x =>
    simp only [hiS] at h
    split at h
    · rename_i k i he
      exact .inr ⟨x, k, i, rfl, he, h.1, h.2.1, h.2.2⟩
    · exact h.elim
theorem loS_ex {env : List Value} {y : Nat} {o : Option Operand} {K : Nat → Prop} (h : loS env y o K) :
    (o = none ∧ K 0) ∨ ∃ x k i, o = some x ∧ ev env x = .int k i ∧ 0 ≤ i ∧ i ≤ (y : Int) ∧ K i.toNat := by
  cases o with
  | none => exact .inl ⟨rfl, h⟩
  | some x =>
    simp only [loS] at h
    split at h
    · rename_i k i he
      exact .inr ⟨x, k, i, rfl, he, h.1, h.2.1, h.2.2⟩
    · exact h.elim
theorem bounds_sound {isSlice : Bool} {env : List Value} {len cap : Nat} {lo hi : Option Operand} {K : Nat → Nat → Prop}
    (h : hiS env len cap hi fun h => loS env h lo fun l => K l h) :
    ∃ l h, K l h ∧ ∀ w, (Instr.sliceBounds isSlice len cap (lo.map (ev env)) (hi.map (ev env)) none).run P w = .ok (l, h, cap) w := by
  rcases hiS_ex h with ⟨rfl, h⟩ | ⟨x, k, i, rfl, he, h0, h1, h⟩ <;>
  rcases loS_ex h with ⟨rfl, h⟩ | ⟨x', k', i', rfl, he', h0', h1', h⟩
  · exact ⟨_, _, h, fun w => by simp [Instr.sliceBounds]⟩
  · exact ⟨_, _, h, fun w => by simp [Instr.sliceBounds, he', run_sliceBound _ _ _ _ _ h0' h1']⟩
  · exact ⟨_, _, h, fun w => by simp [Instr.sliceBounds, he, run_sliceBound _ _ _ _ _ h0 h1]⟩
  · exact ⟨_, _, h, fun w => by simp [Instr.sliceBounds, he, he', run_sliceBound _ _ _ _ _ h0 h1, run_sliceBound _ _ _ _ _ h0' h1']⟩
theorem slS_sound {env : List Value} {t : TypeId} {x : Value} {lo hi : Option Operand} {K : Value → Prop} (h : slS P env t x lo hi K) :
    ∃ v, K v ∧ ∀ w, (Instr.sliceAt t x (lo.map (ev env)) (hi.map (ev env)) none).run P w = .ok v w := by
  unfold slS at h
  split at h
  · rename_i s hu
    obtain ⟨l, h', hK, hr⟩ := bounds_sound (P := P) (isSlice := false) (K := fun l h => K (.string (s.extract l h))) h
    exact ⟨_, hK, fun w => by simp [Instr.sliceAt, Instr.slice, run_underlying hu, hr]⟩
  · rename_i e a len cap hu
    split at h
    · rename_i hk
      obtain ⟨l, h', hK, hr⟩ := bounds_sound (P := P) (isSlice := true) (K := fun l h => K (.slice (if cap = l then a else a.map (·.add (l * szOf P e))) (h - l) (cap - l))) h
      exact ⟨_, hK, fun w => by simp [Instr.sliceAt, Instr.slice, run_underlying hu, hr, run_sizeOf hk]⟩
    · exact h.elim
  · rename_i n e p hu
    split at h
    · rename_i hk
      obtain ⟨a, rfl, h⟩ := h
      obtain ⟨l, h', hK, hr⟩ := bounds_sound (P := P) (isSlice := false) (K := fun l h => K (.slice (some (if n = l then a else a.add (l * szOf P e))) (h - l) (n - l))) h
      exact ⟨_, hK, fun w => by simp [Instr.sliceAt, Instr.sureAddr, run_underlying hu, hr, run_sizeOf hk]⟩
    · exact h.elim
  · exact h.elim
theorem ldCells_sound (hR : ∀ a v, R a v → ∀ w, S w → w.cell? a = some v) {a : Addr} : ∀ {cs : List Ck} {i : Nat} {K : List Value → Prop}, ldCells R a i cs K → ∃ vs, K vs ∧ ∀ w, S w → ∀ acc, (loadCellsFrom a i cs.length acc).run P w = .ok (acc ++ vs.toArray) w := by
  intro cs
  induction cs with
  | nil => intro i K h; exact ⟨[], h, fun w _ acc => by simp [loadCellsFrom]⟩
  | cons c cs ih =>
    intro i K h
    obtain ⟨v, hv, h⟩ := tel1_ex h
    obtain ⟨vs, hK, hr⟩ := ih h
    refine ⟨v :: vs, hK, fun w hw acc => ?_⟩
    simp [loadCellsFrom, hR _ _ hv w hw, hr w hw]
theorem ldK_sound (hR : ∀ a v, R a v → ∀ w, S w → w.cell? a = some v) {t : TypeId} {a : Addr} {K : Value → Prop} (h : ldK P R t a K) : ∃ v, K v ∧ ∀ w, S w → (loadVar t a).run P w = .ok v w := by
  unfold ldK at h
  split at h
  · rename_i hk ha
    obtain ⟨v, hv, hK⟩ := tel1_ex h
    exact ⟨v, hK, fun w hw => by simp [loadVar, run_isAgg hk, ha, hR _ _ hv w hw]⟩
  · rename_i hk ha
    split at h
    · rename_i hl
      obtain ⟨vs, hK, hr⟩ := ldCells_sound (P := P) hR h
      refine ⟨_, hK, fun w hw => ?_⟩
      have := hr w hw #[]
      rw [hl] at this
      simp [loadVar, run_isAgg hk, ha, run_sizeOf hk, loadCells, this]
    · exact h.elim
  · exact h.elim
theorem putMany_eq (off : Nat) : ∀ (cs : List (Value × Nat)) (cells : List Value),
    (cs.foldl (fun l (c, j) => put l (off + j) c) cells).toArray = cs.foldl (fun (a : Array Value) (c, j) => a.setIfInBounds (off + j) c) cells.toArray := by
  intro cs
  induction cs with
  | nil => intro cells; rfl
  | cons c cs ih => intro cells; simp only [List.foldl_cons]; rw [ih, put_eq]
theorem putMany_len (off : Nat) : ∀ (cs : List (Value × Nat)) (cells : List Value), (cs.foldl (fun l (c, j) => put l (off + j) c) cells).length = cells.length := by
  intro cs
  induction cs with
  | nil => intro cells; rfl
  | cons c cs ih =>
    intro cells
    simp only [List.foldl_cons]; rw [ih]
    have : ∀ (e : List Value) (i : Nat) (x : Value), (put e i x).length = e.length := by
      intro e
      induction e with
      | nil => intro i x; rfl
      | cons v vs ih => intro i x; cases i <;> simp [put, ih]
    exact this _ _ _
theorem one1_elim {c : Ck} {v : Value} {K : Prop} (h : one1 c v K) : oneC v = true ∧ K := by
  unfold one1 at h
  split at h
  · exact h
  · split at h
    · rename_i ho; exact ⟨ho, h⟩
    · exact h.elim
theorem cells_one {v : Value} (h : oneC v = true) : v.cells = #[v] := by cases v <;> first | rfl | (simp [oneC] at h)
theorem fill_cons {place : Nat → Option (Nat × Nat)} {cells : Array Value} {i off size : Nat} {v : Value} {rest : List (Nat × Value)} (h : place i = some (off, size))
    (h1 : v.cells.size = size) (h2 : off + v.cells.size ≤ cells.size) :
    Instr.fill place cells ((i, v) :: rest) = Instr.fill place (v.cells.zipIdx.foldl (fun cs (c, j) => cs.setIfInBounds (off + j) c) cells) rest := by
  rw [Instr.fill]
  simp only [h]
  split
  · rename_i hh
    simp only [Bool.or_eq_true, decide_eq_true_eq] at hh
    omega
  · rfl
theorem fillS_sound {place : Nat → Option (TypeId × Nat)} {place' : Nat → Option (Nat × Nat)} (hp : ∀ i, place' i = (place i).map fun x => (x.2, szOf P x.1)) :
    ∀ {parts : List (Nat × Value)} {cells : List Value} {K : List Value → Prop}, fillS P place cells parts K → ∃ cs, K cs ∧ Instr.fill place' ⟨cells⟩ parts = some ⟨cs⟩ := by
  intro parts
  induction parts with
  | nil => intro cells K h; exact ⟨cells, h, rfl⟩
  | cons p parts ih =>
    obtain ⟨i, v⟩ := p
    intro cells K h
    simp only [fillS] at h
    split at h
    · exact h.elim
    · rename_i ft off hpl
      have hp' : place' i = some (off, szOf P ft) := by rw [hp, hpl]; rfl
      split at h
      · split at h
        · rename_i cs
          split at h
          · rename_i hc
            obtain ⟨r, hK, hr⟩ := ih h
            refine ⟨r, hK, ?_⟩
            rw [fill_cons (v := .agg cs) hp' (by simpa [Value.cells] using hc.1) (by simpa [Value.cells] using hc.2), ← hr]
            congr 1
            have := putMany_eq off cs.toList.zipIdx cells
            simp only [putMany]
            refine Eq.trans ?_ this.symm
            rw [← Array.foldl_toList]
            simp [Value.cells]
          · exact h.elim
        · exact h.elim
      · split at h
        · rename_i hs
          obtain ⟨ho, h⟩ := one1_elim h
          obtain ⟨r, hK, hr⟩ := ih h
          refine ⟨r, hK, ?_⟩
          rw [fill_cons hp' (by simp [cells_one ho, hs.1]) (by simpa [cells_one ho] using hs.2), ← hr]
          congr 1
          have := put_eq cells off v
          simp [this, cells_one ho]
        · exact h.elim
      · exact h.elim
theorem run_zero {t : TypeId} {z : Value} (h : zeroOf P t = some z) (w : World) : (zeroValue t).run P w = .ok z w := by
  unfold zeroOf at h
  cases hi : P.info? t with
  | none => simp [hi] at h
  | some i => simp [hi] at h; simp [zeroValue, typeInfo, hi, h]
theorem run_places (w : World) : ∀ (fs : List Field), fs.all (fun f => known P f.type) = true →
    (fs.mapM fun f => do pure (f.offset, ← sizeOf f.type) : Sem (List (Nat × Nat))).run P w = .ok (fs.map fun f => (f.offset, szOf P f.type)) w := by
  intro fs
  induction fs with
  | nil => intro _; rfl
  | cons f fs ih =>
    intro h
    simp only [List.all_cons, Bool.and_eq_true] at h
    simp [List.mapM_cons, run_sizeOf h.1]
    have := ih h.2
    simp at this
    simp [this]
theorem buildS_sound {env : List Value} {t : TypeId} {parts : Array (Nat × Operand)} {K : Value → Prop} (h : buildS P env t parts K) :
    ∃ v, K v ∧ ∀ w, (Instr.build t (parts.map fun (i, x) => (i, ev env x))).run P w = .ok v w := by
  unfold buildS at h
  have hl : (parts.map fun (x : Nat × Operand) => (x.1, ev env x.2)).toList = parts.toList.map fun p => (p.1, ev env p.2) := by simp
  split at h
  · rename_i z fs hz hu
    split at h
    · rename_i hk
      obtain ⟨cs, hK, hr⟩ := fillS_sound (place' := fun i => ((fs.map fun f => (f.offset, szOf P f.type))[i]? : Option (Nat × Nat))) (fun i => by
        simp only [Array.getElem?_map, Option.map_map]; cases fs[i]? <;> rfl) h
      refine ⟨_, hK, fun w => ?_⟩
      have hm : (fs.mapM fun f => do pure (f.offset, ← sizeOf f.type) : Sem (Array (Nat × Nat))).run P w = .ok (fs.map fun f => (f.offset, szOf P f.type)) w := by
        have h1 := run_places (P := P) w fs.toList hk
        have h2 : (Array.toList <$> (fs.mapM fun f => do pure (f.offset, ← sizeOf f.type) : Sem (Array (Nat × Nat)))).run P w = .ok (fs.toList.map fun f => (f.offset, szOf P f.type)) w := by
          rw [Array.toList_mapM]; exact h1
        rw [Sem.run_map] at h2
        cases hx : (fs.mapM fun f => do pure (f.offset, ← sizeOf f.type) : Sem (Array (Nat × Nat))).run P w with
        | halt x w' => rw [hx] at h2; simp at h2
        | ok a w' =>
          rw [hx] at h2
          simp only [Result.andThen_ok, Result.ok.injEq] at h2
          obtain ⟨h3, rfl⟩ := h2
          congr 1
          apply Array.toList_inj.1
          simpa using h3
      simp only [Instr.build, Sem.run_bind, run_zero hz, run_underlying hu, hm, Result.andThen_ok]
      rw [hl]
      have e : Instr.fill (fun x => (fs.map fun f => (f.offset, szOf P f.type))[x]?) z.cells (parts.toList.map fun p => (p.1, ev env p.2)) = some ⟨cs⟩ := hr
      rw [e]; rfl
    · exact h.elim
  · rename_i z n e hz hu
    split at h
    · rename_i hk
      obtain ⟨cs, hK, hr⟩ := fillS_sound (place' := fun i => some (i * szOf P e, szOf P e)) (fun i => rfl) h
      refine ⟨_, hK, fun w => ?_⟩
      simp only [Instr.build, Sem.run_bind, run_zero hz, run_underlying hu, run_sizeOf hk, Result.andThen_ok]
      rw [hl]
      have e : Instr.fill (fun i => some (i * szOf P e, szOf P e)) z.cells (parts.toList.map fun p => (p.1, ev env p.2)) = some ⟨cs⟩ := hr
      rw [e]; rfl
    · exact h.elim
  · exact h.elim
theorem opS_sound (hR : ∀ a v, R a v → ∀ w, S w → w.cell? a = some v) {env : List Value} {o : Oper} {K : Value → Prop} (h : opS P R env o K) : ∃ v, K v ∧ ∀ w, S w → (execOp (ev env) o).run P w = .ok (.value v) w := by
  unfold opS at h
  split at h
  · rename_i x ho; exact ⟨_, h, fun w _ => by simp [execOp, ho]⟩
  · rename_i x ho; exact ⟨_, h, fun w _ => by simp [execOp, ho]⟩
  · rename_i op t x y _ ho; exact binS_sound hR ho h
  · rename_i t x i ho
    obtain ⟨v, hK, hr⟩ := idxS_sound h
    exact ⟨v, hK, fun w _ => by simp [execOp, ho, hr w]⟩
  · rename_i t x i ho
    obtain ⟨v, hK, hr⟩ := ixS_sound h
    exact ⟨v, splitIf_elim hK, fun w _ => by simp [execOp, ho, hr w]⟩
  · rename_i t x lo hi ho
    obtain ⟨v, hK, hr⟩ := slS_sound h
    exact ⟨v, hK, fun w _ => by simp [execOp, ho, hr w]⟩
  · rename_i t a ho
    obtain ⟨a', he, h⟩ := drf_ex h
    obtain ⟨v, hK, hr⟩ := ldK_sound hR h
    exact ⟨v, splitIf_elim hK, fun w hw => by simp [execOp, ho, he, Instr.loadAt, Instr.sureAddr, hr w hw]⟩
  · rename_i s x f ho
    obtain ⟨a', he, h⟩ := drf_ex h
    obtain ⟨v, hK, hr⟩ := ss_sound hR _ h
    exact ⟨v, hK, fun w hw => by simp [execOp, ho, he, hr w hw]⟩
  · rename_i x ho
    obtain ⟨a', he, h⟩ := drf_ex h
    exact ⟨_, h, fun w hw => by simp [execOp, ho, he]⟩
  · rename_i t parts ho
    obtain ⟨v, hK, hr⟩ := buildS_sound h
    exact ⟨v, hK, fun w _ => by
      have e : execOp (ev env) o = (do pure (.value (← Instr.build t (parts.map fun (i, x) => (i, ev env x)))) : Sem Next) := by simp only [execOp, ho]
      rw [e]; exact run_val _ _ _ _ (hr w)⟩
  · obtain ⟨v, hK, hr⟩ := gen_sound hR h
    exact ⟨v, splitIf_elim hK, hr⟩
end
end Go.Vc
