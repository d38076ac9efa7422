/-
  A part of the proof of the statement PubNumbersSaid, in Lean: Sy2, Sy3, Sy4, Sy5, Sy6, Sy7. By an AI agent.
-/
import Derived.Test.YtjfpofjppjaofaaGreatP01
set_option linter.unusedVariables false
set_option linter.unusedSimpArgs false
set_option maxRecDepth 100000
/-! A part of the proof that two events of one line are one event: the calculus that follows known memory by computing, and its soundness. By an AI agent. -/

namespace Go.Vc
open Go
/-! ## the words of the state, said in values -/
theorem denE_nth (env : List SV) (n : Nat) : (nthS env n).den = nth (denE env) n := by
  induction env generalizing n with
  | nil => rfl
  | cons v vs ih => cases n with
    | zero => rfl
    | succ n => exact ih n
theorem denE_put (env : List SV) (n : Nat) (s : SV) : denE (putS env n s) = put (denE env) n s.den := by
  induction env generalizing n with
  | nil => rfl
  | cons v vs ih => cases n with
    | zero => rfl
    | succ n => show _ :: denE _ = _ :: put (denE vs) n s.den; rw [ih]
theorem denE_putD (env : List SV) (d : Option Nat) (s : SV) : denE (putSD env d s) = putD (denE env) d s.den := by
  cases d with
  | none => rfl
  | some d => exact denE_put env d s
theorem denE_len (env : List SV) : (denE env).length = env.length := by
  induction env with
  | nil => rfl
  | cons v vs ih => simp [denE, ih]
theorem litV_den (v : Value) : (litV v).den = v := by cases v <;> rfl
theorem ev3_den (env : List SV) (o : Operand) : (ev3 env o).den = ev (denE env) o := by
  cases o with
  | tmp t => exact denE_nth env t
  | const v => exact litV_den v
  | global g => rfl
  | func f => rfl
theorem cvs_den (l : List Value) : denCs (cvs l) = l := by
  induction l with
  | nil => rfl
  | cons v vs ih => simp [cvs, denCs, ih, Cel.den]
theorem litC_den (v : Value) : (litC v).den = v := by cases v <;> rfl
theorem litCs_den (l : List Value) : denCs (litCs l) = l := by
  induction l with
  | nil => rfl
  | cons v vs ih => simp [litCs, denCs, ih, litC_den]
theorem cellsOf_den {s : SV} {cs : List Cel} (h : cellsOf s = some cs) : s.den = .agg ⟨denCs cs⟩ := by
  cases s with
  | a l => cases h; rfl
  | c x =>
    cases x with
    | v v =>
      cases v
      case agg A => cases h; simp [SV.den, Cel.den, cvs_den]
      all_goals exact absurd h (by simp [cellsOf])
    | _ => simp [cellsOf] at h
theorem lenC_eq (l : List Cel) : lenC l = l.length := by
  induction l with
  | nil => rfl
  | cons v vs ih => simp [lenC, ih]
theorem denCs_len (l : List Cel) : (denCs l).length = l.length := by
  induction l with
  | nil => rfl
  | cons v vs ih => simp [denCs, ih]
theorem denCs_get (l : List Cel) (i : Nat) : (denCs l)[i]? = (nthC l i).map Cel.den := by
  induction l generalizing i with
  | nil => rfl
  | cons v vs ih => cases i with
    | zero => rfl
    | succ i => simpa [denCs, nthC] using ih i
theorem nthC_mem {l : List Cel} {i : Nat} {x : Cel} (h : nthC l i = some x) : x ∈ l := by
  induction l generalizing i with
  | nil => cases h
  | cons v vs ih => cases i with
    | zero => cases h; exact List.mem_cons_self
    | succ i => exact List.mem_cons_of_mem _ (ih h)
theorem denCs_put (l : List Cel) (i : Nat) (x : Cel) : denCs (putC l i x) = (denCs l).set i x.den := by
  induction l generalizing i with
  | nil => rfl
  | cons v vs ih => cases i with
    | zero => rfl
    | succ i => simp [denCs, putC, ih]
theorem putC_mem {l : List Cel} {i : Nat} {x y : Cel} (h : y ∈ putC l i x) : y = x ∨ y ∈ l := by
  induction l generalizing i with
  | nil => cases h
  | cons v vs ih => cases i with
    | zero =>
      rcases List.mem_cons.1 h with h | h
      · exact .inl h
      · exact .inr (List.mem_cons_of_mem _ h)
    | succ i =>
      rcases List.mem_cons.1 h with h | h
      · exact .inr (h ▸ List.mem_cons_self)
      · rcases ih h with h | h
        · exact .inl h
        · exact .inr (List.mem_cons_of_mem _ h)
theorem over_mem {l xs : List Cel} {y : Cel} (h : y ∈ over l xs) : y ∈ xs ∨ y ∈ l := by
  induction xs generalizing l with
  | nil => cases l <;> exact .inr h
  | cons x xs ih => cases l with
    | nil => cases h
    | cons v l =>
      rcases List.mem_cons.1 h with h | h
      · exact .inl (h ▸ List.mem_cons_self)
      · rcases ih h with h | h
        · exact .inl (List.mem_cons_of_mem _ h)
        · exact .inr (List.mem_cons_of_mem _ h)
theorem spl_mem {l xs : List Cel} {n : Nat} {y : Cel} (h : y ∈ spl l n xs) : y ∈ xs ∨ y ∈ l := by
  induction n generalizing l with
  | zero => cases l <;> exact over_mem h
  | succ n ih => cases l with
    | nil => cases h
    | cons v l =>
      rcases List.mem_cons.1 h with h | h
      · exact .inr (h ▸ List.mem_cons_self)
      · rcases ih h with h | h
        · exact .inl h
        · exact .inr (List.mem_cons_of_mem _ h)
theorem over_len (l xs : List Cel) : (over l xs).length = l.length := by
  induction xs generalizing l with
  | nil => cases l <;> rfl
  | cons x xs ih => cases l with
    | nil => rfl
    | cons v l => simp [over, ih]
theorem spl_len (l xs : List Cel) (n : Nat) : (spl l n xs).length = l.length := by
  induction n generalizing l with
  | zero => cases l <;> exact over_len _ _
  | succ n ih => cases l with
    | nil => rfl
    | cons v l => simp [spl, ih]
theorem putMany_get (off : Nat) : ∀ (cs : List Value) (cells : List Value), off + cs.length ≤ cells.length → ∀ i : Nat, (putMany cells off cs)[i]? = if off ≤ i ∧ i < off + cs.length then cs[i - off]? else cells[i]? := by
  have put_get : ∀ (e : List Value) (i : Nat) (x : Value) (j : Nat), (put e i x)[j]? = if i = j ∧ i < e.length then some x else e[j]? := by
    intro e
    induction e with
    | nil => intro i x j; simp [put]
    | cons v vs ih =>
      intro i x j
      cases i with
      | zero => cases j <;> simp [put]
      | succ i => cases j with
        | zero => simp [put]
        | succ j => simp [put, ih]
  have plen : ∀ (e : List Value) (i : Nat) (x : Value), (put e i x).length = e.length := by
    intro e
    induction e with
    | nil => intro i x; rfl
    | cons v vs ih => intro i x; cases i <;> simp [put, ih]
  have key : ∀ (cs : List Value) (k : Nat) (cells : List Value), off + k + cs.length ≤ cells.length → ∀ i : Nat,
      ((cs.zipIdx k).foldl (fun l (c, j) => put l (off + j) c) cells)[i]? = if off + k ≤ i ∧ i < off + k + cs.length then cs[i - (off + k)]? else cells[i]? := by
    intro cs
    induction cs with
    | nil => intro k cells h i; simp; omega
    | cons c cs ih =>
      intro k cells h i
      simp only [List.length_cons] at h
      simp only [List.zipIdx_cons, List.foldl_cons]
      rw [ih (k + 1) _ (by rw [plen]; omega) i, put_get]
      simp only [List.length_cons]
      by_cases h1 : off + (k + 1) ≤ i ∧ i < off + (k + 1) + cs.length
      · rw [if_pos h1, if_pos (by omega)]
        rw [show i - (off + k) = i - (off + (k + 1)) + 1 by omega]
        simp
      · rw [if_neg h1]
        by_cases h2 : off + k = i
        · rw [if_pos ⟨h2, by omega⟩, if_pos (by omega)]
          subst h2; simp
        · rw [if_neg (fun h => h2 h.1), if_neg (by omega)]
  intro cs cells h i
  have := key cs 0 cells (by omega) i
  simpa [putMany] using this
theorem over_get (l xs : List Cel) (h : xs.length ≤ l.length) (i : Nat) : (denCs (over l xs))[i]? = if i < xs.length then (denCs xs)[i]? else (denCs l)[i]? := by
  induction xs generalizing l i with
  | nil => cases l <;> simp [over]
  | cons x xs ih => cases l with
    | nil => simp at h
    | cons v l =>
      cases i with
      | zero => simp [over, denCs]
      | succ i => simpa [over, denCs] using ih l (by simpa using h) i
theorem spl_get (l xs : List Cel) (n : Nat) (h : n + xs.length ≤ l.length) (i : Nat) : (denCs (spl l n xs))[i]? = if n ≤ i ∧ i < n + xs.length then (denCs xs)[i - n]? else (denCs l)[i]? := by
  induction n generalizing l i with
  | zero =>
    have : spl l 0 xs = over l xs := by cases l <;> rfl
    rw [this, over_get l xs (by omega)]
    simp
  | succ n ih => cases l with
    | nil => simp at h
    | cons v l =>
      cases i with
      | zero => simp [spl, denCs]
      | succ i =>
        have := ih l (by simp at h; omega) i
        simp only [spl, denCs, List.getElem?_cons_succ]
        rw [this]
        by_cases h1 : n ≤ i ∧ i < n + xs.length
        · rw [if_pos h1, if_pos (by omega), show i + 1 - (n + 1) = i - n by omega]
        · rw [if_neg h1, if_neg (by omega)]
theorem denCs_spl (l xs : List Cel) (n : Nat) (h : n + xs.length ≤ l.length) : denCs (spl l n xs) = putMany (denCs l) n (denCs xs) := by
  apply List.ext_getElem?
  intro i
  rw [spl_get l xs n h, putMany_get n (denCs xs) (denCs l) (by simpa [denCs_len] using h)]
  simp [denCs_len]
theorem denCs_cut (l : List Cel) (o n : Nat) : denCs (cutC l o n) = ((denCs l).drop o).take n := by
  induction l generalizing o n with
  | nil => cases n <;> simp [cutC, denCs]
  | cons v l ih =>
    cases n with
    | zero => cases o <;> simp [cutC, denCs]
    | succ n => cases o with
      | zero => simpa [cutC, denCs] using ih 0 n
      | succ o => simpa [cutC, denCs] using ih o (n + 1)
theorem cutC_mem {l : List Cel} {o n : Nat} {y : Cel} (h : y ∈ cutC l o n) : y ∈ l := by
  induction l generalizing o n with
  | nil => cases n <;> cases h
  | cons v l ih =>
    cases n with
    | zero => cases o <;> cases h
    | succ n => cases o with
      | zero =>
        rcases List.mem_cons.1 h with h | h
        · exact h ▸ List.mem_cons_self
        · exact List.mem_cons_of_mem _ (ih h)
      | succ o => exact List.mem_cons_of_mem _ (ih h)
theorem nthH_eq (H : List Bk) (i : Nat) : nthH H i = H[i]? := by
  induction H generalizing i with
  | nil => rfl
  | cons v vs ih => cases i with
    | zero => rfl
    | succ i => simpa [nthH] using ih i
theorem lenH_eq (H : List Bk) : lenH H = H.length := by
  induction H with
  | nil => rfl
  | cons v vs ih => simp [lenH, ih]
theorem nthH_set (H : List Bk) (i : Nat) (c : Cs) (j : Nat) : nthH (setH H i c) j = if i = j then (nthH H j).map (fun x => ⟨x.b, c, x.T, x.wr⟩) else nthH H j := by
  induction H generalizing i j with
  | nil => simp [setH, nthH]
  | cons v vs ih =>
    cases i with
    | zero => cases j <;> simp [setH, nthH]
    | succ i => cases j with
      | zero => simp [setH, nthH]
      | succ j => simp [setH, nthH, ih]
theorem setH_len (H : List Bk) (i : Nat) (c : Cs) : (setH H i c).length = H.length := by
  induction H generalizing i with
  | nil => rfl
  | cons v vs ih => cases i <;> simp [setH, ih]
theorem fC_eq {x : Cel} {K : Cel → Prop} : fC x K ↔ K x := by cases x <;> exact Iff.rfl
theorem fL_eq {l : List Cel} {K : List Cel → Prop} : fL l K ↔ K l := by
  induction l generalizing K with
  | nil => exact Iff.rfl
  | cons x l ih => simp only [fL, fC_eq, ih]
theorem fS_eq {s : SV} {K : SV → Prop} : fS s K ↔ K s := by
  cases s with
  | c x => simp only [fS, fC_eq]
  | a l => simp only [fS, fL_eq]
theorem fE_eq {l : List SV} {K : List SV → Prop} : fE l K ↔ K l := by
  induction l generalizing K with
  | nil => exact Iff.rfl
  | cons x l ih => simp only [fE, ih]
theorem fCs_eq {c : Cs} {K : Cs → Prop} : fCs c K ↔ K c := by
  cases c with
  | l cs => simp only [fCs, fL_eq]
  | _ => exact Iff.rfl
theorem fH_eq {l : List Bk} {K : List Bk → Prop} : fH l K ↔ K l := by
  induction l generalizing K with
  | nil => exact Iff.rfl
  | cons x l ih => obtain ⟨b, c, T, w⟩ := x; simp only [fH, fCs_eq, ih]

theorem fKs_eq {l : List Ck} {K : List Ck → Prop} : fKs l K ↔ K l := by
  induction l generalizing K with
  | nil => exact Iff.rfl
  | cons x l ih => cases x <;> simp only [fKs, ih]
theorem fG_eq {l : List (Nat × Sk)} {K : List (Nat × Sk) → Prop} : fG l K ↔ K l := by
  induction l generalizing K with
  | nil => exact Iff.rfl
  | cons x l ih =>
    obtain ⟨i, k⟩ := x
    cases k with
    | c k => simp only [fG, ih]
    | a ks => simp only [fG, fKs_eq, ih]

/-! ## what points into a known block says its number -/
def wfC (bs : List Nat) : Cel → Prop
  | .p i b _ _ => bs[i]? = some b
  | .q i b _ _ _ _ => bs[i]? = some b
  | _ => True
def wfCs (bs : List Nat) (l : List Cel) : Prop := ∀ x, x ∈ l → wfC bs x
def wfS (bs : List Nat) : SV → Prop
  | .c x => wfC bs x
  | .a l => wfCs bs l
def wfE (bs : List Nat) (env : List SV) : Prop := ∀ s, s ∈ env → wfS bs s
def bsH (H : List Bk) : List Nat := H.map (·.b)
def wfH (bs : List Nat) (H : List Bk) : Prop := ∀ i x cs, nthH H i = some x → x.cs = .l cs → wfCs bs cs
theorem bsH_get (H : List Bk) (i : Nat) : (bsH H)[i]? = (nthH H i).map (·.b) := by rw [nthH_eq]; simp [bsH]
theorem wfE_nth {bs : List Nat} {env : List SV} (h : wfE bs env) (n : Nat) : wfS bs (nthS env n) := by
  induction env generalizing n with
  | nil => exact trivial
  | cons v vs ih => cases n with
    | zero => exact h _ List.mem_cons_self
    | succ n => exact ih (fun s hs => h s (List.mem_cons_of_mem _ hs)) n
theorem wfE_put {bs : List Nat} {env : List SV} (h : wfE bs env) (n : Nat) {s : SV} (hs : wfS bs s) : wfE bs (putS env n s) := by
  induction env generalizing n with
  | nil => exact h
  | cons v vs ih => cases n with
    | zero =>
      intro x hx
      rcases List.mem_cons.1 hx with rfl | hx
      · exact hs
      · exact h x (List.mem_cons_of_mem _ hx)
    | succ n =>
      intro x hx
      rcases List.mem_cons.1 hx with rfl | hx
      · exact h _ List.mem_cons_self
      · exact ih (fun s hs => h s (List.mem_cons_of_mem _ hs)) n x hx
theorem wfE_putD {bs : List Nat} {env : List SV} (h : wfE bs env) (d : Option Nat) {s : SV} (hs : wfS bs s) : wfE bs (putSD env d s) := by
  cases d with
  | none => exact h
  | some d => exact wfE_put h d hs
theorem wfS_litV (bs : List Nat) (v : Value) : wfS bs (litV v) := by cases v <;> exact trivial
theorem wfS_ev {bs : List Nat} {env : List SV} (h : wfE bs env) (o : Operand) : wfS bs (ev3 env o) := by
  cases o with
  | tmp t => exact wfE_nth h t
  | const v => exact wfS_litV bs v
  | _ => exact trivial
theorem wfCs_cvs (bs : List Nat) (l : List Value) : wfCs bs (cvs l) := by
  induction l with
  | nil => intro x hx; cases hx
  | cons v vs ih =>
    intro x hx
    rcases List.mem_cons.1 hx with rfl | hx
    · exact trivial
    · exact ih x hx
theorem wfCs_lit (bs : List Nat) (l : List Value) : wfCs bs (litCs l) := by
  induction l with
  | nil => intro x hx; cases hx
  | cons v vs ih =>
    intro x hx
    rcases List.mem_cons.1 hx with rfl | hx
    · cases v <;> exact trivial
    · exact ih x hx
theorem wfCs_of {bs : List Nat} {s : SV} {cs : List Cel} (h : cellsOf s = some cs) (hs : wfS bs s) : wfCs bs cs := by
  cases s with
  | a l => cases h; exact hs
  | c x =>
    cases x with
    | v v =>
      cases v
      case agg A => cases h; exact wfCs_cvs _ _
      all_goals exact absurd h (by simp [cellsOf])
    | _ => simp [cellsOf] at h
theorem wfC_mono {bs bs' : List Nat} (h : ∀ (i b : Nat), bs[i]? = some b → bs'[i]? = some b) {x : Cel} (hx : wfC bs x) : wfC bs' x := by
  cases x with
  | p i b l o => exact h _ _ hx
  | q i b l o n c => exact h _ _ hx
  | _ => exact trivial
theorem wfCs_mono {bs bs' : List Nat} (h : ∀ (i b : Nat), bs[i]? = some b → bs'[i]? = some b) {l : List Cel} (hx : wfCs bs l) : wfCs bs' l := fun x hm => wfC_mono h (hx x hm)
theorem wfS_mono {bs bs' : List Nat} (h : ∀ (i b : Nat), bs[i]? = some b → bs'[i]? = some b) {s : SV} (hs : wfS bs s) : wfS bs' s := by
  cases s with
  | c x => exact wfC_mono h hs
  | a l => exact wfCs_mono h hs
theorem wfE_mono {bs bs' : List Nat} (h : ∀ (i b : Nat), bs[i]? = some b → bs'[i]? = some b) {e : List SV} (hs : wfE bs e) : wfE bs' e := fun s hm => wfS_mono h (hs s hm)

/-! ## operations that only compute, or read -/
section
variable {P : Program} {R : Addr → Value → Prop} {Q : World → Prop}
theorem spl3_elim {isb : Bool} {x : Cel} {K : SV → Prop} (h : spl3 isb x K) (bs : List Nat) (hx : wfC bs x) : ∃ s, K s ∧ s.den = x.den ∧ wfS bs s := by
  cases isb with
  | false => exact ⟨_, h, rfl, hx⟩
  | true =>
    cases x with
    | v v =>
      cases v
      case bool b =>
        cases b
        · exact ⟨_, h.2 rfl, rfl, trivial⟩
        · exact ⟨_, h.1 rfl, rfl, trivial⟩
      all_goals exact ⟨_, h, rfl, hx⟩
    | _ => exact ⟨_, h, rfl, hx⟩
/-- what 'loadVar' asks of memory -/
theorem ldL_run {t : TypeId} {cs : List Cel} {o : Nat} {K : SV → Prop} (h : ldL P t cs o K) (bs : List Nat) (hcs : wfCs bs cs) :
    ∃ s, K s ∧ wfS bs s ∧ (∀ (b : Nat) (w : World) T, w.heap[b]? = some (.cells ⟨denCs cs⟩ T (0, 0)) → (loadVar t ⟨b, o, none⟩).run P w = .ok s.den w) ∧ ∀ w, (part t ⟨denCs cs⟩ o).run P w = .ok s.den w := by
  unfold ldL at h
  split at h
  · rename_i hk ha
    split at h
    · rename_i x hx
      obtain ⟨s, hK, hd, hs⟩ := spl3_elim h bs (hcs _ (nthC_mem hx))
      have hg : (⟨denCs cs⟩ : Array Value)[o]? = some x.den := by
        have := denCs_get cs o; rw [hx] at this; simpa using this
      refine ⟨s, hK, hs, fun b w T hb => ?_, fun w => ?_⟩
      · have hc : w.cell? ⟨b, o, none⟩ = some x.den := by rw [cell_blk hb, hg]
        simp [loadVar, run_isAgg hk, ha, hc, hd]
      · rw [run_part hk, ha, hg, hd]; rfl
    · exact h.elim
  · rename_i hk ha
    split at h
    · rename_i hl
      have hl := Nat.le_of_ble_eq_true hl
      rw [lenC_eq] at hl
      have hcut : denCs (cutC cs o (szOf P t)) = ((denCs cs).drop o).take (szOf P t) := denCs_cut cs o _
      have hlen : (denCs (cutC cs o (szOf P t))).length = szOf P t := by rw [hcut]; simp [denCs_len]; omega
      refine ⟨_, h, fun x hx => hcs x (cutC_mem hx), fun b w T hb => ?_, fun w => ?_⟩
      · have hrow : ∀ (n i : Nat) (acc : Array Value), i + n ≤ szOf P t → (loadCellsFrom ⟨b, o, none⟩ i n acc).run P w = .ok (acc ++ (((denCs (cutC cs o (szOf P t))).drop i).take n).toArray) w := by
          intro n
          induction n with
          | zero => intro i acc _; simp [loadCellsFrom]
          | succ n ih =>
            intro i acc hi
            have hi' : i < (denCs (cutC cs o (szOf P t))).length := by omega
            have hc : w.cell? ((⟨b, o, none⟩ : Addr).add i) = some (denCs (cutC cs o (szOf P t)))[i] := by
              rw [add_mk, cell_blk hb]
              have e1 : (denCs (cutC cs o (szOf P t)))[i]? = (denCs cs)[o + i]? := by
                rw [hcut, List.getElem?_take, if_pos (by omega), List.getElem?_drop]
              have e2 : (denCs (cutC cs o (szOf P t)))[i]? = some (denCs (cutC cs o (szOf P t)))[i] := List.getElem?_eq_getElem hi'
              rw [← e2, e1]; simp
            simp only [loadCellsFrom, Sem.run_bind]
            have hl : (load ((⟨b, o, none⟩ : Addr).add i)).run P w = .ok (denCs (cutC cs o (szOf P t)))[i] w := by simp [load, Sem.run, hc]
            rw [hl, Result.andThen_ok, ih (i + 1) _ (by omega)]
            congr 1
            conv => rhs; rw [List.drop_eq_getElem_cons hi', List.take_succ_cons]
            simp
        have := hrow (szOf P t) 0 #[] (by omega)
        have e3 : ((denCs (cutC cs o (szOf P t))).drop 0).take (szOf P t) = denCs (cutC cs o (szOf P t)) := by
          rw [List.drop_zero, List.take_of_length_le (by omega)]
        rw [e3] at this
        simp [loadVar, run_isAgg hk, ha, run_sizeOf hk, loadCells, this, SV.den]
      · rw [run_part hk, ha]
        simp only [if_true, SV.den]
        congr 2
        rw [hcut]
        apply Array.toList_inj.1
        simp
    · exact h.elim
  · exact h.elim
theorem ldRC_run {A : Array Value} : ∀ {ks : List Ck} {o : Nat} {K : List Value → Prop}, ldRC A o ks K → ∃ vs, K vs ∧ vs.length = ks.length ∧ ∀ i, i < ks.length → A[o + i]? = vs[i]? := by
  intro ks
  induction ks with
  | nil => intro o K h; exact ⟨[], h, rfl, fun i hi => by cases hi⟩
  | cons k ks ih =>
    intro o K h
    obtain ⟨v, hv, h⟩ := tel1_ex h
    obtain ⟨vs, hK, hl, hg⟩ := ih h
    refine ⟨v :: vs, hK, by simp [hl], fun i hi => ?_⟩
    cases i with
    | zero => simpa using hv
    | succ i => have := hg i (by simpa using hi); rw [show o + (i + 1) = o + 1 + i by omega, this]; simp
theorem ldR_run {t : TypeId} {A : Array Value} {o : Nat} {K : SV → Prop} (h : ldR P t A o K) (bs : List Nat) :
    ∃ s, K s ∧ wfS bs s ∧ ∀ (b : Nat) (w : World) T, w.heap[b]? = some (.cells A T (0, 0)) → (loadVar t ⟨b, o, none⟩).run P w = .ok s.den w := by
  unfold ldR at h
  split at h
  · rename_i hk ha
    obtain ⟨v, hv, h⟩ := tel1_ex h
    obtain ⟨s, hK, hd, hs⟩ := spl3_elim h bs trivial
    refine ⟨s, hK, hs, fun b w T hb => ?_⟩
    have hc : w.cell? ⟨b, o, none⟩ = some v := by rw [cell_blk hb, hv]
    have hd' : s.den = v := hd
    simp [loadVar, run_isAgg hk, ha, hc, hd']
  · rename_i hk ha
    split at h
    · rename_i hl
      have hl := Nat.eq_of_beq_eq_true hl
      obtain ⟨vs, hK, hlen, hg⟩ := ldRC_run h
      refine ⟨_, hK, trivial, fun b w T hb => ?_⟩
      have hrow : ∀ (n i : Nat) (acc : Array Value), i + n = szOf P t → (loadCellsFrom ⟨b, o, none⟩ i n acc).run P w = .ok (acc ++ (vs.drop i).toArray) w := by
        intro n
        induction n with
        | zero => intro i acc hi; simp [loadCellsFrom]; omega
        | succ n ih =>
          intro i acc hi
          have hi' : i < vs.length := by omega
          have hc : w.cell? ((⟨b, o, none⟩ : Addr).add i) = some vs[i] := by
            rw [add_mk, cell_blk hb, hg i (by omega)]; exact List.getElem?_eq_getElem hi'
          simp only [loadCellsFrom, Sem.run_bind]
          have hl : (load ((⟨b, o, none⟩ : Addr).add i)).run P w = .ok vs[i] w := by simp [load, Sem.run, hc]
          rw [hl, Result.andThen_ok, ih (i + 1) _ (by omega)]
          congr 1
          rw [List.drop_eq_getElem_cons hi']
          simp
      have := hrow (szOf P t) 0 #[] (by omega)
      simp [loadVar, run_isAgg hk, ha, run_sizeOf hk, loadCells, SV.den, Cel.den]
      rw [this]; simp
    · exact h.elim
  · exact h.elim
theorem one3_elim {c : Ck} {x : Cel} {K : Prop} (h : one3 c x K) : oneC x.den = true ∧ K := by
  cases x with
  | v v => exact one1_elim h
  | _ => exact ⟨rfl, h⟩
theorem one1_intro {c : Ck} {v : Value} {K : Prop} (h : oneC v = true) (k : K) : one1 c v K := by
  unfold one1; split
  · exact ⟨h, k⟩
  · rw [h]; exact k
theorem ones3_elim : ∀ {cs : List Ck} {xs : List Cel} {K : Prop}, ones3 cs xs K → (∀ x, x ∈ xs → oneC x.den = true) ∧ K
  | [], [], K, h => ⟨fun x hx => (by cases hx), h⟩
  | [], _ :: _, K, h => h.elim
  | _ :: _, [], K, h => h.elim
  | c :: cs, x :: xs, K, h => by
    obtain ⟨h1, h2⟩ := one3_elim h
    obtain ⟨h3, h4⟩ := ones3_elim h2
    refine ⟨fun y hy => ?_, h4⟩
    rcases List.mem_cons.1 hy with rfl | hy
    · exact h1
    · exact h3 y hy
def denPs : List (Nat × SV) → List (Nat × Value)
  | [] => []
  | (i, s) :: r => (i, s.den) :: denPs r
theorem denPs_ev (env : List SV) (ps : List (Nat × Operand)) : denPs (evps env ps) = ps.map fun p => (p.1, ev (denE env) p.2) := by
  induction ps with
  | nil => rfl
  | cons p ps ih => obtain ⟨i, o⟩ := p; simp [evps, denPs, ih, ev3_den]
theorem wf_evps {bs : List Nat} {env : List SV} (h : wfE bs env) (ps : List (Nat × Operand)) : ∀ x, x ∈ evps env ps → wfS bs x.2 := by
  induction ps with
  | nil => intro x hx; cases hx
  | cons p ps ih =>
    obtain ⟨i, o⟩ := p
    intro x hx
    rcases List.mem_cons.1 hx with rfl | hx
    · exact wfS_ev h o
    · exact ih x hx
theorem fill3_sound {place : Nat → Option (TypeId × Nat)} (bs : List Nat) : ∀ {parts : List (Nat × SV)} {cells : List Cel} {K : List Cel → Prop}, (∀ x, x ∈ parts → wfS bs x.2) → wfCs bs cells → fill3 P place cells parts K →
    fillS P place (denCs cells) (denPs parts) fun vs => ∃ cs, vs = denCs cs ∧ wfCs bs cs ∧ K cs := by
  intro parts
  induction parts with
  | nil => intro cells K _ hc h; exact ⟨cells, rfl, hc, h⟩
  | cons p parts ih =>
    obtain ⟨i, s⟩ := p
    intro cells K hp hc h
    have hs : wfS bs s := hp (i, s) List.mem_cons_self
    have hp' : ∀ x, x ∈ parts → wfS bs x.2 := fun x hx => hp x (List.mem_cons_of_mem _ hx)
    simp only [fill3] at h
    simp only [denPs, fillS]
    split at h
    · exact h.elim
    · rename_i ft off hpl
      simp only [hpl]
      split at h
      · rename_i hk ha
        simp only [hk, ha]
        split at h
        · rename_i cs hcs
          split at h
          · rename_i hh
            simp only [Bool.and_eq_true] at hh
            have h1 := Nat.eq_of_beq_eq_true hh.1
            have h2 := Nat.le_of_ble_eq_true hh.2
            rw [lenC_eq] at h1 h2
            rw [lenC_eq] at h2
            rw [cellsOf_den hcs]
            simp only [List.size_toArray, denCs_len]
            rw [if_pos ⟨h1, h2⟩]
            rw [fL_eq] at h
            have := ih hp' (fun x hx => (spl_mem hx).elim (wfCs_of hcs hs x) (hc x)) h
            rwa [denCs_spl _ _ _ h2] at this
          · exact h.elim
        · exact h.elim
      · rename_i hk ha
        simp only [hk, ha]
        split at h
        · rename_i y
          split at h
          · rename_i hh
            simp only [Bool.and_eq_true] at hh
            have h1 := Nat.eq_of_beq_eq_true hh.1
            have h2 := Nat.le_of_ble_eq_true hh.2
            rw [lenC_eq] at h2
            rw [denCs_len]
            rw [if_pos ⟨h1, h2⟩]
            obtain ⟨h3, h⟩ := one3_elim h
            rw [fL_eq] at h
            refine one1_intro h3 ?_
            have := ih hp' (fun x hx => (putC_mem hx).elim (fun e => e ▸ hs) (hc x)) h
            have e : denCs (putC cells off y) = put (denCs cells) off y.den := by
              rw [denCs_put]
              have : ∀ (l : List Value) (n : Nat) (v : Value), l.set n v = put l n v := by
                intro l
                induction l with
                | nil => intro n v; rfl
                | cons a l ih => intro n v; cases n <;> simp [put, ih]
              exact this _ _ _
            rwa [e] at this
          · exact h.elim
        · exact h.elim
      · exact h.elim
theorem fillS_mono {place : Nat → Option (TypeId × Nat)} : ∀ {parts : List (Nat × Value)} {cells : List Value} {K K' : List Value → Prop}, (∀ v, K v → K' v) → fillS P place cells parts K → fillS P place cells parts K' := by
  intro parts
  induction parts with
  | nil => intro cells K K' hk h; exact hk _ h
  | cons p parts ih =>
    obtain ⟨i, v⟩ := p
    intro cells K K' hk h
    simp only [fillS] at h ⊢
    split at h
    · exact h.elim
    · rename_i ft off hpl
      try simp only [hpl]
      split at h
      · rename_i hkn ha
        try simp only [hkn, ha]
        split at h
        · split at h
          · rename_i hh; rw [if_pos hh]; exact ih hk h
          · exact h.elim
        · exact h.elim
      · rename_i hkn ha
        try simp only [hkn, ha]
        split at h
        · rename_i hh
          rw [if_pos hh]
          obtain ⟨h1, h2⟩ := one1_elim h
          exact one1_intro h1 (ih hk h2)
        · exact h.elim
      · exact h.elim
theorem build3_sound {env : List SV} {t : TypeId} {parts : Array (Nat × Operand)} {K : SV → Prop} (bs : List Nat) (hw : wfE bs env) (h : build3 P env t parts K) :
    buildS P (denE env) t parts fun v => ∃ s, v = s.den ∧ wfS bs s ∧ K s := by
  unfold build3 at h
  unfold buildS
  split at h
  · rename_i z fs hz hu
    simp only [hz, hu]
    split at h
    · rename_i hk
      rw [if_pos hk]
      have := fill3_sound bs (wf_evps hw _) (wfCs_lit bs _) h
      rw [litCs_den, denPs_ev] at this
      exact fillS_mono (fun v ⟨cs, e, hc, hK⟩ => ⟨.a cs, by rw [e]; rfl, hc, hK⟩) this
    · exact h.elim
  · rename_i z n e hz hu
    simp only [hz, hu]
    split at h
    · rename_i hk
      rw [if_pos hk]
      have := fill3_sound bs (wf_evps hw _) (wfCs_lit bs _) h
      rw [litCs_den, denPs_ev] at this
      exact fillS_mono (fun v ⟨cs, e, hc, hK⟩ => ⟨.a cs, by rw [e]; rfl, hc, hK⟩) this
    · exact h.elim
  · exact h.elim
end
end Go.Vc

/-! A part of the proof that two events of one line are one event: the calculus that follows known memory by computing, and its soundness. By an AI agent. -/

namespace Go.Vc
open Go
section
variable {P : Program} {R : Addr → Value → Prop} {Q : World → Prop}
theorem fb_sound (hR : ∀ a v, R a v → ∀ w, Q w → w.cell? a = some v) {env : List SV} {o : Oper} {K : SV → Prop} {bs : List Nat} {f : Value → SV} (hf : ∀ v, (f v).den = v ∧ wfS bs (f v))
    (h : opS P R (denE env) o fun v => K (f v)) : ∃ s, K s ∧ wfS bs s ∧ ∀ w, Q w → (execOp (ev (denE env)) o).run P w = .ok (.value s.den) w := by
  obtain ⟨v, hK, hr⟩ := opS_sound hR h
  exact ⟨f v, hK, (hf v).2, fun w hw => by rw [(hf v).1]; exact hr w hw⟩
theorem f_v (bs : List Nat) (v : Value) : (SV.c (.v v)).den = v ∧ wfS bs (SV.c (.v v)) := ⟨rfl, trivial⟩
theorem f_lit (bs : List Nat) (v : Value) : (litV v).den = v ∧ wfS bs (litV v) := ⟨litV_den v, wfS_litV bs v⟩
theorem f_if (bs : List Nat) (b : Bool) (v : Value) : (litIf b v).den = v ∧ wfS bs (litIf b v) := by
  cases b
  · exact f_v bs v
  · exact f_lit bs v
theorem hiC_hiS {env : List SV} {len y : Nat} {o : Option Operand} {K : Nat → Prop} (h : hiC env len y o K) : hiS (denE env) len y o K := by
  cases o with
  | none => exact h
  | some o =>
    simp only [hiC] at h
    simp only [hiS, ← ev3_den]
    split at h
    · rename_i k n he; rw [he]; exact h
    · exact h.elim
theorem loC_loS {env : List SV} {y : Nat} {o : Option Operand} {K : Nat → Prop} (h : loC env y o K) : loS (denE env) y o K := by
  cases o with
  | none => exact h
  | some o =>
    simp only [loC] at h
    simp only [loS, ← ev3_den]
    split at h
    · rename_i k n he; rw [he]; exact h
    · exact h.elim
theorem hiS_mono {env : List Value} {len y : Nat} {o : Option Operand} {K K' : Nat → Prop} (hk : ∀ n, K n → K' n) (h : hiS env len y o K) : hiS env len y o K' := by
  cases o with
  | none => exact hk _ h
  | some o =>
    simp only [hiS] at h ⊢
    split at h
    · exact ⟨h.1, h.2.1, hk _ h.2.2⟩
    · exact h.elim
theorem loS_mono {env : List Value} {y : Nat} {o : Option Operand} {K K' : Nat → Prop} (hk : ∀ n, (o = none → n = 0) → K n → K' n) (h : loS env y o K) : loS env y o K' := by
  cases o with
  | none => exact hk _ (fun _ => rfl) h
  | some o =>
    simp only [loS] at h ⊢
    split at h
    · exact ⟨h.1, h.2.1, hk _ (fun e => by cases e) h.2.2⟩
    · exact h.elim
theorem sliceAt0_eq (lo : Option Operand) (b cap l o sz : Nat) (h : lo = none → l = 0) : (if cap = l then (⟨b, o, none⟩ : Addr) else (⟨b, o, none⟩ : Addr).add (l * sz)) = ⟨b, sliceAt0 lo cap l o sz, none⟩ := by
  unfold sliceAt0
  cases lo with
  | none => rw [h rfl]; simp [Addr.add]
  | some x =>
    simp only [add_mk]
    split <;> rfl
theorem sil3_sound (hR : ∀ a v, R a v → ∀ w, Q w → w.cell? a = some v) {rd : Nat → Bool} {env : List SV} {H : List Bk} {o : Oper} {K : SV → Prop} (hw : wfE (bsH H) env) (hH : wfH (bsH H) H)
    (hB : ∀ i x A, nthH H i = some x → rd i = true → x.cs.arr = some A → ∀ w, Q w → ∃ T, w.heap[x.b]? = some (.cells A T (0, 0))) (h : sil3 P R rd env H o K) :
    ∃ s, K s ∧ wfS (bsH H) s ∧ ∀ w, Q w → (execOp (ev (denE env)) o).run P w = .ok (.value s.den) w := by
  have fv := fb_sound (P := P) (env := env) (o := o) (K := K) hR (f := fun v => .c (.v v)) (fun v => f_v (bsH H) v)
  have fl := fb_sound (P := P) (env := env) (o := o) (K := K) hR (f := litV) (fun v => f_lit (bsH H) v)
  have fi := fun b => fb_sound (P := P) (env := env) (o := o) (K := K) hR (f := fun v => litIf b v) (fun v => f_if (bsH H) b v)
  unfold sil3 at h
  split at h
  · rename_i x ho; exact ⟨_, h, wfS_ev hw x, fun w _ => by simp [execOp, ho, ev3_den]⟩
  · rename_i x ho; exact ⟨_, h, wfS_ev hw x, fun w _ => by simp [execOp, ho, ev3_den]⟩
  · rename_i c a b ho
    split at h
    · rename_i hc
      have e : ev (denE env) c = .bool true := by rw [← ev3_den, hc]; rfl
      exact ⟨_, h, wfS_ev hw a, fun w _ => by simp [execOp, ho, ev3_den, e, asBool]⟩
    · rename_i hc
      have e : ev (denE env) c = .bool false := by rw [← ev3_den, hc]; rfl
      exact ⟨_, h, wfS_ev hw b, fun w _ => by simp [execOp, ho, ev3_den, e, asBool]⟩
    · exact h.elim
  · rename_i x ho
    split at h
    · rename_i i b l a hx
      have e : ev (denE env) x = .pointer (some ⟨b, a, none⟩) := by rw [← ev3_den, hx]; rfl
      have hwf := wfS_ev hw x; rw [hx] at hwf
      exact ⟨_, h, hwf, fun w _ => by simp [execOp, ho, e, SV.den, Cel.den]⟩
    · exact fv h
  · rename_i s x f ho
    split at h
    · rename_i i b l a hx
      have e : ev (denE env) x = .pointer (some ⟨b, a, none⟩) := by rw [← ev3_den, hx]; rfl
      have hwf := wfS_ev hw x; rw [hx] at hwf
      split at h
      · rename_i fs hu
        split at h
        · rename_i fd hf
          split at h
          · rename_i hk
            simp only [Bool.and_eq_true, Bool.not_eq_true'] at hk
            have hz : szOf P fd.type ≠ 0 := fun e0 => by rw [e0] at hk; simp at hk
            refine ⟨_, h, hwf, fun w _ => ?_⟩
            simp [execOp, ho, e, Instr.fieldAt, run_underlying hu, hf, Instr.sureAddr, fieldPlace, run_sizeOf hk.1, hz, SV.den, Cel.den, add_mk]
          · exact h.elim
        · exact h.elim
      · exact h.elim
    · exact fv h
  · rename_i s x f ho
    split at h
    · rename_i cs hx
      have e : ev (denE env) x = .agg ⟨denCs cs⟩ := by rw [← ev3_den, hx]; rfl
      have hwf := wfS_ev hw x; rw [hx] at hwf
      unfold fieldC at h
      split at h
      · rename_i fs hu
        split at h
        · rename_i fd hf
          obtain ⟨s', hK, hs, _, hr⟩ := ldL_run h (bsH H) hwf
          refine ⟨s', hK, hs, fun w _ => ?_⟩
          simp [execOp, ho, e, Instr.field, run_underlying hu, hf, asAgg, hr w]
        · exact h.elim
      · exact h.elim
    · exact fi _ h
  · rename_i t x i ho
    split at h
    · rename_i cs k n l e hx hc hi hu
      have ex : ev (denE env) x = .agg ⟨denCs cs⟩ := by rw [← ev3_den, hx]; rfl
      have ei : ev (denE env) i = .int k n := by rw [← ev3_den, hi]; rfl
      have hwf := wfS_ev hw x; rw [hx] at hwf
      split at h
      · rename_i n
        split at h
        · rename_i hn
          simp only [Bool.and_eq_true] at hn
          have hlt : n < l := by
            have := Nat.le_of_ble_eq_true (n := n + 1) (m := l) hn.1
            omega
          obtain ⟨s', hK, hs, _, hr⟩ := ldL_run h (bsH H) hwf
          refine ⟨s', hK, hs, fun w _ => ?_⟩
          have e1 : (0 : Int) ≤ Int.ofNat n ∧ Int.ofNat n < (l : Int) := ⟨Int.natCast_nonneg n, by show (n : Int) < l; omega⟩
          have e2 : (Int.ofNat n).toNat = n := rfl
          simp only [execOp, ho, ex, ei, Instr.index, asIntOf, Sem.run_bind, Sem.run_pure, Result.andThen_ok, run_underlying hu, Sem.run_ite]
          rw [if_pos e1]
          simp [run_sizeOf hn.2, hr w]
        · exact h.elim
      · exact h.elim
    · exact fi _ h
  · rename_i t x i ho
    split at h
    · rename_i b n lit a l c k j e hx hi hu
      have ex : ev (denE env) x = .slice (some ⟨n, a, none⟩) l c := by rw [← ev3_den, hx]; rfl
      have ei : ev (denE env) i = .int k j := by rw [← ev3_den, hi]; rfl
      have hwf := wfS_ev hw x; rw [hx] at hwf
      split at h
      · rename_i hk
        obtain ⟨h0, h1, h⟩ := h
        have : idxS P t (ev (denE env) x) (ev (denE env) i) fun v => v = .pointer (some ⟨n, a + j.toNat * szOf P e, none⟩) := by
          rw [ex, ei]; unfold idxS; simp only [hu, if_pos hk]
          exact ⟨_, rfl, h0, h1, by rw [add_mk]⟩
        obtain ⟨v, rfl, hr⟩ := idxS_sound this
        exact ⟨_, h, hwf, fun w _ => by simp [execOp, ho, hr w, SV.den, Cel.den]⟩
      · exact h.elim
    · rename_i b n lit a k j l e hx hi hu
      have ex : ev (denE env) x = .pointer (some ⟨n, a, none⟩) := by rw [← ev3_den, hx]; rfl
      have ei : ev (denE env) i = .int k j := by rw [← ev3_den, hi]; rfl
      have hwf := wfS_ev hw x; rw [hx] at hwf
      split at h
      · rename_i hk
        obtain ⟨h0, h1, h⟩ := h
        have : idxS P t (ev (denE env) x) (ev (denE env) i) fun v => v = .pointer (some ⟨n, a + j.toNat * szOf P e, none⟩) := by
          rw [ex, ei]; unfold idxS; simp only [hu, if_pos hk]
          exact ⟨_, rfl, h0, h1, by rw [add_mk]⟩
        obtain ⟨v, rfl, hr⟩ := idxS_sound this
        exact ⟨_, h, hwf, fun w _ => by simp [execOp, ho, hr w, SV.den, Cel.den]⟩
      · exact h.elim
    · exact fv h
  · rename_i t x lo hi ho
    split at h
    · rename_i b n lit a l c e hx hu
      have ex : ev (denE env) x = .slice (some ⟨n, a, none⟩) l c := by rw [← ev3_den, hx]; rfl
      have hwf := wfS_ev hw x; rw [hx] at hwf
      split at h
      · rename_i hk
        have : slS P (denE env) t (ev (denE env) x) lo hi fun v => ∃ s, v = s.den ∧ wfS (bsH H) s ∧ K s := by
          rw [ex]; unfold slS; simp only [hu, if_pos hk]
          refine hiS_mono (fun h' hh => ?_) (hiC_hiS h)
          refine loS_mono (fun g hg hK => ?_) (loC_loS hh)
          refine ⟨_, ?_, ?_, hK⟩
          · simp only [SV.den, Cel.den, Option.map_some]
            have := sliceAt0_eq lo n c g a (szOf P e) hg
            rw [← this]
            split <;> rfl
          · exact (show (bsH H)[b]? = some n from hwf)
        obtain ⟨v, ⟨s, rfl, hs, hK⟩, hr⟩ := slS_sound this
        exact ⟨s, hK, hs, fun w _ => by simp [execOp, ho, hr w]⟩
      · exact h.elim
    · rename_i b n lit a l e hx hu
      have ex : ev (denE env) x = .pointer (some ⟨n, a, none⟩) := by rw [← ev3_den, hx]; rfl
      have hwf := wfS_ev hw x; rw [hx] at hwf
      split at h
      · rename_i hk
        have : slS P (denE env) t (ev (denE env) x) lo hi fun v => ∃ s, v = s.den ∧ wfS (bsH H) s ∧ K s := by
          rw [ex]; unfold slS; simp only [hu, if_pos hk]
          refine ⟨_, rfl, ?_⟩
          refine hiS_mono (fun h' hh => ?_) (hiC_hiS h)
          refine loS_mono (fun g hg hK => ?_) (loC_loS hh)
          refine ⟨_, ?_, ?_, hK⟩
          · simp only [SV.den, Cel.den]
            rw [sliceAt0_eq lo n l g a (szOf P e) hg]
          · exact (show (bsH H)[b]? = some n from hwf)
        obtain ⟨v, ⟨s, rfl, hs, hK⟩, hr⟩ := slS_sound this
        exact ⟨s, hK, hs, fun w _ => by simp [execOp, ho, hr w]⟩
      · exact h.elim
    · exact fv h
  · rename_i t a ho
    split at h
    · rename_i i b lit o' ha
      have ea : ev (denE env) a = .pointer (some ⟨b, o', none⟩) := by rw [← ev3_den, ha]; rfl
      have hwf := wfS_ev hw a; rw [ha] at hwf
      have hwf : (bsH H)[i]? = some b := hwf
      rw [bsH_get] at hwf
      have run : ∀ s : SV, (∀ (w : World) T A, (∀ x, nthH H i = some x → x.cs.arr = some A) → w.heap[b]? = some (.cells A T (0, 0)) → (loadVar t ⟨b, o', none⟩).run P w = .ok s.den w) →
          ∀ x A, nthH H i = some x → x.cs.arr = some A → rd i = true → ∀ w, Q w → (execOp (ev (denE env)) o).run P w = .ok (.value s.den) w := by
        intro s hs x A hx hA hrd w hQ
        rw [hx] at hwf
        have hb : x.b = b := by simpa using hwf
        obtain ⟨T, hT⟩ := hB i x A hx hrd hA w hQ
        rw [hb] at hT
        have := hs w T A (fun y hy => by rw [hx] at hy; cases hy; exact hA) hT
        simp [execOp, ho, ea, Instr.loadAt, Instr.sureAddr, this]
      split at h
      · rename_i b' cs T' wr hx hrd
        have hcs := hH i _ cs hx rfl
        split at h
        · obtain ⟨s, hK, hs, hr, _⟩ := ldL_run h (bsH H) hcs
          refine ⟨s, hK, hs, run s (fun w T A hA hT => ?_) _ _ hx rfl hrd⟩
          have := hA _ hx; cases this; exact hr b w T hT
        · obtain ⟨s, hK, hs, hr⟩ := ldR_run h (bsH H)
          refine ⟨s, hK, hs, run s (fun w T A hA hT => ?_) _ _ hx rfl hrd⟩
          have := hA _ hx; cases this; exact hr b w T hT
      · rename_i b' A' T' wr hx hrd
        obtain ⟨s, hK, hs, hr⟩ := ldR_run h (bsH H)
        refine ⟨s, hK, hs, run s (fun w T A hA hT => ?_) _ _ hx rfl hrd⟩
        have := hA _ hx; cases this; exact hr b w T hT
      · exact fi _ h
    · exact fi _ h
  · rename_i t parts ho
    obtain ⟨v, ⟨s, rfl, hs, hK⟩, hr⟩ := buildS_sound (build3_sound (bsH H) hw h)
    refine ⟨s, hK, hs, fun w _ => ?_⟩
    have e : execOp (ev (denE env)) o = (do pure (.value (← Instr.build t (parts.map fun (i, x) => (i, ev (denE env) x)))) : Sem Next) := by simp only [execOp, ho]
    rw [e]; exact run_val _ _ _ _ (hr w)
  · rename_i op t x y yt ho
    have nl : ∀ (bb : Bool), (op = .eql ∧ bb = false ∨ op = .neq ∧ bb = true) → nilTy P t y = true → K (.c (.k bb)) → nilTest (ev (denE env) x) (ev (denE env) y) False True →
        ∃ s, K s ∧ wfS (bsH H) s ∧ ∀ w, Q w → (execOp (ev (denE env)) o).run P w = .ok (.value s.den) w := by
      intro bb hop hn hK ht
      have hm : ∀ {A B A' B' : Prop} {x y : Value}, (A → A') → (B → B') → nilTest x y A B → nilTest x y A' B' := by
        intro A B A' B' x y ha hb h
        unfold nilTest at h ⊢
        split at h
        · exact ⟨fun e => ha (h.1 e), fun t v e => hb (h.2.1 t v e), h.2.2⟩
        · exact ⟨fun e => ha (h.1 e), fun f a b e => hb (h.2.1 f a b e), h.2.2⟩
        · split at h
          · exact ⟨fun e => ha (h.1 e), fun a e => hb (h.2 a e)⟩
          · exact h.elim
        · split at h
          · exact ⟨fun e => ha (h.1 e), fun a e => hb (h.2 a e)⟩
          · exact h.elim
        · split at h
          · exact ⟨fun e => ha (h.1 e), fun a e => hb (h.2 a e)⟩
          · exact h.elim
        · exact h.elim
      have : binS P R (denE env) o op t x y fun v => v = .bool bb := by
        unfold binS
        simp only [hn]
        rcases hop with ⟨rfl, rfl⟩ | ⟨rfl, rfl⟩
        · exact hm (fun h => h.elim) (fun _ => rfl) ht
        · exact hm (fun h => h.elim) (fun _ => rfl) ht
      obtain ⟨v, rfl, hr⟩ := binS_sound hR ho this
      exact ⟨_, hK, trivial, hr⟩
    split at h
    · rename_i hx hn
      obtain ⟨p, e⟩ : ∃ p, ev (denE env) x = .pointer (some p) := ⟨_, by rw [← ev3_den, hx]; rfl⟩
      exact nl false (.inl ⟨rfl, rfl⟩) hn h (by rw [e]; exact ⟨(fun h => by cases h), fun _ _ => trivial⟩)
    · rename_i hx hn
      obtain ⟨p, e⟩ : ∃ p, ev (denE env) x = .pointer (some p) := ⟨_, by rw [← ev3_den, hx]; rfl⟩
      exact nl true (.inr ⟨rfl, rfl⟩) hn h (by rw [e]; exact ⟨(fun h => by cases h), fun _ _ => trivial⟩)
    · rename_i hx hn
      obtain ⟨p, l, c, e⟩ : ∃ p l c, ev (denE env) x = .slice (some p) l c := ⟨_, _, _, by rw [← ev3_den, hx]; rfl⟩
      exact nl false (.inl ⟨rfl, rfl⟩) hn h (by rw [e]; exact ⟨(fun h => by cases h), fun _ _ => trivial⟩)
    · rename_i hx hn
      obtain ⟨p, l, c, e⟩ : ∃ p l c, ev (denE env) x = .slice (some p) l c := ⟨_, _, _, by rw [← ev3_den, hx]; rfl⟩
      exact nl true (.inr ⟨rfl, rfl⟩) hn h (by rw [e]; exact ⟨(fun h => by cases h), fun _ _ => trivial⟩)
    · exact fl h
  · exact fl h
  · rename_i x j ho
    exact fi _ h
  · exact fi _ h
end
end Go.Vc

/-! A part of the proof that two events of one line are one event: the calculus that follows known memory by computing, and its soundness. By an AI agent. -/

namespace Go.Vc
open Go
/-! ## the state, and the world -/
structure Fr3 (S : Nat → Prop) (w0 wp : World) (M : List Nat) (H : List Bk) (w : World) : Prop where
  chg : Chg S w0 w
  stp : Chg (· ∈ M) wp w
  loc : ∀ i x A, nthH H i = some x → x.cs.arr = some A → w.heap[x.b]? = some (.cells A x.T (0, 0))
  dist : ∀ i j x y, nthH H i = some x → nthH H j = some y → x.cs.arr.isSome = true → y.cs.arr.isSome = true → x.b = y.b → i = j
  new : ∀ i x, nthH H i = some x → x.wr = true → S x.b ∨ w0.heap.size ≤ x.b
theorem mem_LH : ∀ {H : List Bk} {y : Blk}, y ∈ LH H ↔ ∃ i x A, nthH H i = some x ∧ x.cs.arr = some A ∧ y = ⟨x.b, A, x.T, x.wr⟩
  | [], y => ⟨fun h => (by cases h), fun ⟨_, _, _, h, _⟩ => (by cases h)⟩
  | ⟨b, c, T, w⟩ :: H, y => by
    have ih := mem_LH (H := H) (y := y)
    unfold LH
    constructor
    · intro h
      split at h
      · rename_i A hA
        rcases List.mem_cons.1 h with rfl | h
        · exact ⟨0, _, A, rfl, hA, rfl⟩
        · obtain ⟨i, x, A, h1, h2⟩ := ih.1 h
          exact ⟨i + 1, x, A, h1, h2⟩
      · obtain ⟨i, x, A, h1, h2⟩ := ih.1 h
        exact ⟨i + 1, x, A, h1, h2⟩
    · rintro ⟨i, x, A, h1, h2, h3⟩
      cases i with
      | zero =>
        cases h1
        have h2 : c.arr = some A := h2
        rw [h2, h3]; exact List.mem_cons_self
      | succ i =>
        have := ih.2 ⟨i, x, A, h1, h2, h3⟩
        split
        · exact List.mem_cons_of_mem _ this
        · exact this
theorem LH_nodup : ∀ {H : List Bk}, (∀ i j x y, nthH H i = some x → nthH H j = some y → x.cs.arr.isSome = true → y.cs.arr.isSome = true → x.b = y.b → i = j) → ((LH H).map (·.b)).Nodup
  | [], _ => List.nodup_nil
  | ⟨b, c, T, w⟩ :: H, h => by
    have ih := LH_nodup (H := H) fun i j x y hi hj h1 h2 e => by have := h (i + 1) (j + 1) x y hi hj h1 h2 e; omega
    unfold LH
    split
    · rename_i A hA
      rw [List.map_cons, List.nodup_cons]
      refine ⟨fun hm => ?_, ih⟩
      obtain ⟨y, hy, he⟩ := List.mem_map.1 hm
      obtain ⟨j, x, A', h1, h2, rfl⟩ := mem_LH.1 hy
      have := h 0 (j + 1) ⟨b, c, T, w⟩ x rfl h1 (by show c.arr.isSome = true; rw [hA]; rfl) (by rw [h2]; rfl) he.symm
      omega
    · exact ih
section
variable {S : Nat → Prop} {w0 wp w : World} {M : List Nat} {H : List Bk}
theorem Fr3.fr (h : Fr3 S w0 wp M H w) : Fr S w0 wp M (LH H) w :=
  ⟨h.chg, h.stp, fun x hx => by
    obtain ⟨i, y, A, h1, h2, rfl⟩ := mem_LH.1 hx
    exact h.loc i y A h1 h2, LH_nodup h.dist, fun x hx hw => by
    obtain ⟨i, y, A, h1, h2, rfl⟩ := mem_LH.1 hx
    exact h.new i y h1 hw⟩
/-- H' knows of no more blocks than H, and of the same ones -/
def Weak (H' H : List Bk) : Prop := ∀ i x', nthH H' i = some x' → ∃ x, nthH H i = some x ∧ x'.b = x.b ∧ x'.wr = x.wr ∧ (x'.cs.arr.isSome = true → x.cs.arr.isSome = true)
theorem Weak.refl (H : List Bk) : Weak H H := fun _ x h => ⟨x, h, rfl, rfl, id⟩
theorem Weak.trans {A B C : List Bk} (h : Weak A B) (k : Weak B C) : Weak A C := fun i x hx => by
  obtain ⟨y, hy, h1, h2, h3⟩ := h i x hx
  obtain ⟨z, hz, h4, h5, h6⟩ := k i y hy
  exact ⟨z, hz, h1.trans h4, h2.trans h5, fun h => h6 (h3 h)⟩
theorem Weak.set {H : List Bk} {i : Nat} {c : Cs} (h : ∀ x, nthH H i = some x → c.arr.isSome = true → x.cs.arr.isSome = true) : Weak (setH H i c) H := fun j x hx => by
  rw [nthH_set] at hx
  split at hx
  · rename_i e; subst e
    cases hy : nthH H i with
    | none => rw [hy] at hx; cases hx
    | some y => rw [hy] at hx; cases hx; exact ⟨y, rfl, rfl, rfl, h y hy⟩
  · exact ⟨x, hx, rfl, rfl, id⟩
theorem Fr3.weak (h : Fr3 S w0 wp M H w) {H' : List Bk} (hw : Weak H' H) {w' : World} (u : Fs S w0 (LH H') w') : Fr3 S w0 w' [] H' w' :=
  ⟨u.chg, .refl _ _, fun i x A hi hA => u.loc ⟨x.b, A, x.T, x.wr⟩ (mem_LH.2 ⟨i, x, A, hi, hA, rfl⟩), fun i j x y hi hj hx hy e => by
    obtain ⟨x', h1, h2, _, h3⟩ := hw i x hi
    obtain ⟨y', h4, h5, _, h6⟩ := hw j y hj
    exact h.dist i j x' y' h1 h4 (h3 hx) (h6 hy) (by rw [← h2, ← h5]; exact e), fun i x hi hx => by
    obtain ⟨x', h1, h2, h3, _⟩ := hw i x hi
    rw [h2]; exact h.new i x' h1 (h3 ▸ hx)⟩
theorem Fr3.reset (h : Fr3 S w0 wp M H w) : Fr3 S w0 w [] H w := ⟨h.chg, .refl _ _, h.loc, h.dist, h.new⟩
theorem Fr3.more (h : Fr3 S w0 wp M H w) {w' : World} (g : Grow w w') : Fr3 S w0 wp M H w' :=
  ⟨h.chg.grow g, h.stp.grow g, fun i x A hi hA => g.get (h.loc i x A hi hA), h.dist, h.new⟩
theorem nthH_app (H : List Bk) (x : Bk) (i : Nat) : nthH (H ++ [x]) i = if i < H.length then nthH H i else if i = H.length then some x else none := by
  simp only [nthH_eq]
  rw [List.getElem?_append]
  split
  · rfl
  · split
    · rename_i h; subst h; simp
    · rename_i h1 h2
      rw [List.getElem?_eq_none (by simp; omega)]
theorem nthH_lt {H : List Bk} {i : Nat} {x : Bk} (h : nthH H i = some x) : i < H.length := by
  rw [nthH_eq] at h
  exact (List.getElem?_eq_some_iff.1 h).1
/-- what stays: all blocks, with their numbers; those that are locked as they are -/
def AgrH (lk : Nat → Bool) (H H' : List Bk) : Prop := ∀ i x, nthH H i = some x → ∃ x', nthH H' i = some x' ∧ x'.b = x.b ∧ x'.T = x.T ∧ x'.wr = x.wr ∧ (lk i = true → x' = x)
theorem AgrH.refl (lk : Nat → Bool) (H : List Bk) : AgrH lk H H := fun _ x h => ⟨x, h, rfl, rfl, rfl, fun _ => rfl⟩
theorem AgrH.trans {lk : Nat → Bool} {A B C : List Bk} (h : AgrH lk A B) (k : AgrH lk B C) : AgrH lk A C := fun i x hx => by
  obtain ⟨y, hy, h1, h2, h3, h4⟩ := h i x hx
  obtain ⟨z, hz, h5, h6, h7, h8⟩ := k i y hy
  exact ⟨z, hz, h5.trans h1, h6.trans h2, h7.trans h3, fun hl => (h8 hl).trans (h4 hl)⟩
theorem AgrH.mono {lk lk' : Nat → Bool} {A B : List Bk} (h : AgrH lk A B) (hl : ∀ i, lk' i = true → lk i = true) : AgrH lk' A B := fun i x hx => by
  obtain ⟨y, hy, h1, h2, h3, h4⟩ := h i x hx
  exact ⟨y, hy, h1, h2, h3, fun h => h4 (hl i h)⟩
theorem AgrH.bs {lk : Nat → Bool} {A B : List Bk} (h : AgrH lk A B) : ∀ (i b : Nat), (bsH A)[i]? = some b → (bsH B)[i]? = some b := fun i b hb => by
  rw [bsH_get] at hb ⊢
  cases hx : nthH A i with
  | none => rw [hx] at hb; cases hb
  | some x =>
    rw [hx] at hb
    obtain ⟨y, hy, h1, _⟩ := h i x hx
    rw [hy]; simp only [Option.map_some] at hb ⊢; rw [h1]; exact hb
theorem AgrH.set {lk : Nat → Bool} {H : List Bk} {i : Nat} {c : Cs} (hl : lk i = false) : AgrH lk H (setH H i c) := fun j x hx => by
  rw [nthH_set]
  split
  · rename_i e; subst e
    rw [hx]; exact ⟨_, rfl, rfl, rfl, rfl, fun h => by rw [hl] at h; cases h⟩
  · exact ⟨x, hx, rfl, rfl, rfl, fun _ => rfl⟩
theorem AgrH.app (lk : Nat → Bool) (H : List Bk) (y : Bk) : AgrH lk H (H ++ [y]) := fun i x hx => by
  rw [nthH_app, if_pos (nthH_lt hx)]; exact ⟨x, hx, rfl, rfl, rfl, fun _ => rfl⟩
theorem bsH_set (H : List Bk) (i : Nat) (c : Cs) : bsH (setH H i c) = bsH H := by
  apply List.ext_getElem?
  intro j
  rw [bsH_get, bsH_get, nthH_set]
  split
  · cases nthH H j <;> rfl
  · rfl
theorem wfH_set {bs : List Nat} {H : List Bk} (h : wfH bs H) {i : Nat} {c : Cs} (hc : ∀ cs, c = .l cs → wfCs bs cs) : wfH bs (setH H i c) := fun j x cs hx e => by
  rw [nthH_set] at hx
  split at hx
  · cases hy : nthH H j with
    | none => rw [hy] at hx; cases hx
    | some y => rw [hy] at hx; cases hx; exact hc cs e
  · exact h j x cs hx e
theorem wfH_mono {bs bs' : List Nat} (hb : ∀ (i b : Nat), bs[i]? = some b → bs'[i]? = some b) {H : List Bk} (h : wfH bs H) : wfH bs' H := fun i x cs hx e => wfCs_mono hb (h i x cs hx e)
end
structure Rel (S : Nat → Prop) (w0 : World) (σ : Sy) (w : World) : Prop where
  fr : Fr3 S w0 σ.wp σ.M σ.H w
  env : wfE (bsH σ.H) σ.env
  H : wfH (bsH σ.H) σ.H
  dy : σ.dy = false → w = σ.wp
section
variable {P : Program} {okf : Ctx} {S : Nat → Prop} {w0 : World}
theorem vis_sound {σ : Sy} {K : World → Sy → Prop} {w : World} (h : vis S w0 σ K) (r : Rel S w0 σ w) : ∃ σ', K w σ' ∧ Rel S w0 σ' w ∧ σ'.env = σ.env ∧ σ'.H = σ.H := by
  unfold vis at h
  split at h
  · rename_i hd
    rw [r.dy hd]
    exact ⟨σ, h, r.dy hd ▸ r, rfl, rfl⟩
  · exact ⟨_, h w r.fr.fr, ⟨r.fr.reset, r.env, r.H, fun _ => rfl⟩, rfl, rfl⟩
theorem hav3_elim {lk : Nat → Bool} : ∀ {hv : List Nat} {H : List Bk} {K : List Bk → Prop}, unl lk hv = true → wfH (bsH H) H → hav3 P hv H K → ∃ H', K H' ∧ AgrH lk H H' ∧ wfH (bsH H') H' ∧ bsH H' = bsH H ∧ Weak H' H
  | [], H, K, _, hw, h => ⟨H, h, .refl _ _, hw, rfl, .refl _⟩
  | i :: is, H, K, hu, hw, h => by
    simp only [unl, Bool.and_eq_true, Bool.not_eq_true'] at hu
    unfold hav3 at h
    split at h
    · rename_i b cs T hx
      split at h
      · obtain ⟨vs, h⟩ := tel_ex h
        obtain ⟨H', hK, ha, hw', hb, hk⟩ := hav3_elim hu.2 (by rw [bsH_set]; exact wfH_set hw fun cs e => by cases e; exact wfCs_cvs _ _) h
        exact ⟨H', hK, (AgrH.set hu.1).trans ha, hw', hb.trans (bsH_set _ _ _), hk.trans (.set fun x hx' _ => by rw [hx] at hx'; cases hx'; rfl)⟩
      · exact h.elim
    · rename_i b A T hx
      obtain ⟨A, h⟩ := h
      obtain ⟨H', hK, ha, hw', hb, hk⟩ := hav3_elim hu.2 (by rw [bsH_set]; exact wfH_set hw fun cs e => by cases e) h
      exact ⟨H', hK, (AgrH.set hu.1).trans ha, hw', hb.trans (bsH_set _ _ _), hk.trans (.set fun x hx' _ => by rw [hx] at hx'; cases hx'; rfl)⟩
    · exact h.elim
theorem stCells_of {b o : Nat} {T : TypeId} {K : World → Prop} : ∀ (vs : List Value) (i : Nat) (A : Array Value) (w : World), w.heap[b]? = some (.cells A T (0, 0)) → o + i + vs.length ≤ A.size → (∀ v, v ∈ vs → oneC v = true) →
    (∀ w' A', w'.heap[b]? = some (.cells A' T (0, 0)) → (∀ j : Nat, A'[j]? = if o + i ≤ j ∧ j < o + i + vs.length then vs[j - (o + i)]? else A[j]?) → Chg (· = b) w w' → K w') → stCells ⟨b, o, none⟩ i vs K w
  | [], i, A, w, hb, _, _, hK => hK w A hb (fun j => by rw [if_neg (by simp only [List.length_nil]; omega)]) (.refl _ _)
  | v :: vs, i, A, w, hb, hl, hv, hK => by
    simp only [List.length_cons] at hl
    simp only [stCells, add_mk]
    refine stC hb (by omega) (hv v List.mem_cons_self) fun w1 hb1 _ g1 => ?_
    refine stCells_of vs (i + 1) _ w1 hb1 (by simp; omega) (fun x hx => hv x (List.mem_cons_of_mem _ hx)) fun w2 A2 hb2 h2 g2 => hK w2 A2 hb2 (fun j => ?_) (g1.trans g2 fun _ _ h => h)
    rw [h2]
    simp only [List.length_cons]
    by_cases h3 : o + (i + 1) ≤ j ∧ j < o + (i + 1) + vs.length
    · rw [if_pos h3, if_pos (by omega), show j - (o + i) = j - (o + (i + 1)) + 1 by omega]; simp
    · rw [if_neg h3]
      by_cases h4 : j = o + i
      · subst h4
        rw [if_pos (by omega)]
        have : o + i < A.size := by omega
        simp [this]
      · rw [if_neg (by omega), Array.getElem?_setIfInBounds_ne (by omega)]
theorem Rel.st {σ : Sy} {w w' : World} (r : Rel S w0 σ w) {i b : Nat} {c c' : Cs} {T : TypeId} {A A' : Array Value} (hx : nthH σ.H i = some ⟨b, c, T, true⟩) (hA : c.arr = some A) (hA' : c'.arr = some A')
    (hc : ∀ cs, c' = .l cs → wfCs (bsH σ.H) cs) (hb : w'.heap[b]? = some (.cells A' T (0, 0))) (g : Chg (· = b) w w') : Rel S w0 ⟨σ.env, setH σ.H i c', b :: σ.M, σ.wp, true⟩ w' := {
  env := by show wfE (bsH (setH σ.H i c')) _; rw [bsH_set]; exact r.env
  H := by show wfH (bsH (setH σ.H i c')) _; rw [bsH_set]; exact wfH_set r.H hc
  dy := fun h => by cases h
  fr := by
    have isS : ∀ j y, nthH (setH σ.H i c') j = some y → ∃ y', nthH σ.H j = some y' ∧ y.b = y'.b ∧ y.T = y'.T ∧ y.wr = y'.wr ∧ (y.cs.arr.isSome = true → y'.cs.arr.isSome = true) ∧ (j = i ∧ y.cs = c' ∨ j ≠ i ∧ y = y') := by
      intro j y hy
      rw [nthH_set] at hy
      split at hy
      · rename_i e; subst e
        rw [hx] at hy; cases hy
        exact ⟨_, hx, rfl, rfl, rfl, fun _ => by show c.arr.isSome = true; rw [hA]; rfl, .inl ⟨rfl, rfl⟩⟩
      · rename_i e
        exact ⟨y, hy, rfl, rfl, rfl, id, .inr ⟨fun h => e h.symm, rfl⟩⟩
    refine ⟨r.fr.chg.trans g fun k hk e => ?_, (r.fr.stp.mono fun k _ h => List.mem_cons_of_mem _ h).trans g fun k _ e => by subst e; exact List.mem_cons_self, fun j y A₁ hy hA₁ => ?_, fun j k y z hy hz h1 h2 e => ?_, fun j y hy hw => ?_⟩
    · subst e
      rcases r.fr.new i _ hx rfl with h | h
      · exact h
      · exact absurd hk (Nat.not_lt.2 h)
    · obtain ⟨y', h1, h2, h3, _, _, h6 | h6⟩ := isS j y hy
      · obtain ⟨rfl, h6⟩ := h6
        rw [hx] at h1; cases h1
        rw [h6, hA'] at hA₁; cases hA₁
        rw [h2, h3]; exact hb
      · obtain ⟨hne, rfl⟩ := h6
        refine g.get (r.fr.loc j y A₁ h1 hA₁) fun e => hne ?_
        exact r.fr.dist j i _ _ h1 hx (by rw [hA₁]; rfl) (by show c.arr.isSome = true; rw [hA]; rfl) e
    · obtain ⟨y', a1, a2, _, _, a5, _⟩ := isS j y hy
      obtain ⟨z', b1, b2, _, _, b5, _⟩ := isS k z hz
      exact r.fr.dist j k y' z' a1 b1 (a5 h1) (b5 h2) (by rw [← a2, ← b2]; exact e)
    · obtain ⟨y', a1, a2, _, a4, _⟩ := isS j y hy
      rw [a2]; exact r.fr.new j y' a1 (a4 ▸ hw) }
theorem Rel.nw {σ : Sy} {w w' : World} (r : Rel S w0 σ w) {cs : List Cel} {T : TypeId} (hc : wfCs (bsH σ.H) cs) (hb : w'.heap[w.heap.size]? = some (.cells ⟨denCs cs⟩ T (0, 0))) (g : Grow w w') :
    Rel S w0 ⟨σ.env, σ.H ++ [⟨w.heap.size, .l cs, T, true⟩], σ.M, σ.wp, true⟩ w' ∧ σ.wp.heap.size ≤ w.heap.size := by
  have hbs : ∀ (i b : Nat), (bsH σ.H)[i]? = some b → (bsH (σ.H ++ [⟨w.heap.size, .l cs, T, true⟩]))[i]? = some b := (AgrH.app (fun _ => true) _ _).bs
  have case : ∀ i x, nthH (σ.H ++ [⟨w.heap.size, .l cs, T, true⟩]) i = some x → (nthH σ.H i = some x) ∨ (i = σ.H.length ∧ x = ⟨w.heap.size, .l cs, T, true⟩) := by
    intro i x hx
    rw [nthH_app] at hx
    split at hx
    · exact .inl hx
    · split at hx
      · rename_i e; cases hx; exact .inr ⟨e, rfl⟩
      · cases hx
  refine ⟨⟨⟨r.fr.chg.grow g, r.fr.stp.grow g, fun i x A hx hA => ?_, fun i j x y hx hy h1 h2 e => ?_, fun i x hx hw => ?_⟩, wfE_mono hbs r.env, fun i x c hx e => ?_, fun h => by cases h⟩, r.fr.stp.size⟩
  · rcases case i x hx with h | ⟨_, rfl⟩
    · exact g.get (r.fr.loc i x A h hA)
    · cases hA; exact hb
  · have lt : ∀ i x, nthH σ.H i = some x → x.cs.arr.isSome = true → x.b < w.heap.size := fun i x hx h => by
      cases hA : x.cs.arr with
      | none => rw [hA] at h; cases h
      | some A => exact heap_lt (r.fr.loc i x A hx hA)
    rcases case i x hx with h | ⟨h, rfl⟩ <;> rcases case j y hy with h' | ⟨h', rfl⟩
    · exact r.fr.dist i j x y h h' h1 h2 e
    · have := lt i x h h1; simp only [] at e; omega
    · have := lt j y h' h2; simp only [] at e; omega
    · rw [h, h']
  · rcases case i x hx with h | ⟨_, rfl⟩
    · exact r.fr.new i x h hw
    · exact .inr r.fr.chg.size
  · rcases case i x hx with h | ⟨_, rfl⟩
    · exact wfCs_mono hbs (r.H i x c h e)
    · cases e; exact wfCs_mono hbs hc
end
end Go.Vc

/-! A part of the proof that two events of one line are one event: the calculus that follows known memory by computing, and its soundness. By an AI agent. -/

namespace Go.Vc
open Go
section
variable {P : Program} {okf : Ctx} {S : Nat → Prop} {w0 : World} {Q : Exit → Act → World → Prop}
theorem gen3_sound (hok : ∀ n, okf.fns.contains n = true → okFn P n = true) {hv : List Nat} {lk : Nat → Bool} {σ : Sy} {o : Oper} {K : SV → Sy → Prop} {w : World} {next : Act → World → Prop} (hu : unl lk hv = true) (h : gen3 P okf S w0 hv σ o K) (r : Rel S w0 σ w)
    (hn : ∀ s σ' w', K s σ' → Rel S w0 σ' w' → AgrH lk σ.H σ'.H → σ'.env = σ.env → wfS (bsH σ'.H) s → next (act (putD (denE σ.env) o.dst s.den)) w') : o.wp P (act (denE σ.env)) w next Q := by
  obtain ⟨σ1, h, r1, he, hH⟩ := vis_sound h r
  rw [he] at h
  refine opI_sound hok h fun v w' hK => ?_
  obtain ⟨H', ⟨hF, hK⟩, ha, hw', hb, hk⟩ := hav3_elim hu r1.H hK
  have e := f_if (bsH H') (isBT P o.type) v
  have := hn _ ⟨σ1.env, H', [], w', false⟩ w' hK ⟨r1.fr.weak hk hF, by show wfE (bsH H') σ1.env; rw [hb]; exact r1.env, hw', fun _ => rfl⟩ (hH ▸ ha) he e.2
  rwa [e.1] at this
theorem run_newVar (t : TypeId) (v : Value) (w : World) : (newVar t v).run P w = .ok ⟨w.heap.size, 0, none⟩ (w.alloc (.cells v.cells t (0, 0))) := by
  simp [newVar, newRow, newObj, Sem.run]
theorem ns3_sound (hok : ∀ n, okf.fns.contains n = true → okFn P n = true) {hv : List Nat} {lk : Nat → Bool} {σ : Sy} {o : Oper} {K : SV → Sy → Prop} {w : World} {next : Act → World → Prop} (h : ns3 P okf S w0 lk hv σ o K) (r : Rel S w0 σ w)
    (hn : ∀ s σ' w', K s σ' → Rel S w0 σ' w' → AgrH lk σ.H σ'.H → σ'.env = σ.env → wfS (bsH σ'.H) s → next (act (putD (denE σ.env) o.dst s.den)) w') : o.wp P (act (denE σ.env)) w next Q := by
  have G0 : gen3 P okf S w0 [] σ o K → o.wp P (act (denE σ.env)) w next Q := fun h => gen3_sound hok (lk := lk) (hv := []) rfl h r hn
  have GH : unl lk hv = true → gen3 P okf S w0 hv σ o K → o.wp P (act (denE σ.env)) w next Q := fun hu h => gen3_sound hok hu h r hn
  -- what has been made
  have NW : ∀ (cs : List Cel) (T : TypeId) (f : Nat → SV), wfCs (bsH σ.H) cs → (∀ bs : List Nat, ∀ b, bs[σ.H.length]? = some b → wfS bs (f b)) → new3 σ T cs K f →
      (execOp (ev (denE σ.env)) o).run P w = .ok (.value (f w.heap.size).den) (w.alloc (.cells ⟨denCs cs⟩ T (0, 0))) → o.wp P (act (denE σ.env)) w next Q := by
    intro cs T f hc hf h hr
    unfold new3 at h
    rw [fL_eq] at h
    obtain ⟨r', hsz⟩ := r.nw (T := T) (w' := w.alloc (.cells ⟨denCs cs⟩ T (0, 0))) hc (by show (w.heap.push _)[w.heap.size]? = _; simp) (Chg.alloc w _)
    have h := h w.heap.size hsz
    rw [fH_eq] at h
    unfold Oper.wp
    rw [ev_eq, hr, Oper.upon_value, act_put]
    have h : K (f w.heap.size) ⟨σ.env, σ.H ++ [⟨w.heap.size, .l cs, T, true⟩], σ.M, σ.wp, true⟩ := h
    refine hn _ _ _ h r' (AgrH.app _ _ _) rfl (hf _ _ ?_)
    rw [bsH_get, nthH_app]; simp
  unfold ns3 at h
  split at h
  · rename_i t a x ho
    have finU : ∀ (w' : World), (∃ σ', K (.c (.v undef)) σ' ∧ Rel S w0 σ' w' ∧ AgrH lk σ.H σ'.H ∧ σ'.env = σ.env) → (execOp (ev (denE σ.env)) o).run P w = .ok .skip w' → o.wp P (act (denE σ.env)) w next Q := by
      rintro w' ⟨σ', hK, hr', ha, he⟩ hr
      unfold Oper.wp
      rw [ev_eq, hr, Oper.upon_skip, act_put]
      exact hn _ _ _ hK hr' ha he trivial
    split at h
    · rename_i i b lit off ha
      have ea : ev (denE σ.env) a = .pointer (some ⟨b, off, none⟩) := by rw [← ev3_den, ha]; rfl
      have hwf := wfS_ev r.env a; rw [ha] at hwf
      have hwf : (bsH σ.H)[i]? = some b := hwf
      rw [bsH_get] at hwf
      have byst : stK P t ⟨b, off, none⟩ (ev (denE σ.env) x) (fun w' => ∃ σ', K (.c (.v undef)) σ' ∧ Rel S w0 σ' w' ∧ AgrH lk σ.H σ'.H ∧ σ'.env = σ.env) w → o.wp P (act (denE σ.env)) w next Q := by
        intro hs
        obtain ⟨w', hr, hK⟩ := stK_sound hs
        exact finU w' hK (by simp [execOp, ho, ea, Instr.storeAt, Instr.sureAddr, hr])
      have one : ∀ (c c' : Cs) (T : TypeId) (A : Array Value) (y : Cel) (k : Ck), nthH σ.H i = some ⟨b, c, T, true⟩ → c.arr = some A → c'.arr = some (A.setIfInBounds off y.den) → (∀ cs, c' = .l cs → wfCs (bsH σ.H) cs) → lk i = false →
          known P t = true → aggT P t = false → szOf P t = 1 → ev3 σ.env x = .c y → off < A.size → oneC y.den = true → K (.c (.v undef)) ⟨σ.env, setH σ.H i c', b :: σ.M, σ.wp, true⟩ → o.wp P (act (denE σ.env)) w next Q := by
        intro c c' T A y k hx hA hA' hc hl hk hag hsz hy hoff h1 hK
        refine byst ?_
        have ey : ev (denE σ.env) x = y.den := by rw [← ev3_den, hy]; rfl
        unfold stK
        simp only [hk, hag]
        rw [if_pos hsz, ey]
        refine stC (r.fr.loc i _ A hx hA) hoff h1 fun w' hb _ g => ?_
        exact ⟨_, hK, r.st hx hA hA' hc hb g, AgrH.set hl, rfl⟩
      split at h
      · rename_i b' cs T hx hl
        have hbb : b' = b := by rw [hx] at hwf; simpa using hwf
        subst hbb
        split at h
        · rename_i hk hag
          split at h
          · rename_i y hy
            split at h
            · rename_i hh
              simp only [Bool.and_eq_true] at hh
              have h1 := Nat.eq_of_beq_eq_true hh.1
              have h2 : off < cs.length := by
                have := Nat.le_of_ble_eq_true (n := off + 1) (m := lenC cs) hh.2
                rw [lenC_eq] at this; omega
              obtain ⟨h3, h⟩ := one3_elim h
              rw [fL_eq, fH_eq] at h
              have hsy := wfS_ev r.env x; rw [hy] at hsy
              exact one (.l cs) (.l (putC cs off y)) T ⟨denCs cs⟩ y (ckT P t) hx rfl (by
                show some _ = some _
                rw [denCs_put]; simp) (fun c e => by
                cases e
                exact fun z hz => (putC_mem hz).elim (fun e => e ▸ hsy) (r.H i _ cs hx rfl z)) hl hk hag h1 hy (by simpa [denCs_len] using h2) h3 h
            · exact h.elim
          · exact h.elim
        · rename_i hk hag
          split at h
          · rename_i ys hy
            split at h
            · rename_i hh
              simp only [Bool.and_eq_true] at hh
              have h1 := Nat.eq_of_beq_eq_true hh.1
              have h2 := Nat.le_of_ble_eq_true hh.2
              rw [lenC_eq] at h1 h2
              rw [lenC_eq] at h2
              obtain ⟨h3, h⟩ := ones3_elim h
              rw [fL_eq, fH_eq] at h
              refine byst ?_
              have ey : ev (denE σ.env) x = .agg ⟨denCs ys⟩ := by rw [← ev3_den, cellsOf_den hy]
              unfold stK
              simp only [hk, hag, ey]
              rw [if_pos (by simp [denCs_len, h1])]
              refine stCells_of _ 0 _ w (r.fr.loc i _ _ hx rfl) (by simp [denCs_len]; omega) (fun v hv => ?_) fun w' A' hb hA' g => ?_
              · have : ∀ (l : List Cel) v, v ∈ denCs l → ∃ c, c ∈ l ∧ v = c.den := by
                  intro l
                  induction l with
                  | nil => intro v hv; cases hv
                  | cons z zs ih =>
                    intro v hv
                    rcases List.mem_cons.1 hv with rfl | hv
                    · exact ⟨z, List.mem_cons_self, rfl⟩
                    · obtain ⟨c, hc, e⟩ := ih v hv; exact ⟨c, List.mem_cons_of_mem _ hc, e⟩
                obtain ⟨c, hc, rfl⟩ := this ys v hv
                exact h3 c hc
              · have e : A' = ⟨denCs (spl cs off ys)⟩ := by
                  apply Array.ext_getElem?
                  intro j
                  rw [hA' j]
                  have := spl_get cs ys off h2 j
                  simp only [List.getElem?_toArray, Nat.add_zero, denCs_len]
                  exact this.symm
                subst e
                have hsy := wfS_ev r.env x
                exact ⟨⟨σ.env, setH σ.H i (.l (spl cs off ys)), b' :: σ.M, σ.wp, true⟩, h, r.st hx rfl rfl (fun c e => by
                  cases e
                  exact fun z hz => (spl_mem hz).elim (wfCs_of hy hsy z) (r.H i _ cs hx rfl z)) hb g, AgrH.set hl, rfl⟩
            · exact h.elim
          · exact h.elim
        · rename_i hk hag
          split at h
          · rename_i y hy
            split at h
            · rename_i hh
              have h1 := Nat.eq_of_beq_eq_true hh
              obtain ⟨h2, h⟩ := h
              rw [lenC_eq] at h2
              obtain ⟨h3, h⟩ := one3_elim h
              rw [fH_eq] at h
              exact one (.l cs) _ T ⟨denCs cs⟩ y (ckT P t) hx rfl rfl (fun c e => by cases e) hl hk hag h1 hy (by simpa [denCs_len] using h2) h3 h
            · exact h.elim
          · exact h.elim
        · exact h.elim
      · rename_i b' A T hx hl
        have hbb : b' = b := by rw [hx] at hwf; simpa using hwf
        subst hbb
        split at h
        · rename_i hk hag
          split at h
          · rename_i y hy
            split at h
            · rename_i hh
              have h1 := Nat.eq_of_beq_eq_true hh
              obtain ⟨h2, h⟩ := h
              obtain ⟨h3, h⟩ := one3_elim h
              rw [fH_eq] at h
              exact one (.r A) _ T A y (ckT P t) hx rfl rfl (fun c e => by cases e) hl hk hag h1 hy h2 h3 h
            · exact h.elim
          · exact h.elim
        · exact h.elim
      · exact G0 h
      · exact h.elim
    · exact G0 h
  · rename_i t ho
    split at h
    · rename_i z hz
      refine NW _ _ _ (wfCs_lit _ _) (fun bs b hb => ?_) h ?_
      · show bs[lenH σ.H]? = some b; rw [lenH_eq]; exact hb
      · simp [execOp, ho, Instr.alloc, run_zero hz, run_newVar, litCs_den, SV.den, Cel.den]
    · exact h.elim
  · rename_i t x ho
    split at h
    · rename_i hag
      split at h
      · rename_i cs hcs
        refine NW _ _ _ (wfCs_of hcs (wfS_ev r.env x)) (fun bs b hb => ?_) h ?_
        · show bs[lenH σ.H]? = some b; rw [lenH_eq]; exact hb
        · have e : ev (denE σ.env) x = .agg ⟨denCs cs⟩ := by rw [← ev3_den, cellsOf_den hcs]
          simp [execOp, ho, Instr.box, run_newVar, SV.den, Cel.den, e, Value.cells]
      · exact h.elim
    · split at h
      · rename_i y hy
        obtain ⟨h1, h⟩ := one3_elim h
        have hsy := wfS_ev r.env x; rw [hy] at hsy
        refine NW _ _ _ (fun z hz => ?_) (fun bs b hb => ?_) h ?_
        · simp at hz; subst hz; exact hsy
        · show bs[lenH σ.H]? = some b; rw [lenH_eq]; exact hb
        · have e : ev (denE σ.env) x = y.den := by rw [← ev3_den, hy]; rfl
          have e2 := cells_one h1
          have e3 : (execOp (ev (denE σ.env)) o).run P w = .ok (.value (.pointer (some ⟨w.heap.size, 0, none⟩))) (w.alloc (.cells y.den.cells t (0, 0))) := by
            simp [execOp, ho, Instr.box, run_newVar, e]
          rw [e3, e2]; rfl
      · exact h.elim
  · rename_i t len parts ho
    split at h
    · rename_i e hu
      split at h
      · rename_i z hk hz
        split at h
        · rename_i hh
          simp only [Bool.and_eq_true, Bool.not_eq_true'] at hh
          have h1 := Nat.le_of_ble_eq_true hh.1
          have h2 : len * szOf P e ≠ 0 := fun e0 => by rw [e0] at hh; simp at hh
          have h3 := fill3_sound (bsH σ.H) (wf_evps r.env _) (wfCs_lit _ _) h
          rw [litCs_den, denPs_ev] at h3
          obtain ⟨vs, ⟨cs, rfl, hc, hK⟩, hfill⟩ := fillS_sound (place' := fun i => some (i * szOf P e, szOf P e)) (fun i => rfl) h3
          refine NW cs e _ hc (fun bs b hb => ?_) hK ?_
          · show bs[lenH σ.H]? = some b; rw [lenH_eq]; exact hb
          · have hl : (parts.map fun (x : Nat × Operand) => (x.1, ev (denE σ.env) x.2)).toList = parts.toList.map fun p => (p.1, ev (denE σ.env) p.2) := by simp
            have e1 : ¬ len * szOf P e > 2 ^ 24 := by omega
            have e2 : Instr.fill (fun i => some (i * szOf P e, szOf P e)) ((Array.range (len * szOf P e)).map (z.cells[· % z.cells.size]!)) (parts.toList.map fun p => (p.1, ev (denE σ.env) p.2)) = some ⟨denCs cs⟩ := hfill
            have e3 : execOp (ev (denE σ.env)) o = (do pure (.value (← Instr.buildSlice t len (parts.map fun (i, x) => (i, ev (denE σ.env) x)))) : Sem Next) := by simp only [execOp, ho]
            have e4 : (Instr.buildSlice t len (parts.map fun (i, x) => (i, ev (denE σ.env) x))).run P w = .ok (.slice (some ⟨w.heap.size, 0, none⟩) len len) (w.alloc (.cells ⟨denCs cs⟩ e (0, 0))) := by
              simp only [Instr.buildSlice, Sem.run_bind, run_underlying hu, run_sizeOf hk, Result.andThen_ok, Sem.run_ite]
              rw [if_neg e1]
              simp only [Sem.run_pure, Result.andThen_ok, if_neg h2, run_zero hz]
              rw [hl, e2]
              simp [newRow]
            rw [e3]; simp [e4, SV.den, Cel.den]
        · split at h
          · rename_i hh
            simp only [Bool.and_eq_true] at hh
            have h1 := Nat.eq_of_beq_eq_true hh.1
            have h2 := Nat.eq_of_beq_eq_true hh.2
            refine NW [] e _ (fun z hz => by cases hz) (fun bs b hb => ?_) h ?_
            · show bs[lenH σ.H]? = some b; rw [lenH_eq]; exact hb
            · have e2 : parts = #[] := Array.eq_empty_of_size_eq_zero h2
              subst e2
              have e3 : (Array.range 0 : Array Nat) = #[] := by apply Array.toList_inj.1; simp
              have e4 : execOp (ev (denE σ.env)) o = (do pure (.value (← Instr.buildSlice t len #[])) : Sem Next) := by simp [execOp, ho]
              have e5 : (Instr.buildSlice t len #[]).run P w = .ok (.slice (some ⟨w.heap.size, 0, none⟩) len len) (w.alloc (.cells #[] e (0, 0))) := by
                simp only [Instr.buildSlice, Sem.run_bind, run_underlying hu, run_sizeOf hk, Result.andThen_ok, Sem.run_ite]
                simp [h1, Instr.fill, newRow, e3]
              rw [e4]; simp [e5, SV.den, Cel.den, denCs]
          · exact h.elim
      · exact h.elim
    · exact h.elim
  · split at h
    · rename_i hu; exact GH hu h
    · exact h.elim
end
end Go.Vc

/-! A part of the proof that two events of one line are one event: the calculus that follows known memory by computing, and its soundness. By an AI agent. -/

namespace Go.Vc
open Go
section
variable {P : Program} {okf : Ctx} {S : Nat → Prop} {w0 : World} {nE : Nat} {Q : Exit → Act → World → Prop}
theorem exT3_elim {o : Oper} {s : SV} {K : SV → Prop} {bs : List Nat} (h : exT3 P okf o s K) (hs : wfS bs s) : ∃ s', K s' ∧ s'.den = s.den ∧ wfS bs s' := by
  unfold exT3 at h
  split at h
  · split at h
    · have := tyB_elim h
      exact ⟨_, this, (f_if bs _ _).1, (f_if bs _ _).2⟩
    · exact ⟨_, h, rfl, hs⟩
  · exact ⟨_, h, rfl, hs⟩
/-- the slots' state behind a step -/
def AgrS (m : List Nat) (e e' : List SV) : Prop := e'.length = e.length ∧ ∀ i, i ∉ m → nthS e' i = nthS e i
theorem AgrS.refl (m : List Nat) (e : List SV) : AgrS m e e := ⟨rfl, fun _ _ => rfl⟩
theorem AgrS.trans {m : List Nat} {a b c : List SV} (h : AgrS m a b) (k : AgrS m b c) : AgrS m a c := ⟨k.1.trans h.1, fun i hi => (k.2 i hi).trans (h.2 i hi)⟩
theorem AgrS.mono {m m' : List Nat} {a b : List SV} (h : AgrS m a b) (hm : ∀ i, i ∈ m → i ∈ m') : AgrS m' a b := ⟨h.1, fun i hi => h.2 i fun hm' => hi (hm i hm')⟩
theorem putS_len (e : List SV) (i : Nat) (x : SV) : (putS e i x).length = e.length := by
  induction e generalizing i with
  | nil => rfl
  | cons v vs ih => cases i <;> simp [putS, ih]
theorem nthS_put (e : List SV) (i : Nat) (x : SV) (j : Nat) : nthS (putS e i x) j = if i = j ∧ i < e.length then x else nthS e j := by
  induction e generalizing i j with
  | nil => simp [putS, nthS]
  | cons v vs ih =>
    cases i with
    | zero => cases j <;> simp [putS, nthS]
    | succ i => cases j with
      | zero => simp [putS, nthS]
      | succ j => simp [putS, nthS, ih]
theorem AgrS.put (m : List Nat) (e : List SV) (d : Option Nat) (x : SV) (h : ∀ i, d = some i → i ∈ m) : AgrS m e (putSD e d x) := by
  cases d with
  | none => exact .refl _ _
  | some i =>
    refine ⟨putS_len _ _ _, fun j hj => ?_⟩
    simp only [putSD, nthS_put]
    rw [if_neg]
    rintro ⟨rfl, _⟩
    exact hj (h i rfl)
/-- what a step comes to -/
structure Beh (m : List Nat) (lk : Nat → Bool) (S : Nat → Prop) (w0 : World) (σ σ' : Sy) (w' : World) : Prop where
  rel : Rel S w0 σ' w'
  env : AgrS m σ.env σ'.env
  H : AgrH lk σ.H σ'.H
theorem Beh.trans {m : List Nat} {lk : Nat → Bool} {σ σ' σ'' : Sy} {w' w'' : World} (h : Beh m lk S w0 σ σ' w') (k : Beh m lk S w0 σ' σ'' w'') : Beh m lk S w0 σ σ'' w'' := ⟨k.rel, h.env.trans k.env, h.H.trans k.H⟩
theorem Beh.mono {m m' : List Nat} {lk lk' : Nat → Bool} {σ σ' : Sy} {w' : World} (h : Beh m lk S w0 σ σ' w') (hm : ∀ i, i ∈ m → i ∈ m') (hl : ∀ i, lk' i = true → lk i = true) : Beh m' lk' S w0 σ σ' w' := ⟨h.rel, h.env.mono hm, h.H.mono hl⟩
theorem Rel.put {σ : Sy} {w : World} (r : Rel S w0 σ w) (d : Option Nat) {s : SV} (hs : wfS (bsH σ.H) s) : Rel S w0 ⟨putSD σ.env d s, σ.H, σ.M, σ.wp, σ.dy⟩ w := ⟨r.fr, wfE_putD r.env d hs, r.H, r.dy⟩
theorem dsts_mem {ops : Array Oper} {i : Nat} {o : Oper} (ho : ops[i]? = some o) : ∀ d, o.dst = some d → d ∈ dsts ops := fun d hd => by
  simp only [dsts, List.mem_filterMap]
  exact ⟨o, by simpa using Array.mem_of_getElem? ho, hd⟩
theorem one3o_sound (hok : ∀ n, okf.fns.contains n = true → okFn P n = true) {ops : Array Oper} {lk : Nat → Bool} {hvs : List (Nat × List Nat)} {i : Nat} {σ : Sy} {K : Sy → Prop} {w : World} (h : one3o P okf S w0 ops lk hvs i σ K) (r : Rel S w0 σ w) :
    wpOp P ops Q i (fun a w' => ∃ σ', a = act (denE σ'.env) ∧ Beh (dsts ops) lk S w0 σ σ' w' ∧ K σ') (act (denE σ.env)) w := by
  unfold one3o at h
  unfold wpOp
  split at h
  · rename_i ho; simp only [ho]; exact ⟨σ, rfl, ⟨r, .refl _ _, .refl _ _⟩, h⟩
  · rename_i o ho
    simp only [ho]
    have hd := dsts_mem ho
    split at h
    · rename_i hw
      have hw' : Region.wanted o (yielded ops (act (denE σ.env)).tmps) = true := hw
      rw [if_pos hw']
      refine .inl ?_
      split at h
      · have key : ∀ σ1 : Sy, Rel S w0 σ1 w → σ1.env = σ.env → σ1.H = σ.H → ∀ R : Addr → Value → Prop, (∀ a v, R a v → ∀ w', w' = w → w'.cell? a = some v) →
            sil3 P R (fun _ => true) σ1.env σ1.H o (fun s => exT3 P okf o s fun s => fS s fun s => fE (putSD σ1.env o.dst s) fun e => K ⟨e, σ1.H, σ1.M, σ1.wp, σ1.dy⟩) →
            o.wp P (act (denE σ.env)) w (fun a w' => ∃ σ', a = act (denE σ'.env) ∧ Beh (dsts ops) lk S w0 σ σ' w' ∧ K σ') Q := by
          intro σ1 r1 he hH R hR h
          obtain ⟨s, hK, hs, hr⟩ := sil3_sound (Q := fun w' => w' = w) hR r1.env r1.H (fun i x A hx _ hA w' hw' => by rw [hw']; exact ⟨_, r1.fr.loc i x A hx hA⟩) h
          obtain ⟨s', hK, hd', hs'⟩ := exT3_elim hK hs
          rw [fS_eq, fE_eq] at hK
          unfold Oper.wp
          rw [ev_eq, ← he, hr w rfl, Oper.upon_value, act_put]
          refine ⟨_, ?_, ⟨r1.put o.dst hs', he ▸ AgrS.put _ _ _ _ hd, ?_⟩, hK⟩
          · show _ = act (denE (putSD σ1.env o.dst s')); rw [denE_putD, hd']
          · show AgrH lk σ.H σ1.H; rw [hH]; exact .refl _ _
        split at h
        · obtain ⟨σ1, h, r1, he, hH⟩ := vis_sound h r
          exact key σ1 r1 he hH _ (fun a v hv w' hw' => by rw [hw']; exact hv) h
        · exact key σ r rfl rfl _ (fun a v hv => hv.elim) h
      · refine ns3_sound hok h r fun s σ' w' hK r' ha he hs => ?_
        rw [fS_eq, fE_eq] at hK
        refine ⟨_, ?_, ⟨r'.put o.dst hs, ?_, ha⟩, hK⟩
        · show _ = act (denE (putSD σ'.env o.dst s)); rw [denE_putD, he]
        · show AgrS _ _ (putSD σ'.env o.dst s); rw [he]; exact AgrS.put _ _ _ _ hd
    · rename_i hw
      have hw' : ¬ Region.wanted o (yielded ops (act (denE σ.env)).tmps) = true := by
        have : Region.wanted o (yielded ops (act (denE σ.env)).tmps) = false := hw
        simp [this]
      rw [fE_eq] at h
      rw [if_neg hw', act_put]
      refine ⟨_, ?_, ⟨r.put o.dst (s := .c (.v undef)) trivial, AgrS.put _ _ _ _ hd, .refl _ _⟩, h⟩
      show _ = act (denE (putSD σ.env o.dst _)); rw [denE_putD]; rfl
theorem ops3_sound (hok : ∀ n, okf.fns.contains n = true → okFn P n = true) {ops : Array Oper} {lk : Nat → Bool} {hvs : List (Nat × List Nat)} {K : Sy → Prop} {σ0 : Sy} (hq : ∀ σ w, Beh (dsts ops) lk S w0 σ0 σ w → K σ → Q .normal (act (denE σ.env)) w) :
    ∀ {is : List Nat} {σ : Sy} {w : World}, Beh (dsts ops) lk S w0 σ0 σ w → ops3 P okf S w0 ops lk hvs is σ K → wpOps P ops Q is (act (denE σ.env)) w := by
  intro is
  induction is with
  | nil => intro σ w hb h; exact hq _ _ hb h
  | cons i is ih =>
    intro σ w hb h
    rw [wpOps_cons]
    refine wpOp_mono ?_ (one3o_sound hok h hb.rel)
    rintro a w ⟨σ', rfl, hb', h'⟩
    exact ih (hb.trans hb') h'
/-- what stays so in a region -/
def SReg (H0 : List Bk) (rd : Nat → Bool) (Su : World → Prop) (w : World) : Prop := Su w ∧ ∀ i x A, nthH H0 i = some x → rd i = true → x.cs.arr = some A → w.heap[x.b]? = some (.cells A x.T (0, 0))
theorem SReg.of {H0 : List Bk} {rd : Nat → Bool} {Su : World → Prop} {lk : Nat → Bool} {σ : Sy} {w : World} (r : Rel S w0 σ w) (ha : AgrH lk H0 σ.H) (hl : ∀ i, rd i = true → lk i = true) (hs : Su w) : SReg H0 rd Su w :=
  ⟨hs, fun i x A hx hr hA => by
    obtain ⟨x', h1, _, _, _, h5⟩ := ha i x hx
    have := h5 (hl i hr); subst this
    exact r.fr.loc i _ A h1 hA⟩
theorem any3_sound (hok : ∀ n, okf.fns.contains n = true → okFn P n = true) {ops : Array Oper} {user : Bool} {Su : World → Prop} {rd lk : Nat → Bool} {hvs : List (Nat × List Nat)} {K : Sy → Prop} {σ0 : Sy} (hns : Region.noSelect ops = true)
    (hQ : ∀ c a w d v, Q (.panic c) (Act.put a d v) w → Q (.panic c) a w) (hl : ∀ i, rd i = true → lk i = true) (hrd : ∀ i, rd i = true → i < σ0.H.length) (hu : user = false → ∀ w, Su w)
    (hq : ∀ σ w, Beh (dsts ops) lk S w0 σ0 σ w → K σ → Q .normal (act (denE σ.env)) w) :
    ∀ {n : Nat} {listed : Array Bool} {σ : Sy} {w : World}, Closed ops listed → Beh (dsts ops) lk S w0 σ0 σ w → Su w → any3 P okf S w0 ops user Su rd lk hvs n listed σ K →
      anyL P ops Q (SReg σ0.H rd Su) n listed (act (denE σ.env)) w := by
  intro n
  induction n with
  | zero =>
    intro listed σ w hcl hb hS h
    unfold any3 at h
    split at h
    · rename_i hr; exact anyL_done hr (hq _ _ hb h) 0
    · exact h.elim
  | succ n ih =>
    intro listed σ w hcl hb hS h
    unfold any3 at h
    split at h
    · rename_i hr; exact anyL_done hr (hq _ _ hb h) _
    · rename_i r rs hr
      have hreg := SReg.of (Su := Su) hb.rel hb.H hl hS
      split at h
      · rename_i i hi
        have hs := List.find?_some hi
        rw [Bool.and_eq_true] at hs
        have hs := hs.1
        simp only [silAt, Bool.and_eq_true] at hs
        obtain ⟨⟨hs, hf⟩, hrd'⟩ := hs
        unfold silo3 at h
        split at h
        · exact h.elim
        · rename_i o ho
          have hd := dsts_mem ho
          split at h
          · rename_i hw
            have hw' : Region.wanted o (yielded ops (act (denE σ.env)).tmps) = true := hw
            obtain ⟨s, hK, hs', hrun⟩ := sil3_sound (Q := SReg σ0.H rd Su) (fun a v hv w' hw' => hv w' hw'.1) hb.rel.env hb.rel.H (fun j x A hx hj hA w' hw' => by
              have hj0 := hrd j hj
              cases hx0 : nthH σ0.H j with
              | none => rw [nthH_eq] at hx0; rw [List.getElem?_eq_none_iff] at hx0; omega
              | some x0 =>
                obtain ⟨x', h1, _, _, _, h5⟩ := hb.H j x0 hx0
                have := h5 (hl j hj); subst this
                rw [hx] at h1; cases h1
                exact ⟨_, hw'.2 j x A hx0 hj hA⟩) h
            obtain ⟨s', hK, hd', hs''⟩ := exT3_elim hK hs'
            rw [fS_eq, fE_eq] at hK
            refine anyL_first (v := s.den) ho hns (fun c a w => hQ c a w _ _) n listed _ w (Region.free_spec ho hf) hcl (by simpa using hrd') (.inl ⟨hw', fun w' hw' => by rw [ev_eq]; exact hrun w' hw'⟩) hreg ?_
            rw [act_put]
            have := ih (hcl.set (by simpa using hrd')) (hb.trans ⟨hb.rel.put o.dst hs'', AgrS.put _ _ _ _ hd, .refl _ _⟩) hS hK
            simp only [denE_putD] at this
            rwa [hd'] at this
          · rename_i hw
            have hw' : Region.wanted o (yielded ops (act (denE σ.env)).tmps) = false := hw
            rw [fE_eq] at h
            refine anyL_first (v := undef) ho hns (fun c a w => hQ c a w _ _) n listed _ w (Region.free_spec ho hf) hcl (by simpa using hrd') (.inr ⟨hw', rfl⟩) hreg ?_
            rw [act_put]
            have := ih (hcl.set (by simpa using hrd')) (hb.trans ⟨hb.rel.put o.dst (s := .c (.v undef)) trivial, AgrS.put _ _ _ _ hd, .refl _ _⟩) hS h
            simp only [denE_putD] at this
            exact this
      · refine anyL_all hr (by simp) fun i hi => ?_
        refine wpOp_mono ?_ (one3o_sound hok (allR_elim h i hi) hb.rel)
        rintro a w ⟨σ', rfl, hb', h'⟩
        have hb' := hb.trans hb'
        split at h'
        · rename_i hla
          refine ⟨.inl hla, ?_⟩
          have hrn := isLast_end hcl hla (hr ▸ hi)
          refine anyL_done hrn ?_ n
          cases n with
          | zero => unfold any3 at h'; rw [hrn] at h'; exact hq _ _ hb' h'
          | succ n => unfold any3 at h'; rw [hrn] at h'; exact hq _ _ hb' h'
        · unfold keep3 at h'
          split at h'
          · obtain ⟨σ2, ⟨hS2, h2⟩, r2, he, hH⟩ := vis_sound h' hb'.rel
            have hb2 : Beh (dsts ops) lk S w0 σ0 σ2 w := ⟨r2, he ▸ hb'.env, hH ▸ hb'.H⟩
            rw [← he]
            exact ⟨.inr (SReg.of r2 hb2.H hl hS2), ih (hcl.set (hr ▸ hi)) hb2 hS2 h2⟩
          · have hS2 := hu rfl w
            exact ⟨.inr (SReg.of hb'.rel hb'.H hl hS2), ih (hcl.set (hr ▸ hi)) hb' hS2 h'⟩
end
end Go.Vc

/-! A part of the proof that two events of one line are one event: the calculus that follows known memory by computing, and its soundness. By an AI agent. -/

namespace Go.Vc
open Go
section
variable {P : Program} {okf : Ctx} (hok : ∀ n, okf.fns.contains n = true → okFn P n = true) {S : Nat → Prop} {w0 : World} {nE : Nat} {Q : Exit → Act → World → Prop}
theorem forget1_get (keep : List Nat) (nE : Nat) (lk : Nat → Bool) : ∀ (H : List Bk) (i j : Nat) (x' : Bk), nthH (forget1 keep nE lk i H) j = some x' →
    ∃ x, nthH H j = some x ∧ x'.b = x.b ∧ x'.T = x.T ∧ x'.wr = x.wr ∧ (x' = x ∨ lk (i + j) = false ∧ x'.cs = .x)
  | [], i, j, x', h => by cases h
  | ⟨b, c, T, w⟩ :: H, i, 0, x', h => by
    simp only [forget1] at h
    refine ⟨_, rfl, ?_⟩
    split at h
    · cases h; exact ⟨rfl, rfl, rfl, .inl rfl⟩
    · rename_i hh
      cases h
      simp only [Bool.or_eq_false_iff] at hh
      exact ⟨rfl, rfl, rfl, .inr ⟨hh.2, rfl⟩⟩
  | ⟨b, c, T, w⟩ :: H, i, j + 1, x', h => by
    simp only [forget1] at h
    have h : nthH (forget1 keep nE lk (i + 1) H) j = some x' := by split at h <;> exact h
    obtain ⟨x, h1, h2⟩ := forget1_get keep nE lk H (i + 1) j x' h
    rw [show i + 1 + j = i + (j + 1) by omega] at h2
    exact ⟨x, h1, h2⟩
theorem forget1_len (keep : List Nat) (nE : Nat) (lk : Nat → Bool) : ∀ (H : List Bk) (i : Nat), (forget1 keep nE lk i H).length = H.length
  | [], i => rfl
  | ⟨b, c, T, w⟩ :: H, i => by simp [forget1, forget1_len keep nE lk H]
/-- the same state, told with less -/
theorem Rel.less {σ : Sy} {w : World} (r : Rel S w0 σ w) {H' : List Bk} (hl : H'.length = σ.H.length)
    (h : ∀ j x', nthH H' j = some x' → ∃ x, nthH σ.H j = some x ∧ x'.b = x.b ∧ x'.T = x.T ∧ x'.wr = x.wr ∧ (x' = x ∨ x'.cs = .x)) : Rel S w0 ⟨σ.env, H', σ.M, σ.wp, σ.dy⟩ w ∧ bsH H' = bsH σ.H := by
  have hb : bsH H' = bsH σ.H := by
    apply List.ext_getElem?
    intro j
    rw [bsH_get, bsH_get]
    cases hx : nthH H' j with
    | none =>
      have : nthH σ.H j = none := by
        rw [nthH_eq] at hx ⊢
        rw [List.getElem?_eq_none_iff] at hx ⊢; omega
      rw [this]
    | some x' =>
      obtain ⟨x, h1, h2, _⟩ := h j x' hx
      rw [h1]; simp [h2]
  refine ⟨⟨⟨r.fr.chg, r.fr.stp, fun i x' A hx hA => ?_, fun i j x y hx hy h1 h2 e => ?_, fun i x' hx hw => ?_⟩, by show wfE (bsH H') _; rw [hb]; exact r.env, fun i x' cs hx e => ?_, r.dy⟩, hb⟩
  · obtain ⟨x, h1, h2, h3, h4, h5 | h5⟩ := h i x' hx
    · subst h5; exact r.fr.loc i _ A h1 hA
    · rw [h5] at hA; cases hA
  · obtain ⟨x2, a1, a2, _, _, a5⟩ := h i x hx
    obtain ⟨y2, b1, b2, _, _, b5⟩ := h j y hy
    refine r.fr.dist i j x2 y2 a1 b1 ?_ ?_ (by rw [← a2, ← b2]; exact e)
    · rcases a5 with rfl | a5
      · exact h1
      · rw [a5] at h1; cases h1
    · rcases b5 with rfl | b5
      · exact h2
      · rw [b5] at h2; cases h2
  · obtain ⟨x, h1, h2, _, h4, _⟩ := h i x' hx
    rw [h2]; exact r.fr.new i x h1 (h4 ▸ hw)
  · show wfCs (bsH H') cs
    rw [hb]
    obtain ⟨x, h1, h2, _, h4, h5 | h5⟩ := h i x' hx
    · subst h5; exact r.H i _ cs h1 e
    · rw [h5] at e; cases e
theorem forget_sound {keep : Option (List Nat)} {lk : Nat → Bool} {σ : Sy} {K : Sy → Prop} {w : World} (h : forget keep nE lk σ K) (r : Rel S w0 σ w) :
    ∃ σ', K σ' ∧ Rel S w0 σ' w ∧ AgrH lk σ.H σ'.H ∧ σ'.env = σ.env := by
  unfold forget at h
  split at h
  · exact ⟨σ, h, r, .refl _ _, rfl⟩
  · rw [fH_eq] at h
    have hl := forget1_len (refsH σ.H (refsH σ.H (refsH σ.H (refsAt σ.env ‹_›)))) nE lk σ.H 0
    have hg := forget1_get (refsH σ.H (refsH σ.H (refsH σ.H (refsAt σ.env ‹_›)))) nE lk σ.H 0
    refine ⟨_, h, (r.less hl fun j x' hx => ?_).1, fun i x hx => ?_, rfl⟩
    · obtain ⟨x, h1, h2, h3, h4, h5⟩ := hg j x' hx
      exact ⟨x, h1, h2, h3, h4, h5.imp id (·.2)⟩
    · have hi := nthH_lt hx
      rw [← hl] at hi
      have : ∃ x', nthH (forget1 (refsH σ.H (refsH σ.H (refsH σ.H (refsAt σ.env ‹_›)))) nE lk 0 σ.H) i = some x' := by
        rw [nthH_eq]; exact ⟨_, List.getElem?_eq_getElem hi⟩
      obtain ⟨x', hx'⟩ := this
      obtain ⟨x2, h1, h2, h3, h4, h5⟩ := hg i x' hx'
      rw [hx] at h1; cases h1
      refine ⟨x', hx', h2, h3, h4, fun hlk => ?_⟩
      rcases h5 with h5 | h5
      · exact h5
      · rw [Nat.zero_add] at h5; rw [hlk] at h5; cases h5.1

/-! ## heads of loops and of cuts -/
theorem lvOk_mem {m : List Nat} : ∀ {l : List (Nat × Sk)}, lvOk m l = true → ∀ x, x ∈ l → x.1 ∈ m
  | [], _, x, hx => by cases hx
  | (i, k) :: l, h, x, hx => by
    simp only [lvOk, Bool.and_eq_true] at h
    rcases List.mem_cons.1 hx with rfl | hx
    · simpa using h.1
    · exact lvOk_mem h.2 x hx
theorem gsOk_lk {lk : Nat → Bool} {H : List Bk} : ∀ {g : List (Nat × Sk)}, gsOk H lk g = true → ∀ x, x ∈ g → lk x.1 = false
  | [], _, x, hx => by cases hx
  | (i, k) :: l, h, x, hx => by
    simp only [gsOk, Bool.and_eq_true, Bool.not_eq_true'] at h
    rcases List.mem_cons.1 hx with rfl | hx
    · exact h.1.1
    · exact gsOk_lk h.2 x hx
theorem gsLive_get {H : List Bk} : ∀ {g : List (Nat × Sk)}, gsLive H g = true → ∀ x, x ∈ g → ∃ y A, nthH H x.1 = some y ∧ y.cs.arr = some A ∧ blkV H x.1 = .agg A
  | [], _, x, hx => by cases hx
  | (i, k) :: l, h, x, hx => by
    simp only [gsLive, Bool.and_eq_true] at h
    rcases List.mem_cons.1 hx with rfl | hx
    · have h1 := h.1
      split at h1
      · rename_i hy; exact ⟨_, _, hy, rfl, by simp only [blkV, hy]; rfl⟩
      · rename_i hy; exact ⟨_, _, hy, rfl, by simp only [blkV, hy]; rfl⟩
      · cases h1
    · exact gsLive_get h.2 x hx
theorem csOf_arr (k : Sk) (A : Array Value) : (csOf k (.agg A)).arr = some A := by
  cases k with
  | a ks => simp [csOf, Cs.arr, cvs_den]
  | c k => rfl
theorem csOf_wf (k : Sk) (v : Value) (bs : List Nat) : ∀ cs, csOf k v = .l cs → wfCs bs cs := by
  intro cs h
  cases k with
  | a ks =>
    cases v <;> simp only [csOf] at h <;> first | cases h; exact wfCs_cvs _ _ | cases h
  | c k => cases h
theorem setHs_len : ∀ (g : List (Nat × Sk)) (vs : List Value) (H : List Bk), (setHs H g vs).length = H.length
  | [], vs, H => rfl
  | (i, k) :: g, vs, H => by simp [setHs, setHs_len g, setH_len]
theorem setHs_bs : ∀ (g : List (Nat × Sk)) (vs : List Value) (H : List Bk), bsH (setHs H g vs) = bsH H
  | [], vs, H => rfl
  | (i, k) :: g, vs, H => by simp [setHs, setHs_bs g, bsH_set]
theorem setHs_wf (bs : List Nat) : ∀ (g : List (Nat × Sk)) (vs : List Value) (H : List Bk), wfH bs H → wfH bs (setHs H g vs)
  | [], vs, H, h => h
  | (i, k) :: g, vs, H, h => setHs_wf bs g vs.tail _ (wfH_set h (csOf_wf _ _ _))
theorem setHs_get (H1 : List Bk) : ∀ (g : List (Nat × Sk)) (H : List Bk), gsLive H1 g = true → ∀ i x', nthH (setHs H g (g.map fun x => blkV H1 x.1)) i = some x' →
    ∃ x, nthH H i = some x ∧ x'.b = x.b ∧ x'.T = x.T ∧ x'.wr = x.wr ∧ ((i ∉ g.map (·.1) ∧ x'.cs = x.cs) ∨ i ∈ g.map (·.1) ∧ ∃ A y, nthH H1 i = some y ∧ y.cs.arr = some A ∧ x'.cs.arr = some A)
  | [], H, _, i, x', h => ⟨x', h, rfl, rfl, rfl, .inl ⟨by simp, rfl⟩⟩
  | (i0, k) :: g, H, hl, i, x', h => by
    simp only [setHs, List.map_cons, List.headD_cons, List.tail_cons] at h
    obtain ⟨y0, A0, hy0, hA0, hv0⟩ := gsLive_get hl (i0, k) List.mem_cons_self
    have hl' : gsLive H1 g = true := by simp only [gsLive, Bool.and_eq_true] at hl; exact hl.2
    obtain ⟨x, h1, h2, h3, h4, h5⟩ := setHs_get H1 g _ hl' i x' h
    rw [nthH_set] at h1
    split at h1
    · rename_i e; subst e
      cases hx : nthH H i0 with
      | none => rw [hx] at h1; cases h1
      | some x0 =>
        rw [hx] at h1; cases h1
        refine ⟨x0, rfl, h2, h3, h4, .inr ⟨List.mem_cons_self, ?_⟩⟩
        rcases h5 with ⟨_, h5⟩ | ⟨_, h5⟩
        · refine ⟨A0, y0, hy0, hA0, ?_⟩
          rw [h5]
          have hv0 : blkV H1 i0 = .agg A0 := hv0
          show (csOf k (blkV H1 i0)).arr = _
          rw [hv0, csOf_arr]
        · exact h5
    · rename_i e
      refine ⟨x, h1, h2, h3, h4, ?_⟩
      rcases h5 with ⟨h5, h6⟩ | h5
      · exact .inl ⟨by simp only [List.map_cons, List.mem_cons, not_or]; exact ⟨fun h => e h.symm, h5⟩, h6⟩
      · exact .inr ⟨List.mem_cons_of_mem _ h5.1, h5.2⟩
theorem svOf_den (k : Sk) (v : Value) : (svOf k v).den = v := by
  unfold svOf; split
  · exact litV_den v
  · rfl
theorem svOf_wf (k : Sk) (v : Value) (bs : List Nat) : wfS bs (svOf k v) := by
  unfold svOf; split
  · exact wfS_litV bs v
  · exact trivial
theorem denE_setAllS : ∀ (l : List (Nat × Sk)) (vs : List Value) (e : List SV), denE (setAllS e l vs) = setAll (denE e) (l.map (·.1)) vs
  | [], vs, e => rfl
  | (i, k) :: l, vs, e => by simp only [setAllS, setAll, List.map_cons, denE_setAllS l, denE_put, svOf_den]
theorem denE_resetS (D : Nat → Value) : ∀ (m : List Nat) (e : List SV), denE (resetS e m D) = reset (denE e) m D
  | [], e => rfl
  | i :: m, e => by simp only [resetS, reset, denE_resetS D m, denE_put]; rfl
theorem wfE_setAllS {bs : List Nat} : ∀ (l : List (Nat × Sk)) (vs : List Value) (e : List SV), wfE bs e → wfE bs (setAllS e l vs)
  | [], vs, e, h => h
  | (i, k) :: l, vs, e, h => wfE_setAllS l _ _ (wfE_put h i (svOf_wf _ _ _))
theorem wfE_resetS {bs : List Nat} (D : Nat → Value) : ∀ (m : List Nat) (e : List SV), wfE bs e → wfE bs (resetS e m D)
  | [], e, h => h
  | i :: m, e, h => wfE_resetS D m _ (wfE_put h i (s := .c (.v (D i))) trivial)
theorem AgrS.setAllS {m : List Nat} : ∀ (l : List (Nat × Sk)) (vs : List Value) (e : List SV), (∀ x, x ∈ l → x.1 ∈ m) → AgrS m e (setAllS e l vs)
  | [], vs, e, h => .refl _ _
  | (i, k) :: l, vs, e, h => (AgrS.put m e (some i) _ (by rintro j hj; cases hj; exact h _ List.mem_cons_self)).trans (AgrS.setAllS l _ _ fun x hx => h x (List.mem_cons_of_mem _ hx))
theorem AgrS.resetS (D : Nat → Value) : ∀ (m' : List Nat) (e : List SV) {m : List Nat}, (∀ i, i ∈ m' → i ∈ m) → AgrS m e (resetS e m' D)
  | [], e, m, h => .refl _ _
  | i :: m', e, m, h => (AgrS.put m e (some i) _ (by rintro j hj; cases hj; exact h _ List.mem_cons_self)).trans (AgrS.resetS D m' _ fun x hx => h x (List.mem_cons_of_mem _ hx))
theorem AgrS.den {m : List Nat} {e e' : List SV} (h : AgrS m e e') : Agr m (denE e) (denE e') :=
  ⟨by rw [denE_len, denE_len, h.1], fun i hi => by rw [← denE_nth, ← denE_nth, h.2 i hi]⟩
/-- the head's state is the one that is there -/
theorem head_sound {m : List Nat} {lk : Nat → Bool} {live gs : List (Nat × Sk)} {σ0 σ1 : Sy} {w w1 : World} (r0 : Rel S w0 σ0 w) (hg : gsOk σ0.H lk gs = true) (hlv : lvOk m live = true)
    (hb : Beh m (lock σ0.H gs lk) S w0 σ0 σ1 w1) (hl : gsLive σ1.H gs = true) :
    let σh : Sy := ⟨setAllS (resetS σ0.env m fun i => (nthS σ1.env i).den) live (gVals σ1 live gs), setHs σ0.H gs (dropV live (gVals σ1 live gs)), [], w1, false⟩
    Rel S w0 σh w1 ∧ denE σh.env = denE σ1.env ∧ AgrS m σ0.env σh.env ∧ AgrH (lock σ0.H gs lk) σ0.H σh.H := by
  intro σh
  have hdrop : dropV live (gVals σ1 live gs) = gs.map fun x => blkV σ1.H x.1 := by simp [dropV, gVals]
  have hH : σh.H = setHs σ0.H gs (gs.map fun x => blkV σ1.H x.1) := by show setHs σ0.H gs (dropV live (gVals σ1 live gs)) = _; rw [hdrop]
  have hbs : bsH σh.H = bsH σ0.H := setHs_bs _ _ _
  have get := setHs_get σ1.H gs σ0.H hl
  rw [← hH] at get
  -- each block of the head is one that is there, with the same cells
  have same : ∀ i x', nthH σh.H i = some x' → ∃ y, nthH σ1.H i = some y ∧ x'.b = y.b ∧ x'.T = y.T ∧ x'.wr = y.wr ∧ x'.cs.arr = y.cs.arr := by
    intro i x' hx'
    obtain ⟨x, h1, h2, h3, h4, h5⟩ := get i x' hx'
    obtain ⟨y, k1, k2, k3, k4, k5⟩ := hb.H i x h1
    refine ⟨y, k1, h2.trans k2.symm, h3.trans k3.symm, h4.trans k4.symm, ?_⟩
    rcases h5 with ⟨h5, h6⟩ | ⟨_, A, z, h5, h6, h7⟩
    · have : lock σ0.H gs lk i = true := by
        have hi := nthH_lt h1
        have hi' : Nat.blt i σ0.H.length = true := Nat.ble_eq_true_of_le hi
        simp only [lock, lenH_eq, hi']
        simp at h5 ⊢
        exact .inr h5
      rw [k5 this, h6]
    · rw [k1] at h5; cases h5; rw [h6, h7]
  have hlen : σh.H.length = σ0.H.length := by rw [hH]; exact setHs_len _ _ _
  refine ⟨⟨⟨hb.rel.fr.chg, .refl _ _, fun i x' A hx hA => ?_, fun i j x y hx hy h1 h2 e => ?_, fun i x' hx hw => ?_⟩, ?_, ?_, fun _ => rfl⟩, ?_, ?_, fun i x hx => ?_⟩
  · obtain ⟨y, k1, k2, k3, k4, k5⟩ := same i x' hx
    rw [k2, k3]; exact hb.rel.fr.loc i y A k1 (k5 ▸ hA)
  · obtain ⟨x2, a1, a2, _, _, a5⟩ := same i x hx
    obtain ⟨y2, b1, b2, _, _, b5⟩ := same j y hy
    exact hb.rel.fr.dist i j x2 y2 a1 b1 (a5 ▸ h1) (b5 ▸ h2) (by rw [← a2, ← b2]; exact e)
  · obtain ⟨y, k1, k2, k3, k4, k5⟩ := same i x' hx
    rw [k2]; exact hb.rel.fr.new i y k1 (k4 ▸ hw)
  · show wfE (bsH σh.H) _; rw [hbs]; exact wfE_setAllS _ _ _ (wfE_resetS _ _ _ r0.env)
  · show wfH (bsH σh.H) _; rw [hbs]; exact setHs_wf _ _ _ _ r0.H
  · show denE (setAllS _ _ _) = _
    rw [denE_setAllS, denE_resetS]
    have hf := hb.env.den.form (live.map (·.1))
    conv => rhs; rw [hf]
    have e1 : (fun i => (nthS σ1.env i).den) = nth (denE σ1.env) := by funext i; exact denE_nth _ _
    rw [e1]
    -- only the first of the values are taken
    have tk : ∀ (l : List (Nat × Sk)) (e : List Value) (r : List Value), setAll e (l.map (·.1)) (l.map (fun x => (nthS σ1.env x.1).den) ++ r) = setAll e (l.map (·.1)) ((l.map (·.1)).map (nth (denE σ1.env))) := by
      intro l
      induction l with
      | nil => intro e r; rfl
      | cons x l ih =>
        intro e r
        simp only [List.map_cons, List.cons_append, setAll, List.headD_cons, List.tail_cons]
        rw [denE_nth, ih]
    exact tk live _ _
  · exact (AgrS.resetS _ m _ fun _ h => h).trans (AgrS.setAllS _ _ _ (lvOk_mem hlv))
  · have hi := nthH_lt hx
    rw [← hlen] at hi
    obtain ⟨x', hx'⟩ : ∃ x', nthH σh.H i = some x' := by rw [nthH_eq]; exact ⟨_, List.getElem?_eq_getElem hi⟩
    obtain ⟨x2, h1, h2, h3, h4, h5⟩ := get i x' hx'
    rw [hx] at h1; cases h1
    refine ⟨x', hx', h2, h3, h4, fun hlk => ?_⟩
    have hni : i ∉ gs.map (·.1) := by
      intro hm
      simp only [lock, Bool.or_eq_true, Bool.and_eq_true, Bool.not_eq_true', List.contains_eq_mem, decide_eq_false_iff_not] at hlk
      rcases hlk with hlk | hlk
      · obtain ⟨g, hg1, hg2⟩ := List.mem_map.1 hm
        have := gsOk_lk hg g hg1
        rw [hg2, hlk] at this; cases this
      · exact hlk.2 hm
    rcases h5 with ⟨_, h6⟩ | ⟨h6, _⟩
    · cases x'; cases x; simp_all
    · exact absurd h6 hni
end
end Go.Vc
