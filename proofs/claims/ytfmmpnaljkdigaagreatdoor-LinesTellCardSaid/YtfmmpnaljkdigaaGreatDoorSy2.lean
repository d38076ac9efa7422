/-
  A part of the proof that two events of one line are one event: the calculus that follows known memory by computing, and its soundness. By an AI agent.
-/
import Derived.Test.YtfmmpnaljkdigaaGreatDoorSy1
set_option linter.unusedVariables false
set_option linter.unusedSimpArgs false
namespace Go.Vc
open Go
/-! ## the words of the state, said in values -/
theorem denE_nth (env : List SV) (n : Nat) : (nthS env n).den = nth (denE env) n := by
  induction env generalizing n with
  | nil => rfl
  | cons v vs ih => cases n with
    | zero => rfl
    | succ n => exact ih n
theorem denE_put (env : List SV) (n : Nat) (s : SV) : denE (putS env n s) = put (denE env) n s.den := by
  induction env generalizing n with
  | nil => rfl
  | cons v vs ih => cases n with
    | zero => rfl
    | succ n => show _ :: denE _ = _ :: put (denE vs) n s.den; rw [ih]
theorem denE_putD (env : List SV) (d : Option Nat) (s : SV) : denE (putSD env d s) = putD (denE env) d s.den := by
  cases d with
  | none => rfl
  | some d => exact denE_put env d s
theorem denE_len (env : List SV) : (denE env).length = env.length := by
  induction env with
  | nil => rfl
  | cons v vs ih => simp [denE, ih]
theorem litV_den (v : Value) : (litV v).den = v := by cases v <;> rfl
theorem ev3_den (env : List SV) (o : Operand) : (ev3 env o).den = ev (denE env) o := by
  cases o with
  | tmp t => exact denE_nth env t
  | const v => exact litV_den v
  | global g => rfl
  | func f => rfl
theorem cvs_den (l : List Value) : denCs (cvs l) = l := by
  induction l with
  | nil => rfl
  | cons v vs ih => simp [cvs, denCs, ih, Cel.den]
theorem litC_den (v : Value) : (litC v).den = v := by cases v <;> rfl
theorem litCs_den (l : List Value) : denCs (litCs l) = l := by
  induction l with
  | nil => rfl
  | cons v vs ih => simp [litCs, denCs, ih, litC_den]
theorem cellsOf_den {s : SV} {cs : List Cel} (h : cellsOf s = some cs) : s.den = .agg ⟨denCs cs⟩ := by
  cases s with
  | a l => cases h; rfl
  | c x =>
    cases x with
    | v v =>
      cases v
      case agg A => cases h; simp [SV.den, Cel.den, cvs_den]
      all_goals exact absurd h (by simp [cellsOf])
    | _ => simp [cellsOf] at h
theorem lenC_eq (l : List Cel) : lenC l = l.length := by
  induction l with
  | nil => rfl
  | cons v vs ih => simp [lenC, ih]
theorem denCs_len (l : List Cel) : (denCs l).length = l.length := by
  induction l with
  | nil => rfl
  | cons v vs ih => simp [denCs, ih]
theorem denCs_get (l : List Cel) (i : Nat) : (denCs l)[i]? = (nthC l i).map Cel.den := by
  induction l generalizing i with
  | nil => rfl
  | cons v vs ih => cases i with
    | zero => rfl
    | succ i => simpa [denCs, nthC] using ih i
theorem nthC_mem {l : List Cel} {i : Nat} {x : Cel} (h : nthC l i = some x) : x ∈ l := by
  induction l generalizing i with
  | nil => cases h
  | cons v vs ih => cases i with
    | zero => cases h; exact List.mem_cons_self
    | succ i => exact List.mem_cons_of_mem _ (ih h)
theorem denCs_put (l : List Cel) (i : Nat) (x : Cel) : denCs (putC l i x) = (denCs l).set i x.den := by
  induction l generalizing i with
  | nil => rfl
  | cons v vs ih => cases i with
    | zero => rfl
    | succ i => simp [denCs, putC, ih]
theorem putC_mem {l : List Cel} {i : Nat} {x y : Cel} (h : y ∈ putC l i x) : y = x ∨ y ∈ l := by
  induction l generalizing i with
  | nil => cases h
  | cons v vs ih => cases i with
    | zero =>
      rcases List.mem_cons.1 h with h | h
      · exact .inl h
      · exact .inr (List.mem_cons_of_mem _ h)
    | succ i =>
      rcases List.mem_cons.1 h with h | h
      · exact .inr (h ▸ List.mem_cons_self)
      · rcases ih h with h | h
        · exact .inl h
        · exact .inr (List.mem_cons_of_mem _ h)
theorem over_mem {l xs : List Cel} {y : Cel} (h : y ∈ over l xs) : y ∈ xs ∨ y ∈ l := by
  induction xs generalizing l with
  | nil => cases l <;> exact .inr h
  | cons x xs ih => cases l with
    | nil => cases h
    | cons v l =>
      rcases List.mem_cons.1 h with h | h
      · exact .inl (h ▸ List.mem_cons_self)
      · rcases ih h with h | h
        · exact .inl (List.mem_cons_of_mem _ h)
        · exact .inr (List.mem_cons_of_mem _ h)
theorem spl_mem {l xs : List Cel} {n : Nat} {y : Cel} (h : y ∈ spl l n xs) : y ∈ xs ∨ y ∈ l := by
  induction n generalizing l with
  | zero => cases l <;> exact over_mem h
  | succ n ih => cases l with
    | nil => cases h
    | cons v l =>
      rcases List.mem_cons.1 h with h | h
      · exact .inr (h ▸ List.mem_cons_self)
      · rcases ih h with h | h
        · exact .inl h
        · exact .inr (List.mem_cons_of_mem _ h)
theorem over_len (l xs : List Cel) : (over l xs).length = l.length := by
  induction xs generalizing l with
  | nil => cases l <;> rfl
  | cons x xs ih => cases l with
    | nil => rfl
    | cons v l => simp [over, ih]
theorem spl_len (l xs : List Cel) (n : Nat) : (spl l n xs).length = l.length := by
  induction n generalizing l with
  | zero => cases l <;> exact over_len _ _
  | succ n ih => cases l with
    | nil => rfl
    | cons v l => simp [spl, ih]
theorem putMany_get (off : Nat) : ∀ (cs : List Value) (cells : List Value), off + cs.length ≤ cells.length → ∀ i : Nat, (putMany cells off cs)[i]? = if off ≤ i ∧ i < off + cs.length then cs[i - off]? else cells[i]? := by
  have put_get : ∀ (e : List Value) (i : Nat) (x : Value) (j : Nat), (put e i x)[j]? = if i = j ∧ i < e.length then some x else e[j]? := by
    intro e
    induction e with
    | nil => intro i x j; simp [put]
    | cons v vs ih =>
      intro i x j
      cases i with
      | zero => cases j <;> simp [put]
      | succ i => cases j with
        | zero => simp [put]
        | succ j => simp [put, ih]
  have plen : ∀ (e : List Value) (i : Nat) (x : Value), (put e i x).length = e.length := by
    intro e
    induction e with
    | nil => intro i x; rfl
    | cons v vs ih => intro i x; cases i <;> simp [put, ih]
  have key : ∀ (cs : List Value) (k : Nat) (cells : List Value), off + k + cs.length ≤ cells.length → ∀ i : Nat,
      ((cs.zipIdx k).foldl (fun l (c, j) => put l (off + j) c) cells)[i]? = if off + k ≤ i ∧ i < off + k + cs.length then cs[i - (off + k)]? else cells[i]? := by
    intro cs
    induction cs with
    | nil => intro k cells h i; simp; omega
    | cons c cs ih =>
      intro k cells h i
      simp only [List.length_cons] at h
      simp only [List.zipIdx_cons, List.foldl_cons]
      rw [ih (k + 1) _ (by rw [plen]; omega) i, put_get]
      simp only [List.length_cons]
      by_cases h1 : off + (k + 1) ≤ i ∧ i < off + (k + 1) + cs.length
      · rw [if_pos h1, if_pos (by omega)]
        rw [show i - (off + k) = i - (off + (k + 1)) + 1 by omega]
        simp
      · rw [if_neg h1]
        by_cases h2 : off + k = i
        · rw [if_pos ⟨h2, by omega⟩, if_pos (by omega)]
          subst h2; simp
        · rw [if_neg (fun h => h2 h.1), if_neg (by omega)]
  intro cs cells h i
  have := key cs 0 cells (by omega) i
  simpa [putMany] using this
theorem over_get (l xs : List Cel) (h : xs.length ≤ l.length) (i : Nat) : (denCs (over l xs))[i]? = if i < xs.length then (denCs xs)[i]? else (denCs l)[i]? := by
  induction xs generalizing l i with
  | nil => cases l <;> simp [over]
  | cons x xs ih => cases l with
    | nil => simp at h
    | cons v l =>
      cases i with
      | zero => simp [over, denCs]
      | succ i => simpa [over, denCs] using ih l (by simpa using h) i
theorem spl_get (l xs : List Cel) (n : Nat) (h : n + xs.length ≤ l.length) (i : Nat) : (denCs (spl l n xs))[i]? = if n ≤ i ∧ i < n + xs.length then (denCs xs)[i - n]? else (denCs l)[i]? := by
  induction n generalizing l i with
  | zero =>
    have : spl l 0 xs = over l xs := by cases l <;> rfl
    rw [this, over_get l xs (by omega)]
    simp
  | succ n ih => cases l with
    | nil => simp at h
    | cons v l =>
      cases i with
      | zero => simp [spl, denCs]
      | succ i =>
        have := ih l (by simp at h; omega) i
        simp only [spl, denCs, List.getElem?_cons_succ]
        rw [this]
        by_cases h1 : n ≤ i ∧ i < n + xs.length
        · rw [if_pos h1, if_pos (by omega), show i + 1 - (n + 1) = i - n by omega]
        · rw [if_neg h1, if_neg (by omega)]
theorem denCs_spl (l xs : List Cel) (n : Nat) (h : n + xs.length ≤ l.length) : denCs (spl l n xs) = putMany (denCs l) n (denCs xs) := by
  apply List.ext_getElem?
  intro i
  rw [spl_get l xs n h, putMany_get n (denCs xs) (denCs l) (by simpa [denCs_len] using h)]
  simp [denCs_len]
theorem denCs_cut (l : List Cel) (o n : Nat) : denCs (cutC l o n) = ((denCs l).drop o).take n := by
  induction l generalizing o n with
  | nil => cases n <;> simp [cutC, denCs]
  | cons v l ih =>
    cases n with
    | zero => cases o <;> simp [cutC, denCs]
    | succ n => cases o with
      | zero => simpa [cutC, denCs] using ih 0 n
      | succ o => simpa [cutC, denCs] using ih o (n + 1)
theorem cutC_mem {l : List Cel} {o n : Nat} {y : Cel} (h : y ∈ cutC l o n) : y ∈ l := by
  induction l generalizing o n with
  | nil => cases n <;> cases h
  | cons v l ih =>
    cases n with
    | zero => cases o <;> cases h
    | succ n => cases o with
      | zero =>
        rcases List.mem_cons.1 h with h | h
        · exact h ▸ List.mem_cons_self
        · exact List.mem_cons_of_mem _ (ih h)
      | succ o => exact List.mem_cons_of_mem _ (ih h)
theorem nthH_eq (H : List Bk) (i : Nat) : nthH H i = H[i]? := by
  induction H generalizing i with
  | nil => rfl
  | cons v vs ih => cases i with
    | zero => rfl
    | succ i => simpa [nthH] using ih i
theorem lenH_eq (H : List Bk) : lenH H = H.length := by
  induction H with
  | nil => rfl
  | cons v vs ih => simp [lenH, ih]
theorem nthH_set (H : List Bk) (i : Nat) (c : Cs) (j : Nat) : nthH (setH H i c) j = if i = j then (nthH H j).map (fun x => ⟨x.b, c, x.T, x.wr⟩) else nthH H j := by
  induction H generalizing i j with
  | nil => simp [setH, nthH]
  | cons v vs ih =>
    cases i with
    | zero => cases j <;> simp [setH, nthH]
    | succ i => cases j with
      | zero => simp [setH, nthH]
      | succ j => simp [setH, nthH, ih]
theorem setH_len (H : List Bk) (i : Nat) (c : Cs) : (setH H i c).length = H.length := by
  induction H generalizing i with
  | nil => rfl
  | cons v vs ih => cases i <;> simp [setH, ih]
theorem fC_eq {x : Cel} {K : Cel → Prop} : fC x K ↔ K x := by cases x <;> exact Iff.rfl
theorem fL_eq {l : List Cel} {K : List Cel → Prop} : fL l K ↔ K l := by
  induction l generalizing K with
  | nil => exact Iff.rfl
  | cons x l ih => simp only [fL, fC_eq, ih]
theorem fS_eq {s : SV} {K : SV → Prop} : fS s K ↔ K s := by
  cases s with
  | c x => simp only [fS, fC_eq]
  | a l => simp only [fS, fL_eq]
theorem fE_eq {l : List SV} {K : List SV → Prop} : fE l K ↔ K l := by
  induction l generalizing K with
  | nil => exact Iff.rfl
  | cons x l ih => simp only [fE, ih]
theorem fCs_eq {c : Cs} {K : Cs → Prop} : fCs c K ↔ K c := by
  cases c with
  | l cs => simp only [fCs, fL_eq]
  | _ => exact Iff.rfl
theorem fH_eq {l : List Bk} {K : List Bk → Prop} : fH l K ↔ K l := by
  induction l generalizing K with
  | nil => exact Iff.rfl
  | cons x l ih => obtain ⟨b, c, T, w⟩ := x; simp only [fH, fCs_eq, ih]

theorem fKs_eq {l : List Ck} {K : List Ck → Prop} : fKs l K ↔ K l := by
  induction l generalizing K with
  | nil => exact Iff.rfl
  | cons x l ih => cases x <;> simp only [fKs, ih]
theorem fG_eq {l : List (Nat × Sk)} {K : List (Nat × Sk) → Prop} : fG l K ↔ K l := by
  induction l generalizing K with
  | nil => exact Iff.rfl
  | cons x l ih =>
    obtain ⟨i, k⟩ := x
    cases k with
    | c k => simp only [fG, ih]
    | a ks => simp only [fG, fKs_eq, ih]

/-! ## what points into a known block says its number -/
def wfC (bs : List Nat) : Cel → Prop
  | .p i b _ _ => bs[i]? = some b
  | .q i b _ _ _ _ => bs[i]? = some b
  | _ => True
def wfCs (bs : List Nat) (l : List Cel) : Prop := ∀ x, x ∈ l → wfC bs x
def wfS (bs : List Nat) : SV → Prop
  | .c x => wfC bs x
  | .a l => wfCs bs l
def wfE (bs : List Nat) (env : List SV) : Prop := ∀ s, s ∈ env → wfS bs s
def bsH (H : List Bk) : List Nat := H.map (·.b)
def wfH (bs : List Nat) (H : List Bk) : Prop := ∀ i x cs, nthH H i = some x → x.cs = .l cs → wfCs bs cs
theorem bsH_get (H : List Bk) (i : Nat) : (bsH H)[i]? = (nthH H i).map (·.b) := by rw [nthH_eq]; simp [bsH]
theorem wfE_nth {bs : List Nat} {env : List SV} (h : wfE bs env) (n : Nat) : wfS bs (nthS env n) := by
  induction env generalizing n with
  | nil => exact trivial
  | cons v vs ih => cases n with
    | zero => exact h _ List.mem_cons_self
    | succ n => exact ih (fun s hs => h s (List.mem_cons_of_mem _ hs)) n
theorem wfE_put {bs : List Nat} {env : List SV} (h : wfE bs env) (n : Nat) {s : SV} (hs : wfS bs s) : wfE bs (putS env n s) := by
  induction env generalizing n with
  | nil => exact h
  | cons v vs ih => cases n with
    | zero =>
      intro x hx
      rcases List.mem_cons.1 hx with rfl | hx
      · exact hs
      · exact h x (List.mem_cons_of_mem _ hx)
    | succ n =>
      intro x hx
      rcases List.mem_cons.1 hx with rfl | hx
      · exact h _ List.mem_cons_self
      · exact ih (fun s hs => h s (List.mem_cons_of_mem _ hs)) n x hx
theorem wfE_putD {bs : List Nat} {env : List SV} (h : wfE bs env) (d : Option Nat) {s : SV} (hs : wfS bs s) : wfE bs (putSD env d s) := by
  cases d with
  | none => exact h
  | some d => exact wfE_put h d hs
theorem wfS_litV (bs : List Nat) (v : Value) : wfS bs (litV v) := by cases v <;> exact trivial
theorem wfS_ev {bs : List Nat} {env : List SV} (h : wfE bs env) (o : Operand) : wfS bs (ev3 env o) := by
  cases o with
  | tmp t => exact wfE_nth h t
  | const v => exact wfS_litV bs v
  | _ => exact trivial
theorem wfCs_cvs (bs : List Nat) (l : List Value) : wfCs bs (cvs l) := by
  induction l with
  | nil => intro x hx; cases hx
  | cons v vs ih =>
    intro x hx
    rcases List.mem_cons.1 hx with rfl | hx
    · exact trivial
    · exact ih x hx
theorem wfCs_lit (bs : List Nat) (l : List Value) : wfCs bs (litCs l) := by
  induction l with
  | nil => intro x hx; cases hx
  | cons v vs ih =>
    intro x hx
    rcases List.mem_cons.1 hx with rfl | hx
    · cases v <;> exact trivial
    · exact ih x hx
theorem wfCs_of {bs : List Nat} {s : SV} {cs : List Cel} (h : cellsOf s = some cs) (hs : wfS bs s) : wfCs bs cs := by
  cases s with
  | a l => cases h; exact hs
  | c x =>
    cases x with
    | v v =>
      cases v
      case agg A => cases h; exact wfCs_cvs _ _
      all_goals exact absurd h (by simp [cellsOf])
    | _ => simp [cellsOf] at h
theorem wfC_mono {bs bs' : List Nat} (h : ∀ (i b : Nat), bs[i]? = some b → bs'[i]? = some b) {x : Cel} (hx : wfC bs x) : wfC bs' x := by
  cases x with
  | p i b l o => exact h _ _ hx
  | q i b l o n c => exact h _ _ hx
  | _ => exact trivial
theorem wfCs_mono {bs bs' : List Nat} (h : ∀ (i b : Nat), bs[i]? = some b → bs'[i]? = some b) {l : List Cel} (hx : wfCs bs l) : wfCs bs' l := fun x hm => wfC_mono h (hx x hm)
theorem wfS_mono {bs bs' : List Nat} (h : ∀ (i b : Nat), bs[i]? = some b → bs'[i]? = some b) {s : SV} (hs : wfS bs s) : wfS bs' s := by
  cases s with
  | c x => exact wfC_mono h hs
  | a l => exact wfCs_mono h hs
theorem wfE_mono {bs bs' : List Nat} (h : ∀ (i b : Nat), bs[i]? = some b → bs'[i]? = some b) {e : List SV} (hs : wfE bs e) : wfE bs' e := fun s hm => wfS_mono h (hs s hm)

/-! ## operations that only compute, or read -/
section
variable {P : Program} {R : Addr → Value → Prop} {Q : World → Prop}
theorem spl3_elim {isb : Bool} {x : Cel} {K : SV → Prop} (h : spl3 isb x K) (bs : List Nat) (hx : wfC bs x) : ∃ s, K s ∧ s.den = x.den ∧ wfS bs s := by
  cases isb with
  | false => exact ⟨_, h, rfl, hx⟩
  | true =>
    cases x with
    | v v =>
      cases v
      case bool b =>
        cases b
        · exact ⟨_, h.2 rfl, rfl, trivial⟩
        · exact ⟨_, h.1 rfl, rfl, trivial⟩
      all_goals exact ⟨_, h, rfl, hx⟩
    | _ => exact ⟨_, h, rfl, hx⟩
/-- what 'loadVar' asks of memory -/
theorem ldL_run {t : TypeId} {cs : List Cel} {o : Nat} {K : SV → Prop} (h : ldL P t cs o K) (bs : List Nat) (hcs : wfCs bs cs) :
    ∃ s, K s ∧ wfS bs s ∧ (∀ (b : Nat) (w : World) T, w.heap[b]? = some (.cells ⟨denCs cs⟩ T (0, 0)) → (loadVar t ⟨b, o, none⟩).run P w = .ok s.den w) ∧ ∀ w, (part t ⟨denCs cs⟩ o).run P w = .ok s.den w := by
  unfold ldL at h
  split at h
  · rename_i hk ha
    split at h
    · rename_i x hx
      obtain ⟨s, hK, hd, hs⟩ := spl3_elim h bs (hcs _ (nthC_mem hx))
      have hg : (⟨denCs cs⟩ : Array Value)[o]? = some x.den := by
        have := denCs_get cs o; rw [hx] at this; simpa using this
      refine ⟨s, hK, hs, fun b w T hb => ?_, fun w => ?_⟩
      · have hc : w.cell? ⟨b, o, none⟩ = some x.den := by rw [cell_blk hb, hg]
        simp [loadVar, run_isAgg hk, ha, hc, hd]
      · rw [run_part hk, ha, hg, hd]; rfl
    · exact h.elim
  · rename_i hk ha
    split at h
    · rename_i hl
      have hl := Nat.le_of_ble_eq_true hl
      rw [lenC_eq] at hl
      have hcut : denCs (cutC cs o (szOf P t)) = ((denCs cs).drop o).take (szOf P t) := denCs_cut cs o _
      have hlen : (denCs (cutC cs o (szOf P t))).length = szOf P t := by rw [hcut]; simp [denCs_len]; omega
      refine ⟨_, h, fun x hx => hcs x (cutC_mem hx), fun b w T hb => ?_, fun w => ?_⟩
      · have hrow : ∀ (n i : Nat) (acc : Array Value), i + n ≤ szOf P t → (loadCellsFrom ⟨b, o, none⟩ i n acc).run P w = .ok (acc ++ (((denCs (cutC cs o (szOf P t))).drop i).take n).toArray) w := by
          intro n
          induction n with
          | zero => intro i acc _; simp [loadCellsFrom]
          | succ n ih =>
            intro i acc hi
            have hi' : i < (denCs (cutC cs o (szOf P t))).length := by omega
            have hc : w.cell? ((⟨b, o, none⟩ : Addr).add i) = some (denCs (cutC cs o (szOf P t)))[i] := by
              rw [add_mk, cell_blk hb]
              have e1 : (denCs (cutC cs o (szOf P t)))[i]? = (denCs cs)[o + i]? := by
                rw [hcut, List.getElem?_take, if_pos (by omega), List.getElem?_drop]
              have e2 : (denCs (cutC cs o (szOf P t)))[i]? = some (denCs (cutC cs o (szOf P t)))[i] := List.getElem?_eq_getElem hi'
              rw [← e2, e1]; simp
            simp only [loadCellsFrom, Sem.run_bind]
            have hl : (load ((⟨b, o, none⟩ : Addr).add i)).run P w = .ok (denCs (cutC cs o (szOf P t)))[i] w := by simp [load, Sem.run, hc]
            rw [hl, Result.andThen_ok, ih (i + 1) _ (by omega)]
            congr 1
            conv => rhs; rw [List.drop_eq_getElem_cons hi', List.take_succ_cons]
            simp
        have := hrow (szOf P t) 0 #[] (by omega)
        have e3 : ((denCs (cutC cs o (szOf P t))).drop 0).take (szOf P t) = denCs (cutC cs o (szOf P t)) := by
          rw [List.drop_zero, List.take_of_length_le (by omega)]
        rw [e3] at this
        simp [loadVar, run_isAgg hk, ha, run_sizeOf hk, loadCells, this, SV.den]
      · rw [run_part hk, ha]
        simp only [if_true, SV.den]
        congr 2
        rw [hcut]
        apply Array.toList_inj.1
        simp
    · exact h.elim
  · exact h.elim
theorem ldRC_run {A : Array Value} : ∀ {ks : List Ck} {o : Nat} {K : List Value → Prop}, ldRC A o ks K → ∃ vs, K vs ∧ vs.length = ks.length ∧ ∀ i, i < ks.length → A[o + i]? = vs[i]? := by
  intro ks
  induction ks with
  | nil => intro o K h; exact ⟨[], h, rfl, fun i hi => by cases hi⟩
  | cons k ks ih =>
    intro o K h
    obtain ⟨v, hv, h⟩ := tel1_ex h
    obtain ⟨vs, hK, hl, hg⟩ := ih h
    refine ⟨v :: vs, hK, by simp [hl], fun i hi => ?_⟩
    cases i with
    | zero => simpa using hv
    | succ i => have := hg i (by simpa using hi); rw [show o + (i + 1) = o + 1 + i by omega, this]; simp
theorem ldR_run {t : TypeId} {A : Array Value} {o : Nat} {K : SV → Prop} (h : ldR P t A o K) (bs : List Nat) :
    ∃ s, K s ∧ wfS bs s ∧ ∀ (b : Nat) (w : World) T, w.heap[b]? = some (.cells A T (0, 0)) → (loadVar t ⟨b, o, none⟩).run P w = .ok s.den w := by
  unfold ldR at h
  split at h
  · rename_i hk ha
    obtain ⟨v, hv, h⟩ := tel1_ex h
    obtain ⟨s, hK, hd, hs⟩ := spl3_elim h bs trivial
    refine ⟨s, hK, hs, fun b w T hb => ?_⟩
    have hc : w.cell? ⟨b, o, none⟩ = some v := by rw [cell_blk hb, hv]
    have hd' : s.den = v := hd
    simp [loadVar, run_isAgg hk, ha, hc, hd']
  · rename_i hk ha
    split at h
    · rename_i hl
      have hl := Nat.eq_of_beq_eq_true hl
      obtain ⟨vs, hK, hlen, hg⟩ := ldRC_run h
      refine ⟨_, hK, trivial, fun b w T hb => ?_⟩
      have hrow : ∀ (n i : Nat) (acc : Array Value), i + n = szOf P t → (loadCellsFrom ⟨b, o, none⟩ i n acc).run P w = .ok (acc ++ (vs.drop i).toArray) w := by
        intro n
        induction n with
        | zero => intro i acc hi; simp [loadCellsFrom]; omega
        | succ n ih =>
          intro i acc hi
          have hi' : i < vs.length := by omega
          have hc : w.cell? ((⟨b, o, none⟩ : Addr).add i) = some vs[i] := by
            rw [add_mk, cell_blk hb, hg i (by omega)]; exact List.getElem?_eq_getElem hi'
          simp only [loadCellsFrom, Sem.run_bind]
          have hl : (load ((⟨b, o, none⟩ : Addr).add i)).run P w = .ok vs[i] w := by simp [load, Sem.run, hc]
          rw [hl, Result.andThen_ok, ih (i + 1) _ (by omega)]
          congr 1
          rw [List.drop_eq_getElem_cons hi']
          simp
      have := hrow (szOf P t) 0 #[] (by omega)
      simp [loadVar, run_isAgg hk, ha, run_sizeOf hk, loadCells, SV.den, Cel.den]
      rw [this]; simp
    · exact h.elim
  · exact h.elim
theorem one3_elim {c : Ck} {x : Cel} {K : Prop} (h : one3 c x K) : oneC x.den = true ∧ K := by
  cases x with
  | v v => exact one1_elim h
  | _ => exact ⟨rfl, h⟩
theorem one1_intro {c : Ck} {v : Value} {K : Prop} (h : oneC v = true) (k : K) : one1 c v K := by
  unfold one1; split
  · exact ⟨h, k⟩
  · rw [h]; exact k
theorem ones3_elim : ∀ {cs : List Ck} {xs : List Cel} {K : Prop}, ones3 cs xs K → (∀ x, x ∈ xs → oneC x.den = true) ∧ K
  | [], [], K, h => ⟨fun x hx => (by cases hx), h⟩
  | [], _ :: _, K, h => h.elim
  | _ :: _, [], K, h => h.elim
  | c :: cs, x :: xs, K, h => by
    obtain ⟨h1, h2⟩ := one3_elim h
    obtain ⟨h3, h4⟩ := ones3_elim h2
    refine ⟨fun y hy => ?_, h4⟩
    rcases List.mem_cons.1 hy with rfl | hy
    · exact h1
    · exact h3 y hy
def denPs : List (Nat × SV) → List (Nat × Value)
  | [] => []
  | (i, s) :: r => (i, s.den) :: denPs r
theorem denPs_ev (env : List SV) (ps : List (Nat × Operand)) : denPs (evps env ps) = ps.map fun p => (p.1, ev (denE env) p.2) := by
  induction ps with
  | nil => rfl
  | cons p ps ih => obtain ⟨i, o⟩ := p; simp [evps, denPs, ih, ev3_den]
theorem wf_evps {bs : List Nat} {env : List SV} (h : wfE bs env) (ps : List (Nat × Operand)) : ∀ x, x ∈ evps env ps → wfS bs x.2 := by
  induction ps with
  | nil => intro x hx; cases hx
  | cons p ps ih =>
    obtain ⟨i, o⟩ := p
    intro x hx
    rcases List.mem_cons.1 hx with rfl | hx
    · exact wfS_ev h o
    · exact ih x hx
theorem fill3_sound {place : Nat → Option (TypeId × Nat)} (bs : List Nat) : ∀ {parts : List (Nat × SV)} {cells : List Cel} {K : List Cel → Prop}, (∀ x, x ∈ parts → wfS bs x.2) → wfCs bs cells → fill3 P place cells parts K →
    fillS P place (denCs cells) (denPs parts) fun vs => ∃ cs, vs = denCs cs ∧ wfCs bs cs ∧ K cs := by
  intro parts
  induction parts with
  | nil => intro cells K _ hc h; exact ⟨cells, rfl, hc, h⟩
  | cons p parts ih =>
    obtain ⟨i, s⟩ := p
    intro cells K hp hc h
    have hs : wfS bs s := hp (i, s) List.mem_cons_self
    have hp' : ∀ x, x ∈ parts → wfS bs x.2 := fun x hx => hp x (List.mem_cons_of_mem _ hx)
    simp only [fill3] at h
    simp only [denPs, fillS]
    split at h
    · exact h.elim
    · rename_i ft off hpl
      simp only [hpl]
      split at h
      · rename_i hk ha
        simp only [hk, ha]
        split at h
        · rename_i cs hcs
          split at h
          · rename_i hh
            simp only [Bool.and_eq_true] at hh
            have h1 := Nat.eq_of_beq_eq_true hh.1
            have h2 := Nat.le_of_ble_eq_true hh.2
            rw [lenC_eq] at h1 h2
            rw [lenC_eq] at h2
            rw [cellsOf_den hcs]
            simp only [List.size_toArray, denCs_len]
            rw [if_pos ⟨h1, h2⟩]
            rw [fL_eq] at h
            have := ih hp' (fun x hx => (spl_mem hx).elim (wfCs_of hcs hs x) (hc x)) h
            rwa [denCs_spl _ _ _ h2] at this
          · exact h.elim
        · exact h.elim
      · rename_i hk ha
        simp only [hk, ha]
        split at h
        · rename_i y
          split at h
          · rename_i hh
            simp only [Bool.and_eq_true] at hh
            have h1 := Nat.eq_of_beq_eq_true hh.1
            have h2 := Nat.le_of_ble_eq_true hh.2
            rw [lenC_eq] at h2
            rw [denCs_len]
            rw [if_pos ⟨h1, h2⟩]
            obtain ⟨h3, h⟩ := one3_elim h
            rw [fL_eq] at h
            refine one1_intro h3 ?_
            have := ih hp' (fun x hx => (putC_mem hx).elim (fun e => e ▸ hs) (hc x)) h
            have e : denCs (putC cells off y) = put (denCs cells) off y.den := by
              rw [denCs_put]
              have : ∀ (l : List Value) (n : Nat) (v : Value), l.set n v = put l n v := by
                intro l
                induction l with
                | nil => intro n v; rfl
                | cons a l ih => intro n v; cases n <;> simp [put, ih]
              exact this _ _ _
            rwa [e] at this
          · exact h.elim
        · exact h.elim
      · exact h.elim
theorem fillS_mono {place : Nat → Option (TypeId × Nat)} : ∀ {parts : List (Nat × Value)} {cells : List Value} {K K' : List Value → Prop}, (∀ v, K v → K' v) → fillS P place cells parts K → fillS P place cells parts K' := by
  intro parts
  induction parts with
  | nil => intro cells K K' hk h; exact hk _ h
  | cons p parts ih =>
    obtain ⟨i, v⟩ := p
    intro cells K K' hk h
    simp only [fillS] at h ⊢
    split at h
    · exact h.elim
    · rename_i ft off hpl
      try simp only [hpl]
      split at h
      · rename_i hkn ha
        try simp only [hkn, ha]
        split at h
        · split at h
          · rename_i hh; rw [if_pos hh]; exact ih hk h
          · exact h.elim
        · exact h.elim
      · rename_i hkn ha
        try simp only [hkn, ha]
        split at h
        · rename_i hh
          rw [if_pos hh]
          obtain ⟨h1, h2⟩ := one1_elim h
          exact one1_intro h1 (ih hk h2)
        · exact h.elim
      · exact h.elim
theorem build3_sound {env : List SV} {t : TypeId} {parts : Array (Nat × Operand)} {K : SV → Prop} (bs : List Nat) (hw : wfE bs env) (h : build3 P env t parts K) :
    buildS P (denE env) t parts fun v => ∃ s, v = s.den ∧ wfS bs s ∧ K s := by
  unfold build3 at h
  unfold buildS
  split at h
  · rename_i z fs hz hu
    simp only [hz, hu]
    split at h
    · rename_i hk
      rw [if_pos hk]
      have := fill3_sound bs (wf_evps hw _) (wfCs_lit bs _) h
      rw [litCs_den, denPs_ev] at this
      exact fillS_mono (fun v ⟨cs, e, hc, hK⟩ => ⟨.a cs, by rw [e]; rfl, hc, hK⟩) this
    · exact h.elim
  · rename_i z n e hz hu
    simp only [hz, hu]
    split at h
    · rename_i hk
      rw [if_pos hk]
      have := fill3_sound bs (wf_evps hw _) (wfCs_lit bs _) h
      rw [litCs_den, denPs_ev] at this
      exact fillS_mono (fun v ⟨cs, e, hc, hK⟩ => ⟨.a cs, by rw [e]; rfl, hc, hK⟩) this
    · exact h.elim
  · exact h.elim
end
end Go.Vc
