/-
  A part of the proof that two events of one line are one event: the calculus that follows known memory by computing, and its soundness. By an AI agent.
-/
import Derived.Test.YtfmmpnaljkdigaaGreatDoorLb2
import Derived.Test.YtfmmpnaljkdigaaGreatDoorVc7
set_option linter.unusedVariables false
set_option linter.unusedSimpArgs false
namespace Go.Vc
open Go

/-- A block whose cells are known. -/
structure Blk where
  b : Nat
  cs : Array Value
  T : TypeId
  wr : Bool
/-- From w0 on but for S nothing old has changed; from wp on but for M; the blocks L hold what they say. -/
structure Fr (S : Nat → Prop) (w0 wp : World) (M : List Nat) (L : List Blk) (w : World) : Prop where
  chg : Chg S w0 w
  stp : Chg (· ∈ M) wp w
  loc : ∀ x, x ∈ L → w.heap[x.b]? = some (.cells x.cs x.T (0, 0))
  nodup : (L.map (·.b)).Nodup
  new : ∀ x, x ∈ L → x.wr = true → S x.b ∨ w0.heap.size ≤ x.b
abbrev Fs (S : Nat → Prop) (w0 : World) (L : List Blk) (w : World) : Prop := Fr S w0 w [] L w
section
variable {S : Nat → Prop} {w0 wp w : World} {M : List Nat} {L : List Blk}
theorem Fr.init (S : Nat → Prop) (w : World) : Fs S w [] w := ⟨.refl _ _, .refl _ _, (fun x h => by cases h), List.nodup_nil, (fun x h => by cases h)⟩
/-- a block that came in, which is written only if S says so -/
theorem Fr.entry {b : Nat} {cs : Array Value} {T : TypeId} {wr : Bool} (h : Fs S w L w) (hb : w.heap[b]? = some (.cells cs T (0, 0))) (hn : ∀ x, x ∈ L → x.b ≠ b) (hw : wr = true → S b) : Fs S w (⟨b, cs, T, wr⟩ :: L) w :=
  ⟨h.chg, h.stp, fun x hx => by
    rcases List.mem_cons.1 hx with rfl | hx
    · exact hb
    · exact h.loc x hx, by
    rw [List.map_cons, List.nodup_cons]
    exact ⟨fun hm => by obtain ⟨x, hx, he⟩ := List.mem_map.1 hm; exact hn x hx he, h.nodup⟩, fun x hx hwx => by
    rcases List.mem_cons.1 hx with rfl | hx
    · exact .inl (hw hwx)
    · exact h.new x hx hwx⟩
theorem Fr.blk (h : Fr S w0 wp M L w) (j : Nat) {x : Blk} (hj : L[j]? = some x) : w.heap[x.b]? = some (.cells x.cs x.T (0, 0)) := h.loc x (List.mem_of_getElem? hj)
theorem Fr.ld (h : Fr S w0 wp M L w) (j i : Nat) {x : Blk} {a : Addr} {v : Value} (hj : L[j]? = some x) (ha : a = ⟨x.b, i, none⟩) (hv : x.cs[i]? = some v) : w.cell? a = some v := by
  subst ha; rw [cell_blk (h.blk j hj), hv]
theorem Fr.lt (h : Fr S w0 wp M L w) : ∀ x, x ∈ L → x.b < w.heap.size := fun x hx => heap_lt (h.loc x hx)
theorem Fr.reset (h : Fr S w0 wp M L w) : Fs S w0 L w := ⟨h.chg, .refl _ _, h.loc, h.nodup, h.new⟩
theorem Fr.grow (h : Fr S w0 wp [] L w) : Grow wp w := h.stp.mono fun i _ hi => by cases hi
theorem Fr.sub (h : Fr S w0 wp M L w) {L' : List Blk} (hs : L'.Sublist L) : Fr S w0 wp M L' w :=
  ⟨h.chg, h.stp, fun x hx => h.loc x (hs.subset hx), h.nodup.sublist (hs.map _), fun x hx => h.new x (hs.subset hx)⟩
/-- a step that changes nothing of L -/
theorem Fr.step (h : Fr S w0 wp M L w) {w' : World} {S' : Nat → Prop} (g : Chg S' w w') (hn : ∀ x, x ∈ L → ¬ S' x.b) (hs : ∀ k, k < w0.heap.size → S' k → S k) : Fs S w0 L w' :=
  ⟨h.chg.trans g hs, .refl _ _, fun x hx => g.get (h.loc x hx) (hn x hx), h.nodup, h.new⟩
theorem Fr.after (h : Fr S w0 wp M L w) {w' : World} (g : Grow w w') : Fs S w0 L w' := h.step g (fun _ _ h => h) fun _ _ h => h.elim
theorem Fr.more (h : Fr S w0 wp M L w) {w' : World} (g : Grow w w') : Fr S w0 wp M L w' :=
  ⟨h.chg.grow g, h.stp.grow g, fun x hx => g.get (h.loc x hx), h.nodup, h.new⟩
theorem Fr.drew (h : Fr S w0 wp M L w) : Fr S w0 wp M L w.drew := h.more (.drew w)
theorem Fr.newO (h : Fr S w0 wp M L w) {o : Obj} {K : Nat → World → Prop} (k : ∀ r w', r = w.heap.size → w'.heap[r]? = some o → Grow w w' → Fr S w0 wp M L w' → K r w') : NewV w o K :=
  newV fun b w' hb ho _ g => k b w' hb ho g (h.more g)
theorem Fr.newB (h : Fr S w0 wp M L w) {cs : Array Value} {T : TypeId} {K : Nat → World → Prop} (k : ∀ r w', wp.heap.size ≤ r → Fr S w0 wp M (⟨r, cs, T, true⟩ :: L) w' → K r w') : NewV w (.cells cs T (0, 0)) K :=
  newV fun b w' hb ho _ g => k b w' (hb ▸ h.stp.size) ⟨h.chg.grow g, h.stp.grow g, fun x hx => by
    rcases List.mem_cons.1 hx with rfl | hx
    · exact ho
    · exact g.get (h.loc x hx), by
    rw [List.map_cons, List.nodup_cons]
    refine ⟨fun hm => ?_, h.nodup⟩
    obtain ⟨x, hx, he⟩ := List.mem_map.1 hm
    have := h.lt x hx
    simp only [] at he
    omega, fun x hx hw => by
    rcases List.mem_cons.1 hx with rfl | hx
    · exact .inr (by show w0.heap.size ≤ b; rw [hb]; exact h.chg.size)
    · exact h.new x hx hw⟩
theorem Fr.unM {b : Nat} (hb : wp.heap.size ≤ b) (h : Fr S w0 wp (b :: M) L w) : Fr S w0 wp M L w :=
  ⟨h.chg, ⟨h.stp.os, h.stp.tape, h.stp.output, h.stp.size, fun k hk hn => h.stp.block k hk fun e => by
    rcases List.mem_cons.1 e with e | e
    · omega
    · exact hn e⟩, h.loc, h.nodup, h.new⟩
/-- what holds of the blocks L, whatever else has changed -/
def Lo (S : Nat → Prop) (w0 : World) (L : List Blk) (w : World) : Prop := ∃ wp M, Fr S w0 wp M L w
theorem Fr.lo (h : Fr S w0 wp M L w) {L' : List Blk} (hs : L'.Sublist L) : Lo S w0 L' w := ⟨wp, M, h.sub hs⟩
theorem Lo.ld (h : Lo S w0 L w) (j i : Nat) {x : Blk} {a : Addr} {v : Value} (hj : L[j]? = some x) (ha : a = ⟨x.b, i, none⟩) (hv : x.cs[i]? = some v) : w.cell? a = some v := by
  obtain ⟨wp, M, h⟩ := h; exact h.ld j i hj ha hv
theorem stC_mono {w : World} {a : Addr} {v : Value} {K K' : World → Prop} (h : StC w a v K) (hk : ∀ w, K w → K' w) : StC w a v K' := ⟨h.1, h.2.1, h.2.2.1, hk _ h.2.2.2⟩
theorem set_mem {α : Type} : ∀ {L : List α} {j : Nat} {x y : α}, x ∈ L.set j y → x = y ∨ ∃ i, i ≠ j ∧ L[i]? = some x
  | [], j, x, y, h => by simp at h
  | a :: L, 0, x, y, h => by
    rcases List.mem_cons.1 h with h | h
    · exact .inl h
    · obtain ⟨i, hi⟩ := List.getElem?_of_mem h
      exact .inr ⟨i + 1, by omega, by simpa using hi⟩
  | a :: L, j + 1, x, y, h => by
    rcases List.mem_cons.1 h with h | h
    · exact .inr ⟨0, by omega, by simp [h]⟩
    · rcases set_mem h with h | ⟨i, hi, he⟩
      · exact .inl h
      · exact .inr ⟨i + 1, by omega, by simpa using he⟩
theorem Fr.st (h : Fr S w0 wp M L w) (j i : Nat) {x : Blk} {a : Addr} {v : Value} {K : World → Prop} (hj : L[j]? = some x) (ha : a = ⟨x.b, i, none⟩) (hw : x.wr = true) (hi' : Nat.blt i x.cs.size = true) (hv : oneC v = true)
    (k : ∀ w', Fr S w0 wp (x.b :: M) (L.set j ⟨x.b, x.cs.setIfInBounds i v, x.T, true⟩) w' → K w') : StC w a v K := by
  subst ha
  have hi : i < x.cs.size := by
    have := Nat.le_of_ble_eq_true (n := i + 1) (m := x.cs.size) hi'
    omega
  have hx := List.mem_of_getElem? hj
  refine stC (h.blk j hj) hi hv fun w' hb' hs g => k w' ⟨h.chg.trans g fun i hi e => ?_, ?_, fun y hy => ?_, ?_, fun y hy hwy => ?_⟩
  · subst e
    rcases h.new x hx hw with h' | h'
    · exact h'
    · omega
  · exact (h.stp.mono fun i _ e => List.mem_cons_of_mem _ e).trans g fun i _ e => by subst e; exact List.mem_cons_self
  · rcases set_mem hy with rfl | ⟨i', hi', he⟩
    · exact hb'
    · have hy' := List.mem_of_getElem? he
      refine g.get (h.loc y hy') fun e => ?_
      have hnd := h.nodup
      have h1 : (L.map (·.b))[i']? = some y.b := by simp [he]
      have h2 : (L.map (·.b))[j]? = some x.b := by simp [hj]
      rw [e] at h1
      have hl1 : i' < (L.map (·.b)).length := (List.getElem?_eq_some_iff.1 h1).1
      exact hi' ((List.getElem?_inj hl1 hnd).1 (h1.trans h2.symm))
  · have : (L.set j ⟨x.b, x.cs.setIfInBounds i v, x.T, true⟩).map (·.b) = L.map (·.b) := by
      rw [List.map_set]
      apply List.ext_getElem?
      intro n
      rw [List.getElem?_set]
      split
      · rename_i e; subst e
        simp [hj]
        exact (List.getElem?_eq_some_iff.1 hj).1
      · rfl
    rw [this]; exact h.nodup
  · rcases set_mem hy with rfl | ⟨i', hi', he⟩
    · exact h.new x hx hw
    · exact h.new y (List.mem_of_getElem? he) hwy
theorem Fr.st1 (h : Fr S w0 wp M L w) (j i : Nat) (L' : List Blk) {x : Blk} {a : Addr} {v : Value} {K : World → Prop} (hj : L[j]? = some x) (ha : a = ⟨x.b, i, none⟩) (hw : x.wr = true) (hi : Nat.blt i x.cs.size = true) (hv : oneC v = true)
    (hL : L' = L.set j ⟨x.b, x.cs.setIfInBounds i v, x.T, true⟩) (k : ∀ w', Fr S w0 wp (x.b :: M) L' w' → K w') : StC w a v K := by
  subst hL; exact h.st j i hj ha hw hi hv k
/-- many cells laid from o on -/
def wrAt (cs : Array Value) : Nat → List Value → Array Value
  | _, [] => cs
  | o, v :: vs => wrAt (cs.setIfInBounds o v) (o + 1) vs
theorem wrAt_size (vs : List Value) : ∀ (cs : Array Value) (o : Nat), (wrAt cs o vs).size = cs.size := by
  induction vs with
  | nil => intro cs o; rfl
  | cons v vs ih => intro cs o; simp [wrAt, ih]
theorem Fr.weakM {b : Nat} (h : Fr S w0 wp (b :: b :: M) L w) : Fr S w0 wp (b :: M) L w :=
  ⟨h.chg, h.stp.mono fun i _ e => by
    rcases List.mem_cons.1 e with e | e
    · subst e; exact List.mem_cons_self
    · exact e, h.loc, h.nodup, h.new⟩
theorem Fr.stL_ {b j : Nat} {T : TypeId} {K : World → Prop} : ∀ (vs : List Value) (cs : Array Value) (o i : Nat) {L : List Blk} {M : List Nat} {w : World}, Fr S w0 wp (b :: M) L w → L[j]? = some ⟨b, cs, T, true⟩ → vs.all oneC = true → o + i + vs.length ≤ cs.size →
    (∀ w', Fr S w0 wp (b :: M) (L.set j ⟨b, wrAt cs (o + i) vs, T, true⟩) w' → K w') → stCells ⟨b, o, none⟩ i vs K w
  | [], cs, o, i, L, M, w, h, hj, hv, hi, k => by
    refine k w ?_
    have : L.set j ⟨b, cs, T, true⟩ = L := by
      apply List.ext_getElem?
      intro n
      rw [List.getElem?_set]
      split
      · rename_i e; subst e
        rw [if_pos (List.getElem?_eq_some_iff.1 hj).1, hj]
      · rfl
    show Fr S w0 wp (b :: M) (L.set j ⟨b, cs, T, true⟩) w
    rw [this]; exact h
  | v :: vs, cs, o, i, L, M, w, h, hj, hv, hi, k => by
    have hv' : oneC v = true ∧ vs.all oneC = true := by simpa using hv
    simp only [List.length_cons] at hi
    show StC w (Addr.add ⟨b, o, none⟩ i) v fun w => stCells ⟨b, o, none⟩ (i + 1) vs K w
    rw [add_mk]
    refine h.st j (o + i) hj rfl rfl (Nat.ble_eq_true_of_le (by show o + i + 1 ≤ cs.size; omega)) hv'.1 fun w1 h1 => ?_
    refine Fr.stL_ (j := j) (T := T) vs (cs.setIfInBounds (o + i) v) o (i + 1) h1.weakM ?_ hv'.2 (by simp; omega) fun w2 h2 => k w2 ?_
    · rw [List.getElem?_set]; simp [(List.getElem?_eq_some_iff.1 hj).1]
    · rw [List.set_set] at h2; exact h2
theorem Fr.stL (h : Fr S w0 wp M L w) (j o : Nat) (vs : List Value) (L' : List Blk) {x : Blk} {a : Addr} {K : World → Prop} (hj : L[j]? = some x) (ha : a = ⟨x.b, o, none⟩) (hw : x.wr = true) (hv : vs.all oneC = true)
    (hi : Nat.ble (o + vs.length) x.cs.size = true) (hL : L' = L.set j ⟨x.b, wrAt x.cs o vs, x.T, true⟩) (k : ∀ w', Fr S w0 wp (x.b :: M) L' w' → K w') : stCells a 0 vs K w := by
  subst ha; subst hL
  obtain ⟨b, cs, T, wr⟩ := x
  simp only [] at hw; subst hw
  exact Fr.stL_ vs cs o 0 (M := M) ⟨h.chg, h.stp.mono fun i _ e => List.mem_cons_of_mem _ e, h.loc, h.nodup, h.new⟩ hj hv (Nat.le_of_ble_eq_true hi) k
end
end Go.Vc
