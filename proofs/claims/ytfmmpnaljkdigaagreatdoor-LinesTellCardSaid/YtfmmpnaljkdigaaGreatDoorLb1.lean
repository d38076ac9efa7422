/-
  A part of the proof that two events of one line are one event: the calculus that follows known memory by computing, and its soundness. By an AI agent.
-/
import Derived.Test.YtfmmpnaljkdigaaGreatDoorVc7
set_option linter.unusedVariables false
set_option linter.unusedSimpArgs false
namespace Go.Vc
open Go

/-! ## what a piece of work leaves as it was -/
structure Chg (S : Nat → Prop) (w w' : World) : Prop where
  os : w'.os = w.os
  tape : w'.tape = w.tape
  output : w'.output = w.output
  size : w.heap.size ≤ w'.heap.size
  block : ∀ k, k < w.heap.size → ¬ S k → w'.heap[k]? = w.heap[k]?
abbrev Grow := Chg fun _ => False
theorem Chg.refl (S : Nat → Prop) (w : World) : Chg S w w := ⟨rfl, rfl, rfl, Nat.le_refl _, fun _ _ _ => rfl⟩
theorem Chg.trans {S T : Nat → Prop} {a b c : World} (h : Chg S a b) (k : Chg T b c) (hT : ∀ i, i < a.heap.size → T i → S i) : Chg S a c :=
  ⟨k.os.trans h.os, k.tape.trans h.tape, k.output.trans h.output, Nat.le_trans h.size k.size, fun i hi hn =>
    (k.block i (Nat.lt_of_lt_of_le hi h.size) fun ht => hn (hT i hi ht)).trans (h.block i hi hn)⟩
theorem Chg.mono {S T : Nat → Prop} {a b : World} (h : Chg S a b) (hT : ∀ i, i < a.heap.size → S i → T i) : Chg T a b :=
  ⟨h.os, h.tape, h.output, h.size, fun i hi hn => h.block i hi fun hs => hn (hT i hi hs)⟩
theorem Grow.trans {a b c : World} (h : Grow a b) (k : Grow b c) : Grow a c := Chg.trans h k fun _ _ h => h
theorem Grow.chg {S : Nat → Prop} {a b : World} (h : Grow a b) : Chg S a b := Chg.mono h fun _ _ h => h.elim
/-- behind a change of S alone, whatever grows more -/
theorem Chg.grow {S : Nat → Prop} {a b c : World} (h : Chg S a b) (k : Grow b c) : Chg S a c := h.trans k fun _ _ h => h.elim
theorem Grow.then {S : Nat → Prop} {a b c : World} (h : Grow a b) (k : Chg S b c) : Chg S a c := (Grow.chg h).trans k fun _ _ h => h
theorem Chg.drew (w : World) : Grow w w.drew := ⟨rfl, rfl, rfl, Nat.le_refl _, fun _ _ _ => rfl⟩
theorem drew_heap (w : World) : w.drew.heap = w.heap := rfl
theorem Chg.alloc (w : World) (o : Obj) : Grow w (w.alloc o) :=
  ⟨rfl, rfl, rfl, by simp, fun k hk _ => by
    show (w.heap.push o)[k]? = _
    rw [Array.getElem?_push, if_neg (by omega)]⟩
theorem heap_lt {w : World} {b : Nat} {o : Obj} (h : w.heap[b]? = some o) : b < w.heap.size := by
  rcases Nat.lt_or_ge b w.heap.size with hl | hl
  · exact hl
  · simp [Array.getElem?_eq_none hl] at h
theorem Chg.get {S : Nat → Prop} {w w' : World} (g : Chg S w w') {b : Nat} {o : Obj} (h : w.heap[b]? = some o) (hn : ¬ S b) : w'.heap[b]? = some o := by
  rw [g.block b (heap_lt h) hn]; exact h
theorem Grow.get {w w' : World} (g : Grow w w') {b : Nat} {o : Obj} (h : w.heap[b]? = some o) : w'.heap[b]? = some o := Chg.get g h id
theorem Chg.setCell (w : World) (a : Addr) (v : Value) : Chg (· = a.block) w (w.setCell a v) :=
  ⟨rfl, rfl, rfl, by simp, fun k hk hn => by
    simp only [World.setCell, Array.getElem?_modify]
    rw [if_neg (by omega)]⟩

/-! ## cells -/
theorem add_mk (b o i : Nat) : (⟨b, o, none⟩ : Addr).add i = ⟨b, o + i, none⟩ := by
  unfold Addr.add; split
  · rename_i h; simp [h]
  · rfl
theorem cell_blk {w : World} {b : Nat} {cs : Array Value} {T : TypeId} {fz : Nat × Nat} (h : w.heap[b]? = some (.cells cs T fz)) (i : Nat) :
    w.cell? ⟨b, i, none⟩ = cs[i]? := by simp [World.cell?, h]
theorem frozen_blk {w : World} {b : Nat} {cs : Array Value} {T : TypeId} (h : w.heap[b]? = some (.cells cs T (0, 0))) (i : Nat) :
    w.frozen? ⟨b, i, none⟩ = false := by simp [World.frozen?, h]
theorem set_blk {w : World} {b : Nat} {cs : Array Value} {T : TypeId} {fz : Nat × Nat} (h : w.heap[b]? = some (.cells cs T fz)) (i : Nat) (v : Value) :
    (w.setCell ⟨b, i, none⟩ v).heap[b]? = some (.cells (cs.setIfInBounds i v) T fz) := by
  simp [World.setCell, Array.getElem?_modify, h]

/-! ## the words of a mirror -/
theorem Dr_some {a : Addr} {K : Addr → Prop} : Dr (some a) K ↔ K a := by
  constructor
  · rintro ⟨b, h, k⟩; cases h; exact k
  · intro h; exact ⟨a, rfl, h⟩
theorem newV {w : World} {o : Obj} {K : Nat → World → Prop}
    (h : ∀ b w', b = w.heap.size → w'.heap[b]? = some o → w'.heap.size = b + 1 → Grow w w' → K b w') : NewV w o K :=
  h _ _ rfl (by show (w.heap.push o)[w.heap.size]? = _; simp) (by simp) (Chg.alloc w o)
theorem stC {w : World} {b i : Nat} {v : Value} {K : World → Prop} {cs : Array Value} {T : TypeId} (hb : w.heap[b]? = some (.cells cs T (0, 0)))
    (hi : i < cs.size) (hv : oneC v = true)
    (h : ∀ w', w'.heap[b]? = some (.cells (cs.setIfInBounds i v) T (0, 0)) → w'.heap.size = w.heap.size → Chg (· = b) w w' → K w') : StC w ⟨b, i, none⟩ v K :=
  ⟨hv, ⟨cs[i], by rw [cell_blk hb]; simp [hi]⟩, frozen_blk hb i, h _ (set_blk hb i v) (by simp) (Chg.setCell w ⟨b, i, none⟩ v)⟩
theorem callV_mono {P : Program} {f : FuncId} {args : Array Value} {w : World} {K K' : Value → World → Prop} (h : CallV P f args w K) (hk : ∀ v w, K v w → K' v w) : CallV P f args w K' :=
  Calls.mono h fun _ _ ⟨v, e, hv⟩ => ⟨v, e, hk _ _ hv⟩

/-! ## rows -/
/-- From offset o on block b has the cells xs. -/
def RowAt (w : World) (b o : Nat) (xs : List Value) : Prop :=
  ∃ cs T fz, w.heap[b]? = some (.cells cs T fz) ∧ ∀ i, i < xs.length → cs[o + i]? = xs[i]?
theorem RowAt.cell {w : World} {b o : Nat} {xs : List Value} (h : RowAt w b o xs) {i : Nat} {v : Value} (hi : xs[i]? = some v) : w.cell? ⟨b, o + i, none⟩ = some v := by
  obtain ⟨cs, T, fz, hb, hc⟩ := h
  have hl : i < xs.length := by
    rcases Nat.lt_or_ge i xs.length with hl | hl
    · exact hl
    · simp [List.getElem?_eq_none hl] at hi
  rw [cell_blk hb, hc i hl, hi]
theorem RowAt.keep {S : Nat → Prop} {w w' : World} {b o : Nat} {xs : List Value} (h : RowAt w b o xs) (g : Chg S w w') (hn : ¬ S b) : RowAt w' b o xs := by
  obtain ⟨cs, T, fz, hb, hc⟩ := h
  exact ⟨cs, T, fz, g.get hb hn, hc⟩
/-- A slice's value that reads as the cells xs. -/
def Sl (w : World) (q : Option Addr) (xs : List Value) : Prop := xs = [] ∨ ∃ b o, q = some ⟨b, o, none⟩ ∧ RowAt w b o xs
theorem Sl.nil (w : World) (q : Option Addr) : Sl w q [] := .inl rfl
/-- It doesn't lie in one of the blocks S. -/
def Off (S : Nat → Prop) (q : Option Addr) : Prop := ∀ a, q = some a → ¬ S a.block
theorem Off.no (q : Option Addr) : Off (fun _ => False) q := fun _ _ h => h
theorem Sl.keep {S : Nat → Prop} {w w' : World} {q : Option Addr} {xs : List Value} (h : Sl w q xs) (g : Chg S w w') (hn : Off S q) : Sl w' q xs := by
  rcases h with h | ⟨b, o, rfl, h⟩
  · exact .inl h
  · exact .inr ⟨b, o, rfl, h.keep g (hn _ rfl)⟩
theorem Sl.grow {w w' : World} {q : Option Addr} {xs : List Value} (h : Sl w q xs) (g : Grow w w') : Sl w' q xs := h.keep g (Off.no q)
/-- Its i-th cell. -/
theorem Sl.at {w : World} {q : Option Addr} {xs : List Value} (h : Sl w q xs) {i : Nat} {v : Value} (hi : xs[i]? = some v) :
    ∃ b o, q = some ⟨b, o, none⟩ ∧ w.cell? ⟨b, o + i, none⟩ = some v := by
  rcases h with rfl | ⟨b, o, rfl, h⟩
  · simp at hi
  · exact ⟨b, o, rfl, h.cell hi⟩
theorem RowAt.lt {w : World} {b o : Nat} {xs : List Value} (h : RowAt w b o xs) : b < w.heap.size := by
  obtain ⟨cs, T, fz, hb, hc⟩ := h; exact heap_lt hb

/-! ## slices that may be written, and appended to; k: how many cells an element has -/
def Own (e : TypeId) (k : Nat) (w : World) (q : Option Addr) (c : Nat) (xs : List Value) : Prop :=
  (q = none ∧ c = 0 ∧ xs = []) ∨
  ∃ b o cs, q = some ⟨b, o, none⟩ ∧ w.heap[b]? = some (.cells cs e (0, 0)) ∧ cs.size = o + c * k ∧ c ≤ 9223372036854775807 ∧ xs.length ≤ c * k ∧ ∀ i, i < xs.length → cs[o + i]? = xs[i]?
theorem Own.sl {e : TypeId} {k : Nat} {w : World} {q : Option Addr} {c : Nat} {xs : List Value} (h : Own e k w q c xs) : Sl w q xs := by
  rcases h with ⟨_, _, h⟩ | ⟨b, o, cs, rfl, hb, _, _, _, h⟩
  · exact .inl h
  · exact .inr ⟨b, o, rfl, cs, e, _, hb, h⟩
theorem Own.keep {S : Nat → Prop} {e : TypeId} {k : Nat} {w w' : World} {q : Option Addr} {c : Nat} {xs : List Value} (h : Own e k w q c xs) (g : Chg S w w') (hn : Off S q) : Own e k w' q c xs := by
  rcases h with h | ⟨b, o, cs, rfl, hb, h0, h1, h2, h3⟩
  · exact .inl h
  · exact .inr ⟨b, o, cs, rfl, g.get hb (hn _ rfl), h0, h1, h2, h3⟩
theorem Own.grow {e : TypeId} {k : Nat} {w w' : World} {q : Option Addr} {c : Nat} {xs : List Value} (h : Own e k w q c xs) (g : Grow w w') : Own e k w' q c xs := h.keep g (Off.no q)
theorem Own.nil (e : TypeId) (k : Nat) (w : World) : Own e k w none 0 [] := .inl ⟨rfl, rfl, rfl⟩
theorem Own.lt {e : TypeId} {k : Nat} {w : World} {q : Option Addr} {c : Nat} {xs : List Value} (h : Own e k w q c xs) : ∀ a, q = some a → a.block < w.heap.size := by
  rintro a rfl
  rcases h with ⟨h, _, _⟩ | ⟨b, o, cs, h, hb, _⟩
  · cases h
  · cases h; exact heap_lt hb
/-- the block that it lies in -/
def blkOf (q : Option Addr) (n : Nat) : Prop := ∃ a, q = some a ∧ n = a.block
end Go.Vc
