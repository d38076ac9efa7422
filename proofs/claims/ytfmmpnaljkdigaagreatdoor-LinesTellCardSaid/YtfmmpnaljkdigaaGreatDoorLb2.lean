/-
  A part of the proof that two events of one line are one event: the calculus that follows known memory by computing, and its soundness. By an AI agent.
-/
import Derived.Test.YtfmmpnaljkdigaaGreatDoorLb1
set_option linter.unusedVariables false
set_option linter.unusedSimpArgs false
namespace Go.Vc
open Go
section
variable {P : Program}
theorem sv_bind {α β : Type} (x : Sem α) (f : α → Sem β) {K : β → World → Prop} {w : World} : sv P (x >>= f) K w ↔ sv P x (fun a w => sv P (f a) K w) w := by
  have h : ∀ (x : Sem α) (w : World), sv P (x.bind f) K w = sv P x (fun a w => sv P (f a) K w) w := by
    intro x
    induction x with
    | pure a => intro w; rfl
    | load m a k ih => intro w; simp only [Sem.bind, sv, ih]
    | store m a v k ih => intro w; simp only [Sem.bind, sv, ih]
    | new o k ih => intro w; simp only [Sem.bind, sv, ih]
    | shape r k ih => intro w; simp only [Sem.bind, sv, ih]
    | freeze a n k ih => intro w; simp only [Sem.bind, sv, ih]
    | frozen a k ih => intro w; simp only [Sem.bind, sv, ih]
    | getObj r k ih => intro w; simp only [Sem.bind, sv, ih]
    | setObj r o k ih => intro w; simp only [Sem.bind, sv, ih]
    | choose q k ih => intro w; simp only [Sem.bind, sv, ih]
    | sys c k ih => intro w; rfl
    | program k ih => intro w; simp only [Sem.bind, sv, ih]
    | mark m k ih => intro w; simp only [Sem.bind, sv, ih]
    | halt h => intro w; rfl
  exact Iff.of_eq (h x w)
theorem sv_pure {α : Type} (a : α) {K : α → World → Prop} {w : World} : sv P (pure a : Sem α) K w ↔ K a w := Iff.rfl
theorem sv_pure' {α : Type} (a : α) {K : α → World → Prop} {w : World} : sv P (Sem.pure a : Sem α) K w ↔ K a w := Iff.rfl
theorem sv_program {K : Program → World → Prop} {w : World} : sv P program K w ↔ K P w := Iff.rfl
theorem sv_load {a : Addr} {K : Value → World → Prop} {w : World} : sv P (load a) K w ↔ LdC w a fun v => K v w := Iff.rfl
theorem sv_store {a : Addr} {v : Value} {K : Unit → World → Prop} {w : World} : sv P (store a v) K w ↔ StC w a v fun w => K () w := Iff.rfl
theorem sv_newObj {o : Obj} {K : Nat → World → Prop} {w : World} : sv P (newObj o) K w ↔ NewV w o K := Iff.rfl
theorem sv_choose {q : Question} {K : Nat → World → Prop} {w : World} : sv P (choose q) K w ↔ ChV w q K := Iff.rfl
theorem sv_getObj {r : Nat} {K : Obj → World → Prop} {w : World} : sv P (getObj r) K w ↔ GetV w r fun o => K o w := Iff.rfl
theorem sv_setObj {r : Nat} {o : Obj} {K : Unit → World → Prop} {w : World} : sv P (setObj r o) K w ↔ SetV w r o fun w => K () w := Iff.rfl
theorem sv_askRoom {n : Nat} {K : Unit → World → Prop} {w : World} : sv P (askRoom n) K w ↔ K () w := by unfold askRoom; split <;> exact Iff.rfl
theorem sv_ite {α : Type} (c : Prop) [Decidable c] (x y : Sem α) {K : α → World → Prop} {w : World} : sv P (if c then x else y) K w ↔ if c then sv P x K w else sv P y K w := by split <;> exact Iff.rfl
theorem sv_underlying {t : TypeId} {d : TypeDesc} (h : P.underlying t = some d) {K : TypeDesc → World → Prop} {w : World} : sv P (underlying t) K w ↔ K d w := by
  show sv P (match P.underlying t with | some d => pure d | none => stuck "no such type") K w ↔ _
  rw [h]; exact Iff.rfl
theorem sv_typeInfo {t : TypeId} {i : TypeInfo} (h : P.info? t = some i) {K : TypeInfo → World → Prop} {w : World} : sv P (typeInfo t) K w ↔ K i w := by
  show sv P (match P.info? t with | some d => pure d | none => stuck "no such type") K w ↔ _
  rw [h]; exact Iff.rfl
theorem sv_sizeOf {t : TypeId} {i : TypeInfo} (h : P.info? t = some i) {K : Nat → World → Prop} {w : World} : sv P (sizeOf t) K w ↔ K i.size w := by
  unfold sizeOf; rw [sv_bind, sv_typeInfo h]; exact Iff.rfl
theorem sv_zeroValue {t : TypeId} {i : TypeInfo} {z : Value} (h : P.info? t = some i) (hz : i.zero = some z) {K : Value → World → Prop} {w : World} : sv P (zeroValue t) K w ↔ K z w := by
  unfold zeroValue; rw [sv_bind, sv_typeInfo h, hz]; exact Iff.rfl
/-- many cells are read -/
theorem sv_loadCellsFrom {b o : Nat} {K : Array Value → World → Prop} {w : World} : ∀ (xs : List Value) (i : Nat) (acc : Array Value),
    (∀ j, j < xs.length → w.cell? ⟨b, o + i + j, none⟩ = xs[j]?) → K (acc ++ xs.toArray) w → sv P (loadCellsFrom ⟨b, o, none⟩ i xs.length acc) K w := by
  intro xs
  induction xs with
  | nil => intro i acc _ hK; simpa [loadCellsFrom, sv_pure] using hK
  | cons x xs ih =>
    intro i acc h hK
    simp only [List.length_cons, loadCellsFrom]
    rw [sv_bind, sv_load]
    refine ⟨x, by rw [add_mk]; simpa using h 0 (by simp), ?_⟩
    refine ih (i + 1) _ (fun j hj => ?_) (by simpa using hK)
    have := h (j + 1) (by simpa using hj)
    rw [show o + (i + 1) + j = o + i + (j + 1) by omega]
    simpa using this
theorem sv_loadCells {b o : Nat} {K : Array Value → World → Prop} {w : World} {xs : List Value} {n : Nat} (hn : n = xs.length) (h : RowAt w b o xs) (hK : K xs.toArray w) :
    sv P (loadCells ⟨b, o, none⟩ n) K w := by
  subst hn
  refine sv_loadCellsFrom xs 0 #[] (fun j hj => ?_) (by simpa using hK)
  rw [Nat.add_zero, h.cell (v := xs[j]) (by simp [hj])]
  simp [hj]
/-- many cells are written -/
theorem sv_storeCells {b o : Nat} {T : TypeId} {K : Unit → World → Prop} : ∀ (ys : List Value) (i : Nat) (cs : Array Value) (w : World),
    w.heap[b]? = some (.cells cs T (0, 0)) → o + i + ys.length ≤ cs.size → (∀ y, y ∈ ys → oneC y = true) →
    (∀ w' cs', w'.heap[b]? = some (.cells cs' T (0, 0)) → cs'.size = cs.size → (∀ j, j < o + i ∨ o + i + ys.length ≤ j → cs'[j]? = cs[j]?) → (∀ j, j < ys.length → cs'[o + i + j]? = ys[j]?) →
      w'.heap.size = w.heap.size → Chg (· = b) w w' → K () w') →
    sv P (storeCells ⟨b, o, none⟩ ys i) K w := by
  intro ys
  induction ys with
  | nil =>
    intro i cs w hb _ _ hK
    exact hK w cs hb rfl (fun j _ => rfl) (fun j hj => by simp at hj) rfl (.refl _ _)
  | cons y ys ih =>
    intro i cs w hb hl ho hK
    simp only [List.length_cons] at hl
    rw [storeCells, sv_bind, sv_store, add_mk]
    refine stC hb (by omega) (ho y (by simp)) fun w1 hb1 hs1 g1 => ?_
    refine ih (i + 1) _ w1 hb1 (by simp; omega) (fun z hz => ho z (by simp [hz])) fun w2 cs2 hb2 hs2 hout hin hsz g2 => ?_
    refine hK w2 cs2 hb2 (by simpa using hs2) (fun j hj => ?_) (fun j hj => ?_) (hsz.trans hs1) (g1.trans g2 fun _ _ h => h)
    · simp only [List.length_cons] at hj
      rw [hout j (by omega), Array.getElem?_setIfInBounds_ne (by omega)]
    · cases j with
      | zero =>
        rw [hout _ (by omega)]
        have : o + i < cs.size := by omega
        simp [this]
      | succ j =>
        have := hin j (by simpa using hj)
        rw [show o + i + (j + 1) = o + (i + 1) + j by omega, this]; simp

theorem growBy_le (n : Nat) : ∀ (r c : Nat), c < n → Builtin.growBy n r c ≤ 2 * n + 1024
  | 0, c, h => by simp [Builtin.growBy]; omega
  | r + 1, c, h => by
    unfold Builtin.growBy
    rw [if_neg (by omega)]
    by_cases h2 : c + (c + 768) / 4 < n
    · exact growBy_le n r _ h2
    · cases r with
      | zero => simp [Builtin.growBy]; omega
      | succ r => unfold Builtin.growBy; rw [if_pos (by omega)]; omega
theorem nextcap_le {n c : Nat} (h : c < n) : Builtin.nextslicecap n c ≤ 2 * n + 1024 := by
  unfold Builtin.nextslicecap
  split
  · omega
  · split
    · omega
    · exact growBy_le n 4 c h
theorem zeroCells_size (z : Array Value) (n : Nat) : (Builtin.zeroCells z n).size = n * z.size := by simp [Builtin.zeroCells]

/-- 'append(s, x...)', s a slice that may be written and appended to, x a slice that reads as ys. -/
theorem sv_append {ts xt t e : TypeId} {i : TypeInfo} {z : Value} (hu : P.underlying ts = some (.slice e)) (hx : P.underlying xt = some (.slice e)) (hi : P.info? e = some i) (hz : i.zero = some z)
    (hzs : z.cells.size = i.size) (hby : i.bytes ≠ 0) {w : World} {q q2 : Option Addr} {l c l2 c2 : Nat} {xs ys : List Value} {K : Value → World → Prop}
    (ho : Own e i.size w q c xs) (hl : xs.length = l * i.size) (hlc : l ≤ c) (hs : Sl w q2 ys) (hl2 : ys.length = l2 * i.size) (hone : ∀ y, y ∈ ys → oneC y = true)
    (hroom : (2 * (l + l2) + 1024) * i.bytes ≤ 281474976710656)
    (hK : ∀ q' c' w', Own e i.size w' q' c' (xs ++ ys) → l + l2 ≤ c' → Chg (blkOf q) w w' → (∀ a, q' = some a → q = some a ∨ a = ⟨w.heap.size, 0, Option.none⟩) →
      K (.slice q' (l + l2) c') w') :
    sv P (Builtin.append_ #[ts, xt] t ⟨[.slice q l c, .slice q2 l2 c2]⟩) K w := by
  have ld : ∀ (w : World) (q : Option Addr) (n c : Nat) (xs : List Value) (K : Array Value → World → Prop), Sl w q xs → xs.length = n * i.size → K xs.toArray w → sv P (Builtin.firstCells i.size n (.slice q n c)) K w := by
    intro w q n c xs K h hl hK
    rcases h with rfl | ⟨b, o, rfl, h⟩
    · cases q with
      | none => exact hK
      | some a =>
        have : n * i.size = 0 := by simpa using hl.symm
        simp only [Builtin.firstCells, this]
        exact hK
    · simp only [Builtin.firstCells]
      exact sv_loadCells (by omega) h hK
  unfold Builtin.append_
  simp only [List.getElem?_toArray, List.getElem?_cons_zero, List.getElem?_cons_succ, sv_bind, sv_underlying hu, sv_underlying hx, sv_sizeOf hi, sv_pure, Bool.false_eq_true, if_false, Builtin.lenOf,
    sv_ite, sv_typeInfo hi, sv_zeroValue hi hz, Bool.not_false, if_true, false_or]
  have ld2 := fun (w : World) (K : Array Value → World → Prop) (h : Sl w q2 ys) => ld w q2 l2 c2 ys K h hl2
  by_cases hin : l + l2 ≤ c
  · rw [if_pos hin]
    refine ld2 _ _ hs ?_
    rcases ho with ⟨rfl, rfl, rfl⟩ | ⟨b, o, cs, rfl, hb, h1, h1', h2, h3⟩
    · have : l2 = 0 := by omega
      subst this
      have : ys = [] := by simpa using hl2
      subst this
      have : l = 0 := by omega
      subst this
      exact hK none 0 w (.nil _ _ _) (by omega) (.refl _ _) (fun a h => by cases h)
    · have hle : (l + l2) * i.size ≤ c * i.size := Nat.mul_le_mul_right _ hin
      rw [Nat.add_mul] at hle
      simp only [sv_bind, sv_pure, add_mk]
      refine sv_storeCells (o := o + l * i.size) ys 0 cs w hb (by omega) hone fun w' cs' hb' hs' hout hin' hsz g => ?_
      refine hK _ c w' (.inr ⟨b, o, cs', rfl, hb', by omega, h1', by simp; omega, fun j hj => ?_⟩) hin (g.mono fun k _ h => ⟨_, rfl, h⟩) (fun a h => .inl h)
      simp only [List.length_append] at hj
      by_cases hjl : j < xs.length
      · rw [hout (o + j) (by omega), h3 j hjl, List.getElem?_append_left hjl]
      · have := hin' (j - xs.length) (by omega)
        rw [show o + l * i.size + 0 + (j - xs.length) = o + j by omega] at this
        rw [this, List.getElem?_append_right (by omega)]
  · rw [if_neg hin]
    have hcap := nextcap_le (n := l + l2) (c := c) (by omega)
    have hb1 : ¬ Builtin.nextslicecap (l + l2) c * i.bytes > 2 ^ 48 := by
      have h1 : Builtin.nextslicecap (l + l2) c * i.bytes ≤ (2 * (l + l2) + 1024) * i.bytes := Nat.mul_le_mul_right _ hcap
      omega
    rw [if_neg (fun h => hby h.2), if_neg hb1, sv_choose]
    unfold ChV
    rw [if_neg (by simp [Question.forced])]
    simp only [sv_askRoom]
    have hcut : l + l2 ≤ (Question.appendCap (l + l2) c e).cut (w.tape w.drawn (Question.appendCap (l + l2) c e)) := by
      simp only [Question.cut]; omega
    have hsmall : l + l2 ≤ 9223372036854775807 := by
      have h1 : (2 * (l + l2) + 1024) * 1 ≤ (2 * (l + l2) + 1024) * i.bytes := Nat.mul_le_mul_left _ (by omega)
      omega
    have hcut2 : (Question.appendCap (l + l2) c e).cut (w.tape w.drawn (Question.appendCap (l + l2) c e)) ≤ 9223372036854775807 := by
      simp only [Question.cut]
      have : w.tape w.drawn (Question.appendCap (l + l2) c e) % (2 ^ 63 - (l + l2)) < 2 ^ 63 - (l + l2) := Nat.mod_lt _ (by omega)
      omega
    generalize (Question.appendCap (l + l2) c e).cut (w.tape w.drawn (Question.appendCap (l + l2) c e)) = n at hcut hcut2 ⊢
    refine ld _ _ _ _ xs _ (ho.sl.grow (Chg.drew w)) hl ?_
    refine ld2 _ _ (hs.grow (Chg.drew w)) ?_
    unfold newRow
    rw [sv_bind, sv_newObj]
    refine newV fun b w1 hb hb1 hs1 g1 => ?_
    rw [sv_pure]
    have hb' : b = w.heap.size := hb
    have hlt : ¬ b < w.heap.size := by omega
    refine hK (some ⟨b, 0, none⟩) n w1 (.inr ⟨b, 0, _, rfl, hb1, ?_, hcut2, ?_, fun j hj => ?_⟩) hcut ((Chg.drew w).trans g1).chg ?_
    · simp only [Array.size_append, zeroCells_size, hzs, List.size_toArray, hl, hl2, Nat.zero_add]
      rw [← Nat.add_mul, ← Nat.add_mul]
      congr 1; omega
    · simp only [List.length_append, hl, hl2, ← Nat.add_mul]
      exact Nat.mul_le_mul_right _ hcut
    · simp only [Nat.zero_add]
      rw [Array.getElem?_append_left (by simpa using hj)]
      simp
    · rintro a h; cases h; rw [hb']; exact .inr rfl
/-- 'append(b, s...)', s a text. -/
theorem sv_append_str {ts xt t e : TypeId} {i : TypeInfo} (hu : P.underlying ts = some (.slice e)) (hx : P.underlying xt = some .string) (hi : P.info? e = some i) (hz : i.zero = some (.int .u8 0))
    (hk : i.size = 1) (hby : i.bytes = 1) {w : World} {q : Option Addr} {l c : Nat} {xs : List Value} {s : ByteArray} {K : Value → World → Prop}
    (ho : Own e 1 w q c xs) (hl : xs.length = l) (hlc : l ≤ c) (hroom : l + s.size ≤ 70368744177664)
    (hK : ∀ q' c' w', Own e 1 w' q' c' (xs ++ s.data.toList.map fun b => .int .u8 b.toNat) → l + s.size ≤ c' → Chg (blkOf q) w w' → (∀ a, q' = some a → q = some a ∨ a = ⟨w.heap.size, 0, Option.none⟩) →
      K (.slice q' (l + s.size) c') w') :
    sv P (Builtin.append_ #[ts, xt] t ⟨[.slice q l c, .string s]⟩) K w := by
  have ld : ∀ (w : World) (q : Option Addr) (n c : Nat) (xs : List Value) (K : Array Value → World → Prop), Sl w q xs → xs.length = n → K xs.toArray w → sv P (Builtin.firstCells i.size n (.slice q n c)) K w := by
    intro w q n c xs K h hl hK
    rcases h with rfl | ⟨b, o, rfl, h⟩
    · cases q with
      | none => exact hK
      | some a =>
        have : n * i.size = 0 := by rw [hk]; simpa using hl.symm
        simp only [Builtin.firstCells, this]
        exact hK
    · simp only [Builtin.firstCells]
      exact sv_loadCells (by rw [hk]; omega) h hK
  have ls : ∀ (w : World) (K : Array Value → World → Prop), K (s.data.toList.map fun b => .int .u8 b.toNat).toArray w → sv P (Builtin.firstCells i.size s.size (.string s)) K w := by
    intro w K hK
    simp only [Builtin.firstCells, sv_pure]
    have e : (s.extract 0 s.size).data.map (fun b => (.int .u8 b.toNat : Value)) = (s.data.toList.map fun b => .int .u8 b.toNat).toArray := by
      have h1 : s.extract 0 s.size = s := by
        apply ByteArray.ext
        rw [ByteArray.data_extract]
        exact Array.extract_size
      rw [h1]; apply Array.toList_inj.1; simp
    rw [e]; exact hK
  have hsz : (s.data.toList.map fun b => (.int .u8 b.toNat : Value)).length = s.size := by rw [List.length_map]; exact Array.length_toList
  unfold Builtin.append_
  simp only [List.getElem?_toArray, List.getElem?_cons_zero, List.getElem?_cons_succ, sv_bind, sv_underlying hu, sv_underlying hx, sv_sizeOf hi, sv_pure, Bool.false_eq_true, if_false, Builtin.lenOf,
    sv_ite, sv_typeInfo hi, sv_zeroValue hi hz, Bool.not_false, if_true, false_or]
  by_cases hin : l + s.size ≤ c
  · rw [if_pos hin]
    refine ls _ _ ?_
    rcases ho with ⟨rfl, rfl, rfl⟩ | ⟨b, o, cs, rfl, hb, h1, h1', h2, h3⟩
    · have : s.size = 0 := by omega
      rw [this] at hK hsz ⊢
      have h0 : (s.data.toList.map fun b => (.int .u8 b.toNat : Value)) = [] := List.eq_nil_of_length_eq_zero hsz
      rw [h0] at hK
      have : l = 0 := by simpa using hl.symm
      subst this
      exact hK none 0 w (.nil _ _ _) (by omega) (.refl _ _) (fun a h => by cases h)
    · simp only [sv_bind, sv_pure, add_mk]
      refine sv_storeCells (o := o + l * i.size) (s.data.toList.map fun b => .int .u8 b.toNat) 0 cs w hb (by rw [hsz, hk]; omega) (fun y hy => by obtain ⟨b, _, rfl⟩ := List.mem_map.1 hy; rfl) fun w' cs' hb' hs' hout hin' hsz' g => ?_
      rw [hk] at hout hin'
      refine hK _ c w' (.inr ⟨b, o, cs', rfl, hb', by omega, h1', by rw [List.length_append, hsz]; omega, fun j hj => ?_⟩) hin (g.mono fun k _ h => ⟨_, rfl, h⟩) (fun a h => .inl h)
      rw [List.length_append, hsz] at hj
      by_cases hjl : j < xs.length
      · rw [hout (o + j) (by omega), h3 j hjl, List.getElem?_append_left hjl]
      · have := hin' (j - xs.length) (by omega)
        rw [show o + l * 1 + 0 + (j - xs.length) = o + j by omega] at this
        rw [this, List.getElem?_append_right (by omega)]
  · rw [if_neg hin]
    have hcap := nextcap_le (n := l + s.size) (c := c) (by omega)
    rw [hby, hk]
    rw [hk] at ld ls
    rw [if_neg (fun h => by simp at h), if_neg (by omega), sv_choose]
    unfold ChV
    rw [if_neg (by simp [Question.forced])]
    simp only [sv_askRoom]
    have hcut : l + s.size ≤ (Question.appendCap (l + s.size) c e).cut (w.tape w.drawn (Question.appendCap (l + s.size) c e)) := by
      simp only [Question.cut]; omega
    have hcut2 : (Question.appendCap (l + s.size) c e).cut (w.tape w.drawn (Question.appendCap (l + s.size) c e)) ≤ 9223372036854775807 := by
      simp only [Question.cut]
      have : w.tape w.drawn (Question.appendCap (l + s.size) c e) % (2 ^ 63 - (l + s.size)) < 2 ^ 63 - (l + s.size) := Nat.mod_lt _ (by omega)
      omega
    generalize (Question.appendCap (l + s.size) c e).cut (w.tape w.drawn (Question.appendCap (l + s.size) c e)) = n at hcut hcut2 ⊢
    refine ld _ _ _ _ xs _ (ho.sl.grow (Chg.drew w)) hl ?_
    refine ls _ _ ?_
    unfold newRow
    rw [sv_bind, sv_newObj]
    refine newV fun b w1 hb hb1 hs1 g1 => ?_
    rw [sv_pure]
    have hb' : b = w.heap.size := hb
    refine hK (some ⟨b, 0, none⟩) n w1 (.inr ⟨b, 0, _, rfl, hb1, ?_, hcut2, ?_, fun j hj => ?_⟩) hcut ((Chg.drew w).trans g1).chg ?_
    · simp only [Array.size_append, zeroCells_size, List.size_toArray, hsz, hl, Nat.zero_add]
      have : (Value.cells (.int .u8 0)).size = 1 := rfl
      rw [this]; omega
    · rw [List.length_append, hsz]; omega
    · simp only [Nat.zero_add]
      rw [Array.getElem?_append_left (by simpa using hj)]
      simp
    · rintro a h; cases h; rw [hb']; exact .inr rfl
theorem sv_append' {ts xt t e : TypeId} {i : TypeInfo} {z : Value} {k by_ : Nat} (hu : P.underlying ts = some (.slice e)) (hx : P.underlying xt = some (.slice e)) (hi : P.info? e = some i) (hz : i.zero = some z)
    (hk : i.size = k) (hb : i.bytes = by_) (hzs : z.cells.size = k) (hby : by_ ≠ 0) {w : World} {q q2 : Option Addr} {l c l2 c2 : Nat} {xs ys : List Value} {K : Value → World → Prop}
    (ho : Own e k w q c xs) (hl : xs.length = l * k) (hlc : l ≤ c) (hs : Sl w q2 ys) (hl2 : ys.length = l2 * k) (hone : ∀ y, y ∈ ys → oneC y = true)
    (hroom : (2 * (l + l2) + 1024) * by_ ≤ 281474976710656)
    (hK : ∀ q' c' w', Own e k w' q' c' (xs ++ ys) → l + l2 ≤ c' → Chg (blkOf q) w w' → (∀ a, q' = some a → q = some a ∨ a = ⟨w.heap.size, 0, Option.none⟩) →
      K (.slice q' (l + l2) c') w') :
    sv P (Builtin.append_ #[ts, xt] t ⟨[.slice q l c, .slice q2 l2 c2]⟩) K w := by
  subst hk; subst hb
  exact sv_append hu hx hi hz hzs hby ho hl hlc hs hl2 hone hroom hK
end
theorem Grow.own {a b c : World} {q : Option Addr} (g : Grow a b) (h : Chg (blkOf q) b c) (ho : Off (fun k => k < a.heap.size) q) : Grow a c :=
  Chg.trans g h fun i hi => by rintro ⟨x, rfl, rfl⟩; exact ho x rfl hi
theorem Off.next {n m : Nat} {q q' : Option Addr} (ho : Off (fun k => k < n) q) (hq : ∀ a, q' = some a → q = some a ∨ a = ⟨m, 0, Option.none⟩) (hm : n ≤ m) : Off (fun k => k < n) q' := by
  intro a ha hlt
  rcases hq a ha with h | h
  · exact ho a h hlt
  · subst h; simp at hlt; omega
theorem Off.none (S : Nat → Prop) : Off S none := fun a h => by cases h
theorem Off.fresh {b o n : Nat} (h : n ≤ b) : Off (fun k => k < n) (some ⟨b, o, Option.none⟩) := fun a ha hlt => by cases ha; simp at hlt; omega
theorem Sl.one {w : World} {b : Nat} {v : Value} {T : TypeId} {fz : Nat × Nat} (h : w.heap[b]? = some (.cells #[v] T fz)) : Sl w (some ⟨b, 0, Option.none⟩) [v] :=
  .inr ⟨b, 0, rfl, _, _, _, h, fun i hi => by simp at hi; subst hi; rfl⟩
end Go.Vc
