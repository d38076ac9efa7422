/-
  Numerals, edges, digits and words are told apart by their bytes. By an AI agent.
-/
import Derived.Test.YtfmmpnaljkdigaaDoorRow2
import Derived.Lib.ItoaNum
set_option linter.unusedSimpArgs false
set_option maxRecDepth 100000
set_option linter.unusedVariables false
namespace Go.Vc
open Go
/-! ## The plain law: two events of one line are one event -/
theorem digit_val {d : Nat} (h : d < 10) : (UInt8.ofNat (48 + d)).toNat = 48 + d := by
  rw [UInt8.toNat_ofNat']; omega
theorem dec_chars : ∀ (u : Nat), ∀ c ∈ Lib.decDigits u, 48 ≤ c.toNat ∧ c.toNat ≤ 57 := by
  intro u
  induction u using Nat.strongRecOn with
  | ind u ih =>
    intro c hc
    rw [Lib.decDigits] at hc
    split at hc
    · simp only [List.mem_singleton] at hc
      subst hc; rw [digit_val (by omega)]; omega
    · rw [List.mem_append] at hc
      rcases hc with hc | hc
      · exact ih (u / 10) (by omega) c hc
      · simp only [List.mem_singleton] at hc
        subst hc; rw [digit_val (by omega)]; omega
theorem dec_ne (u : Nat) : Lib.decDigits u ≠ [] := by
  rw [Lib.decDigits]; split <;> simp
theorem dec_inj : ∀ (u v : Nat), Lib.decDigits u = Lib.decDigits v → u = v := by
  intro u
  induction u using Nat.strongRecOn with
  | ind u ih =>
    intro v h
    rw [Lib.decDigits, Lib.decDigits.eq_1 v] at h
    have dj : ∀ {a b : Nat}, a < 10 → b < 10 → UInt8.ofNat (48 + a) = UInt8.ofNat (48 + b) → a = b := fun ha hb e => by
      have := congrArg UInt8.toNat e; rw [digit_val ha, digit_val hb] at this; omega
    split at h <;> split at h
    · rename_i h1 h2
      exact dj h1 h2 (List.cons.inj h).1
    · have e := congrArg List.length h
      have p := List.length_pos_iff.2 (dec_ne (v / 10))
      rw [List.length_append] at e
      simp only [List.length_cons, List.length_nil] at e; omega
    · have e := congrArg List.length h
      have p := List.length_pos_iff.2 (dec_ne (u / 10))
      rw [List.length_append] at e
      simp only [List.length_cons, List.length_nil] at e; omega
    · have h' := List.append_inj' h rfl
      have h1 := ih (u / 10) (by omega) _ h'.1
      have h2 := dj (by omega) (by omega) (List.cons.inj h'.2).1
      omega
theorem itoa_chars (n : Int) : ∀ c ∈ Lib.itoa n, c.toNat = 45 ∨ (48 ≤ c.toNat ∧ c.toNat ≤ 57) := by
  intro c hc
  unfold Lib.itoa at hc
  split at hc
  · rcases List.mem_cons.1 hc with rfl | hc
    · exact .inl rfl
    · exact .inr (dec_chars _ c hc)
  · exact .inr (dec_chars _ c hc)
theorem itoa_inj {m n : Int} (h : Lib.itoa m = Lib.itoa n) : m = n := by
  have no : ∀ (a b : Nat), 45 :: Lib.decDigits a ≠ Lib.decDigits b := fun a b e => by
    have := dec_chars b 45 (by rw [← e]; exact List.mem_cons_self)
    have e45 : (45 : UInt8).toNat = 45 := rfl
    omega
  unfold Lib.itoa at h
  split at h <;> split at h
  · have := dec_inj _ _ (List.cons.inj h).2; omega
  · exact absurd h (no _ _)
  · exact absurd h.symm (no _ _)
  · have := dec_inj _ _ h; omega
/-- before the first c -/
theorem split_at {c : UInt8} {x y t u : List UInt8} (hx : c ∉ x) (hy : c ∉ y) (ht : t = [] ∨ ∃ t', t = c :: t') (hu : u = [] ∨ ∃ u', u = c :: u') (h : x ++ t = y ++ u) : x = y ∧ t = u := by
  induction x generalizing y with
  | nil =>
    cases y with
    | nil => exact ⟨rfl, h⟩
    | cons b y =>
      simp only [List.nil_append, List.cons_append] at h
      rcases ht with rfl | ⟨t', rfl⟩
      · cases h
      · have := (List.cons.inj h).1
        subst this
        exact absurd List.mem_cons_self hy
  | cons a x ih =>
    cases y with
    | nil =>
      simp only [List.nil_append, List.cons_append] at h
      rcases hu with rfl | ⟨u', rfl⟩
      · cases h
      · have := (List.cons.inj h).1
        subst this
        exact absurd List.mem_cons_self hx
    | cons b y =>
      simp only [List.cons_append, List.cons.injEq] at h
      obtain ⟨e, h⟩ := h
      obtain ⟨e', h'⟩ := ih (fun m => hx (List.mem_cons_of_mem _ m)) (fun m => hy (List.mem_cons_of_mem _ m)) h
      exact ⟨by rw [e, e'], h'⟩
theorem edge_inj {a b : Int × Int} (h : edgeT a = edgeT b) : a = b := by
  have no : ∀ n : Int, (62 : UInt8) ∉ Lib.itoa n := fun n m => by
    have := itoa_chars n 62 m
    have e : (62 : UInt8).toNat = 62 := rfl
    omega
  unfold edgeT at h
  rw [List.append_assoc, List.append_assoc] at h
  obtain ⟨h1, h2⟩ := split_at (no _) (no _) (.inr ⟨_, rfl⟩) (.inr ⟨_, rfl⟩) h
  exact Prod.ext (itoa_inj h1) (itoa_inj (List.cons.inj h2).2)
def NoB (xs : List (List UInt8)) : Prop := ∀ x ∈ xs, (32 : UInt8) ∉ x
theorem tail_inj : ∀ {xs ys : List (List UInt8)}, NoB xs → NoB ys → Lib.joinTail [32] xs = Lib.joinTail [32] ys → xs = ys
  | [], [], _, _, _ => rfl
  | [], y :: ys, _, _, h => by simp [Lib.joinTail] at h
  | x :: xs, [], _, _, h => by simp [Lib.joinTail] at h
  | x :: xs, y :: ys, hx, hy, h => by
    have e : ∀ (z : List UInt8) zs, Lib.joinTail [32] (z :: zs) = 32 :: (z ++ Lib.joinTail [32] zs) := fun z zs => by simp [Lib.joinTail]
    have hd : ∀ zs : List (List UInt8), Lib.joinTail [32] zs = [] ∨ ∃ t, Lib.joinTail [32] zs = 32 :: t := fun zs => by
      cases zs with
      | nil => exact .inl rfl
      | cons z zs => exact .inr ⟨_, e z zs⟩
    rw [e, e] at h
    obtain ⟨e', h'⟩ := split_at (hx x List.mem_cons_self) (hy y List.mem_cons_self) (hd xs) (hd ys) (List.cons.inj h).2
    rw [e', tail_inj (fun z m => hx z (List.mem_cons_of_mem _ m)) (fun z m => hy z (List.mem_cons_of_mem _ m)) h']
theorem join_inj {x y : List UInt8} {xs ys : List (List UInt8)} (hx : NoB (x :: xs)) (hy : NoB (y :: ys)) (h : Lib.join (x :: xs) [32] = Lib.join (y :: ys) [32]) : x = y ∧ xs = ys := by
  rw [Lib.join_cons, Lib.join_cons] at h
  have := tail_inj (xs := x :: xs) (ys := y :: ys) hx hy (by simp only [Lib.joinTail, List.map_cons, List.flatten_cons, List.append_assoc] at h ⊢; rw [h])
  exact List.cons.inj this
theorem map_inj {α β : Type} {f : α → β} (hf : ∀ a b, f a = f b → a = b) : ∀ {xs ys : List α}, xs.map f = ys.map f → xs = ys
  | [], [], _ => rfl
  | [], _ :: _, h => by cases h
  | _ :: _, [], h => by cases h
  | x :: xs, y :: ys, h => by
    simp only [List.map_cons, List.cons.injEq] at h
    rw [hf _ _ h.1, map_inj hf h.2]
theorem hexD_inj : ∀ a b : Fin 16, hexD a.val = hexD b.val → a = b := by decide
theorem hexD_char : ∀ a : Fin 16, hexD a.val ≠ 32 ∧ hexD a.val ≠ 46 := by decide
theorem hexB_inj {a b : UInt8} (h : hexB a = hexB b) : a = b := by
  have ha := a.toNat_lt
  have hb := b.toNat_lt
  unfold hexB at h
  simp only [List.cons.injEq, and_true] at h
  have h1 := hexD_inj ⟨a.toNat / 16, by omega⟩ ⟨b.toNat / 16, by omega⟩ h.1
  have h2 := hexD_inj ⟨a.toNat % 16, by omega⟩ ⟨b.toNat % 16, by omega⟩ h.2
  simp only [Fin.mk.injEq] at h1 h2
  exact UInt8.toNat_inj.1 (by omega)
theorem hexs_inj : ∀ {xs ys : List UInt8}, xs.flatMap hexB = ys.flatMap hexB → xs = ys
  | [], [], _ => rfl
  | [], _ :: _, h => by simp [hexB] at h
  | _ :: _, [], h => by simp [hexB] at h
  | x :: xs, y :: ys, h => by
    rw [List.flatMap_cons, List.flatMap_cons] at h
    have h' := List.append_inj h (by simp [hexB])
    rw [hexB_inj h'.1, hexs_inj h'.2]
theorem hexs_char (xs : List UInt8) : ∀ c ∈ xs.flatMap hexB, c ≠ 32 ∧ c ≠ 46 := by
  intro c hc
  obtain ⟨x, _, hx⟩ := List.mem_flatMap.1 hc
  have := x.toNat_lt
  unfold hexB at hx
  simp only [List.mem_cons, List.not_mem_nil, or_false] at hx
  rcases hx with rfl | rfl
  · exact hexD_char ⟨x.toNat / 16, by omega⟩
  · exact hexD_char ⟨x.toNat % 16, by omega⟩
theorem bit_inj : ∀ a b : Bool, bitB a = bitB b → a = b := by decide
theorem bit_char : ∀ a : Bool, bitB a ≠ 32 ∧ bitB a ≠ 46 := by decide
theorem word_inj {a b : List UInt8} (ha : ∀ c ∈ a, c ≠ 46) (hb : ∀ c ∈ b, c ≠ 46) (h : wordL a = wordL b) : a = b := by
  unfold wordL at h
  split at h <;> split at h
  · rename_i h1 h2; rw [h1, h2]
  · exact absurd rfl (hb 46 (by rw [← h]; exact List.mem_cons_self))
  · exact absurd rfl (ha 46 (by rw [h]; exact List.mem_cons_self))
  · exact h
end Go.Vc
