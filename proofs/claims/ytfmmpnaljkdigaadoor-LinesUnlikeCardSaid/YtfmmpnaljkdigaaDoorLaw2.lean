/-
  Two events with one line are one event. By an AI agent.
-/
import Derived.Test.YtfmmpnaljkdigaaDoorLaw1
set_option linter.unusedSimpArgs false
set_option maxRecDepth 100000
set_option linter.unusedVariables false
namespace Go.Vc
open Go
def Ev.rest (e : Ev) : List (List UInt8) := if vo e.k.toNat = 1 then Lib.itoa e.a1 :: e.es.map edgeT else (e.xs.take (vm e.k.toNat)).map Lib.itoa ++ tailL (vo e.k.toNat) e.s e.bs
theorem Ev.words (e : Ev) (h : e.line ≠ []) : 1 ≤ e.k ∧ e.k < 22 ∧ fitsB e.xs e.es e.s e.bs (vm e.k.toNat) (vo e.k.toNat) = true ∧ e.line = Lib.join (vn e.k.toNat :: e.rest) [32] := by
  unfold Ev.line lineL at h ⊢
  split at h
  · exact absurd rfl h
  · rename_i hk
    rw [if_neg hk]
    split at h
    · rename_i hf
      refine ⟨by omega, by omega, hf, ?_⟩
      rw [if_pos hf]
      unfold Ev.rest
      by_cases h1 : vo e.k.toNat = 1
      · rw [if_pos h1, if_pos h1]
        show _ ++ _ ++ textL e.a1 e.es = _
        unfold textL
        rw [Lib.join_cons, Lib.join_cons]
        simp [Lib.joinTail]
      · rw [if_neg h1, if_neg h1]
    · exact absurd rfl h
theorem itoa_noB (n : Int) : (32 : UInt8) ∉ Lib.itoa n := fun m => by
  have := itoa_chars n 32 m
  have e : (32 : UInt8).toNat = 32 := rfl
  omega
theorem edge_noB (x : Int × Int) : (32 : UInt8) ∉ edgeT x := fun m => by
  unfold edgeT at m
  simp only [List.mem_append, List.mem_singleton] at m
  rcases m with (m | m) | m
  · exact itoa_noB _ m
  · exact absurd m (by decide)
  · exact itoa_noB _ m
theorem word_noB {l : List UInt8} (h : ∀ c ∈ l, c ≠ 32) : (32 : UInt8) ∉ wordL l := fun m => by
  unfold wordL at m
  split at m
  · exact absurd m (by decide)
  · exact h 32 m rfl
theorem vn_noB : ∀ k : Fin 22, (32 : UInt8) ∉ vn k.val := by decide +kernel
theorem vn_inj : ∀ i j : Fin 22, vn i.val = vn j.val → i = j := by decide +kernel
theorem tail_noB (m : Nat) (s : ByteArray) (bs : List Bool) : NoB (tailL m s bs) := by
  unfold tailL
  split
  · intro x hx
    rw [List.mem_singleton.1 hx]
    exact word_noB fun c hc => (hexs_char _ c hc).1
  · split
    · intro x hx
      rw [List.mem_singleton.1 hx]
      refine word_noB fun c hc => ?_
      obtain ⟨b, _, rfl⟩ := List.mem_map.1 hc
      exact (bit_char b).1
    · intro x hx; cases hx
theorem Ev.noB (e : Ev) (h1 : 1 ≤ e.k) (h2 : e.k < 22) : NoB (vn e.k.toNat :: e.rest) := by
  intro x hx
  rcases List.mem_cons.1 hx with rfl | hx
  · exact vn_noB ⟨e.k.toNat, by omega⟩
  · unfold Ev.rest at hx
    split at hx
    · rcases List.mem_cons.1 hx with rfl | hx
      · exact itoa_noB _
      · obtain ⟨y, _, rfl⟩ := List.mem_map.1 hx
        exact edge_noB y
    · rcases List.mem_append.1 hx with hx | hx
      · obtain ⟨y, _, rfl⟩ := List.mem_map.1 hx
        exact itoa_noB y
      · exact tail_noB _ _ _ x hx
/-- numbers from the m-th on are 0: so the first m tell them all -/
theorem zero_all {m : Int} : ∀ {i : Nat} {xs : List Int}, zeroFrom m i xs = true → ∀ j, m ≤ (i + j : Nat) → ∀ y, xs[j]? = some y → y = 0
  | i, [], _, j, _, y, hy => by simp at hy
  | i, x :: xs, h, j, hj, y, hy => by
    simp only [zeroFrom, Bool.and_eq_true, Bool.or_eq_true, decide_eq_true_eq] at h
    cases j with
    | zero =>
      simp only [List.getElem?_cons_zero, Option.some.injEq] at hy
      subst hy
      rcases h.1 with h1 | h1
      · omega
      · exact h1
    | succ j => exact zero_all h.2 j (by omega) y (by simpa using hy)
theorem xs_of_take {m : Nat} {xs ys : List Int} (hl : xs.length = ys.length) (hx : zeroFrom m 0 xs = true) (hy : zeroFrom m 0 ys = true) (h : xs.take m = ys.take m) : xs = ys := by
  apply List.ext_getElem? 
  intro j
  by_cases hj : j < m
  · have := congrArg (fun l : List Int => l[j]?) h
    simpa [List.getElem?_take, hj] using this
  · cases e : xs[j]? with
    | none =>
      have := List.getElem?_eq_none_iff.1 e
      exact (List.getElem?_eq_none (by omega)).symm
    | some x =>
      have hlt : j < xs.length := (List.getElem?_eq_some_iff.1 e).1
      have e2 : ys[j]? = some ys[j] := List.getElem?_eq_getElem (by omega)
      rw [e2, zero_all hx j (by omega) x e, zero_all hy j (by omega) _ e2]
theorem lineLaw : LineLaw := by
  intro a b ha hb
  refine ⟨fun h => ?_, fun h => by rw [h]⟩
  obtain ⟨a1, a2, fa, ea⟩ := a.words ha
  obtain ⟨b1, b2, fb, eb⟩ := b.words hb
  rw [ea, eb] at h
  obtain ⟨hn, hr⟩ := join_inj (a.noB a1 a2) (b.noB b1 b2) h
  have hk : a.k = b.k := by
    have := vn_inj ⟨a.k.toNat, by omega⟩ ⟨b.k.toNat, by omega⟩ hn
    simp only [Fin.mk.injEq] at this
    omega
  obtain ⟨_, za, _, _, _, _, ma1, ma2, ma3⟩ := fits_of fa
  obtain ⟨_, zb, _, _, _, _, mb1, mb2, mb3⟩ := fits_of fb
  obtain ⟨k, p1, p2, p3, p4, p5, es, s, bs⟩ := a
  obtain ⟨k', q1, q2, q3, q4, q5, es', s', bs'⟩ := b
  simp only at hk
  subst hk
  simp only at a1 a2
  simp only [Ev.rest, Ev.xs] at hr za zb ma1 ma2 ma3 mb1 mb2 mb3 fa fb
  have key : [p1, p2, p3, p4, p5].take (vm k.toNat) = [q1, q2, q3, q4, q5].take (vm k.toNat) ∧ es = es' ∧ s = s' ∧ bs = bs' := by
    have nil : ∀ {l l' : List Bool}, l.length = 0 → l'.length = 0 → l = l' := fun h h' => by rw [List.length_eq_zero_iff.1 h, List.length_eq_zero_iff.1 h']
    have nilE : ∀ {l l' : List (Int × Int)}, l.length = 0 → l'.length = 0 → l = l' := fun h h' => by rw [List.length_eq_zero_iff.1 h, List.length_eq_zero_iff.1 h']
    by_cases h1 : vo k.toNat = 1
    · rw [if_pos h1, if_pos h1] at hr
      have hv1 : ∀ j : Fin 22, vo j.val = 1 → vm j.val = 1 := by decide +kernel
      have hv := hv1 ⟨k.toNat, by omega⟩ h1
      simp only at hv
      rw [hv]
      refine ⟨by rw [itoa_inj (List.cons.inj hr).1]; rfl, map_inj (fun _ _ => edge_inj) (List.cons.inj hr).2, ?_, nil (by omega) (by omega)⟩
      rw [ma2.resolve_left (by omega), mb2.resolve_left (by omega)]
    · rw [if_neg h1, if_neg h1] at hr
      obtain ⟨ht, hs⟩ := List.append_inj hr (by simp)
      refine ⟨map_inj (fun _ _ => itoa_inj) ht, nilE (by omega) (by omega), ?_⟩
      unfold tailL at hs
      by_cases h2 : vo k.toNat = 2
      · rw [if_pos h2, if_pos h2] at hs
        refine ⟨?_, nil (by omega) (by omega)⟩
        have := hexs_inj (word_inj (fun c hc => (hexs_char _ c hc).2) (fun c hc => (hexs_char _ c hc).2) (List.cons.inj hs).1)
        obtain ⟨⟨s⟩⟩ := s
        obtain ⟨⟨s'⟩⟩ := s'
        simp only at this
        rw [this]
      · rw [if_neg h2, if_neg h2] at hs
        refine ⟨by rw [ma2.resolve_left (by omega), mb2.resolve_left (by omega)], ?_⟩
        by_cases h3 : vo k.toNat = 3
        · rw [if_pos h3, if_pos h3] at hs
          have nb : ∀ (l : List Bool), ∀ c ∈ l.map bitB, c ≠ 46 := fun l c hc => by
            obtain ⟨b, _, rfl⟩ := List.mem_map.1 hc
            exact (bit_char b).2
          exact map_inj bit_inj (word_inj (nb _) (nb _) (List.cons.inj hs).1)
        · exact nil (by omega) (by omega)
  obtain ⟨ht, rfl, rfl, rfl⟩ := key
  have hx := xs_of_take (xs := [p1, p2, p3, p4, p5]) (ys := [q1, q2, q3, q4, q5]) rfl za zb ht
  simp only [List.cons.injEq, and_true] at hx
  obtain ⟨rfl, rfl, rfl, rfl, rfl⟩ := hx
  rfl
end Go.Vc
