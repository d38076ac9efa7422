/-
  The law LinesTell answers true wherever it may look. By an AI agent.
-/
import Derived.Test.YtfmmpnaljkdigaaGreatDoorAs6
set_option linter.unusedSimpArgs false
set_option maxRecDepth 100000
set_option linter.unusedVariables false
namespace Go.Vc
open Go
theorem cell_grow {w w' : World} (g : Grow w w') {a : Addr} {v : Value} (h : w.cell? a = some v) : w'.cell? a = some v := by
  unfold World.cell? at h ⊢
  cases hb : w.heap[a.block]? with
  | none => simp [hb] at h
  | some o => rw [g.get hb]; rw [hb] at h; exact h
theorem ErrT.grow {w w' : World} (h : ErrT w) (g : Grow w w') : ErrT w' := cell_grow g h
theorem code_wrap {m : Int} (h0 : 0 ≤ m) (h1 : m ≤ 255) : IntKind.wrap .i64 (1 + Int.tmod (IntKind.wrap .i64 m) 16) = 1 + Int.tmod m 16 ∧ 1 ≤ 1 + Int.tmod m 16 ∧ 1 + Int.tmod m 16 ≤ 16 := by
  have h3 := Int.tmod_nonneg (16 : Int) h0
  have h4 := Int.tmod_lt_of_pos m (show (0 : Int) < 16 by omega)
  rw [wrap_id (n := m) (by omega) (by omega), wrap_id (by omega) (by omega)]
  omega
theorem tell_spec_f {q : Option Addr} {l c : Nat} {ns : List Int} {code m : Int} {w : World} {K : Value → World → Prop} (ht : Tab w) (hE : ErrT w) (hm : ∀ w', Grow w w' → w'.cell? ⟨G.internal_bytealg_MaxLen, 0, none⟩ = some (.int .i64 m))
    (hs : Sl w q (ns.map iv)) (hl : l = ns.length) (c0 : 0 ≤ code) (c1 : code ≤ 255) (hK : ∀ w', Grow w w' → K (.bool true) w') : CallV PR F.ladinglaw29_LinesTell ⟨[.slice q l c, .int .u8 code, .bool false]⟩ w K := by
  obtain ⟨e1, e2, e3⟩ := code_wrap c0 c1
  refine ladinglaw29_LinesTell_f q l c code (fun _ => False) K w ?_
  rw [e1]
  refine awake_spec (m := m) ht hm fun w0 g0 => ⟨true, rfl, fun _ => ⟨(Fr.init _ w).after g0, fun _ => hK _ g0, fun hlen => ?_⟩, fun h => by cases h⟩
  have h0 := (Fr.init (fun _ => False) w).after g0
  refine ⟨fun n k w' => ∃ i : Nat, n = i ∧ i ≤ ns.length ∧ k = ns.length - i ∧ ∀ x, x ∈ ns.take i → -1125899906842624 ≤ x ∧ x ≤ 1125899906842624, ⟨_, 0, rfl, by omega, rfl, fun x hx => by cases hx⟩, ?_⟩
  rintro n D k w1 ⟨i, rfl, hi, rfl, hall⟩ hF
  refine ⟨fun hlt => ?_, fun hge => ?_⟩
  · have hi' : i < ns.length := by omega
    refine (hs.grow hF.gr).rd (by simp [hl]) (by omega) (v := iv ns[i]) (by simp [hi']) fun a ha => ⟨ns[i], ha, fun _ => hK _ hF.gr, fun g1 => ⟨fun _ => hK _ hF.gr, fun g2 => ⟨ns.length - (i + 1), by omega, i + 1, wr1 (by omega), by omega, rfl, fun x hx => ?_⟩⟩⟩
    rw [take_next hi', List.mem_append, List.mem_singleton] at hx
    rcases hx with hx | rfl
    · exact hall x hx
    · omega
  · have : i = ns.length := by omega
    subst this
    rw [List.take_length] at hall
    have hn : ∀ x, x ∈ ns → i64 x := fun x hx => by have := hall x hx; unfold i64; omega
    have hsz := numL_le hn
    refine Tell_ok (ht.grow hF.gr) (hs.grow hF.gr) hl (by omega) hn fun w2 g2 => ⟨_, rfl, hF.after g2, ?_⟩
    have h2 := hF.after g2
    refine Numbers_spec (hs.grow h2.gr) hl (by omega) hn fun w3 g3 => ⟨_, rfl, h2.after g3, by rw [str_size]; omega, ?_⟩
    have h3 := h2.after g3
    have eo : (⟨#[111, 107]⟩ : ByteArray) ++ str (numL ns) = str ([111, 107] ++ numL ns) := strS_app [111, 107] _
    rw [eo]
    refine ⟨fun _ => ?_, fun h => absurd rfl h⟩
    have hi64 : i64 (1 + Int.tmod code 16) := by unfold i64; omega
    refine Tell_err (code := 1 + Int.tmod code 16) (ht.grow h3.gr) (hs.grow h3.gr) hl (by omega) hn hi64 (fun K' hK' => Code_errno_spec (hE.grow h3.gr) hi64.1 hi64.2 hK') fun w4 g4 => ⟨_, rfl, h3.after g4, ?_⟩
    have h4 := h3.after g4
    have hl0 := Lib.itoa_length_le _ hi64.1 hi64.2
    refine Digits_spec _ (Nat.le_refl _) hi64.1 hi64.2 fun w5 g5 => ⟨_, rfl, h4.after g5, by rw [str_size]; omega, ?_⟩
    have h5 := h4.after g5
    have ee : (⟨#[101, 114, 114, 111, 114, 32]⟩ : ByteArray) ++ str (Lib.itoa (1 + Int.tmod code 16)) = str ([101, 114, 114, 111, 114, 32] ++ Lib.itoa (1 + Int.tmod code 16)) := strS_app [101, 114, 114, 111, 114, 32] _
    rw [ee]
    refine Numbers_spec (hs.grow h5.gr) hl (by omega) hn fun w6 g6 => ⟨_, rfl, h5.after g6, by rw [str_size, str_size]; simp; omega, ?_⟩
    rw [strS_app]
    exact ⟨fun _ => hK _ (h5.after g6).gr, fun h => absurd rfl h⟩
theorem tell_spec_t {q : Option Addr} {l c : Nat} {ns : List Int} {code m : Int} {w : World} {K : Value → World → Prop} (ht : Tab w) (hE : ErrT w) (hm : ∀ w', Grow w w' → w'.cell? ⟨G.internal_bytealg_MaxLen, 0, none⟩ = some (.int .i64 m))
    (hs : Sl w q (ns.map iv)) (hl : l = ns.length) (c0 : 0 ≤ code) (c1 : code ≤ 255) (hK : ∀ w', Grow w w' → K (.bool true) w') : CallV PR F.ladinglaw29_LinesTell ⟨[.slice q l c, .int .u8 code, .bool true]⟩ w K := by
  obtain ⟨e1, e2, e3⟩ := code_wrap c0 c1
  refine ladinglaw29_LinesTell_t q l c code (fun _ => False) K w ?_
  rw [e1]
  refine awake_spec (m := m) ht hm fun w0 g0 => ⟨true, rfl, fun _ => ⟨(Fr.init _ w).after g0, fun _ => hK _ g0, fun hlen => ?_⟩, fun h => by cases h⟩
  have h0 := (Fr.init (fun _ => False) w).after g0
  refine ⟨fun n k w' => ∃ i : Nat, n = i ∧ i ≤ ns.length ∧ k = ns.length - i ∧ ∀ x, x ∈ ns.take i → -1125899906842624 ≤ x ∧ x ≤ 1125899906842624, ⟨_, 0, rfl, by omega, rfl, fun x hx => by cases hx⟩, ?_⟩
  rintro n D k w1 ⟨i, rfl, hi, rfl, hall⟩ hF
  refine ⟨fun hlt => ?_, fun hge => ?_⟩
  · have hi' : i < ns.length := by omega
    refine (hs.grow hF.gr).rd (by simp [hl]) (by omega) (v := iv ns[i]) (by simp [hi']) fun a ha => ⟨ns[i], ha, fun _ => hK _ hF.gr, fun g1 => ⟨fun _ => hK _ hF.gr, fun g2 => ⟨ns.length - (i + 1), by omega, i + 1, wr1 (by omega), by omega, rfl, fun x hx => ?_⟩⟩⟩
    rw [take_next hi', List.mem_append, List.mem_singleton] at hx
    rcases hx with hx | rfl
    · exact hall x hx
    · omega
  · have : i = ns.length := by omega
    subst this
    rw [List.take_length] at hall
    have hn : ∀ x, x ∈ ns → i64 x := fun x hx => by have := hall x hx; unfold i64; omega
    have hsz := numL_le hn
    refine Tell_ok (ht.grow hF.gr) (hs.grow hF.gr) hl (by omega) hn fun w2 g2 => ⟨_, rfl, hF.after g2, ?_⟩
    have h2 := hF.after g2
    refine Numbers_spec (hs.grow h2.gr) hl (by omega) hn fun w3 g3 => ⟨_, rfl, h2.after g3, by rw [str_size]; omega, ?_⟩
    have h3 := h2.after g3
    have eo : (⟨#[111, 107]⟩ : ByteArray) ++ str (numL ns) = str ([111, 107] ++ numL ns) := strS_app [111, 107] _
    rw [eo]
    refine ⟨fun _ => ⟨rfl, ?_⟩, fun h => absurd rfl h⟩
    have hi64 : i64 (1 + Int.tmod code 16) := by unfold i64; omega
    refine Tell_err (code := 1 + Int.tmod code 16) (ht.grow h3.gr) (hs.grow h3.gr) hl (by omega) hn hi64 (fun K' hK' => Code_fault_spec (hE.grow h3.gr) hK') fun w4 g4 => ⟨_, rfl, h3.after g4, ?_⟩
    have h4 := h3.after g4
    have hl0 := Lib.itoa_length_le _ hi64.1 hi64.2
    refine Digits_spec _ (Nat.le_refl _) hi64.1 hi64.2 fun w5 g5 => ⟨_, rfl, h4.after g5, by rw [str_size]; omega, ?_⟩
    have h5 := h4.after g5
    have ee : (⟨#[101, 114, 114, 111, 114, 32]⟩ : ByteArray) ++ str (Lib.itoa (1 + Int.tmod code 16)) = str ([101, 114, 114, 111, 114, 32] ++ Lib.itoa (1 + Int.tmod code 16)) := strS_app [101, 114, 114, 111, 114, 32] _
    rw [ee]
    refine Numbers_spec (hs.grow h5.gr) hl (by omega) hn fun w6 g6 => ⟨_, rfl, h5.after g6, by rw [str_size, str_size]; simp; omega, ?_⟩
    rw [strS_app]
    exact ⟨fun _ => hK _ (h5.after g6).gr, fun h => absurd rfl h⟩
end Go.Vc
