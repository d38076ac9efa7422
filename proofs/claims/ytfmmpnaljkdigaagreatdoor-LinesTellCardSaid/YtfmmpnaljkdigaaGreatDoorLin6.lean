/-
  The law LinesUnlike answers true wherever lines tell events apart. By an AI agent.
-/
import Derived.Test.YtfmmpnaljkdigaaGreatDoorLin5
set_option linter.unusedSimpArgs false
set_option maxRecDepth 100000
set_option linter.unusedVariables false
namespace Go.Vc
open Go
/-! ## the document's example is read -/
def turnS : ByteArray := ⟨#[84, 85, 82, 78, 32, 51, 32, 48]⟩
def zeroEv : Value := .agg #[.int .i64 6, .int .i64 3, .int .i64 0, .int .i64 0, .int .i64 0, .int .i64 0, .slice none 0 0, .string ⟨#[]⟩, .slice none 0 0]
theorem itoa3 : Lib.itoa 3 = [51] := by
  have := Lib.decDigits_one (i := 3) (by omega)
  simp [Lib.itoa, this]
theorem itoa0 : Lib.itoa 0 = [48] := by
  have := Lib.decDigits_one (i := 0) (by omega)
  simp [Lib.itoa, this]
theorem turn_line : str (lineL 6 [3, 0, 0, 0, 0] [] ⟨#[]⟩ []) = turnS := by
  have h1 : fitsB [3, 0, 0, 0, 0] [] ⟨#[]⟩ [] ((vm (Int.toNat 6) : Nat) : Int) ((vo (Int.toNat 6) : Nat) : Int) = true := by decide
  unfold lineL
  rw [if_neg (by omega), if_pos h1, if_neg (by decide)]
  have h2 : vn (Int.toNat 6) = [84, 85, 82, 78] := rfl
  have h3 : tailL (vo (Int.toNat 6)) ⟨#[]⟩ [] = [] := rfl
  have h4 : (([3, 0, 0, 0, 0] : List Int).take (vm (Int.toNat 6))).map Lib.itoa = [[51], [48]] := by
    show [Lib.itoa 3, Lib.itoa 0] = _
    rw [itoa3, itoa0]
  rw [h2, h3, h4]
  rfl
theorem read_turn {nm : ByteArray} {q : Option Addr} {c : Nat} {w : World} {K : Value → World → Prop} (hs : Sl w q (([⟨#[51]⟩, ⟨#[48]⟩] : List ByteArray).map sv1))
    (hK : ∀ w', Grow w w' → K zeroEv w') : CallV PR F.lines_read ⟨[.int .i64 6, .agg #[.string nm, .int .i64 2, .int .i64 0], .slice q 2 c]⟩ w K := by
  refine lines_read 6 nm 2 0 q 2 c (fun _ => False) K w ?_
  intro r0 hr0 r1 hr1 r2 hr2
  refine ⟨fun h => absurd h (by decide), fun _ w4 h4 => ?_⟩
  refine ⟨fun n v m w' => (n = 0 ∧ m = 2 ∧ v = .agg #[.int .i64 6, .int .i64 0, .int .i64 0, .int .i64 0, .int .i64 0, .int .i64 0, .slice none 0 0, .string ⟨#[]⟩, .slice none 0 0]) ∨ (n = 1 ∧ m = 1 ∧ v = zeroEv) ∨ (n = 2 ∧ m = 0 ∧ v = zeroEv),
    ⟨_, .inl ⟨rfl, rfl, rfl⟩⟩, ?_⟩
  rintro n v D m w5 hI hF
  refine ⟨fun hlt => ?_, fun hge => ?_⟩
  · rcases hI with ⟨rfl, rfl, rfl⟩ | ⟨rfl, rfl, rfl⟩ | ⟨rfl, rfl, rfl⟩
    · refine (hs.grow hF.gr).rd rfl (by omega) (v := .string ⟨#[51]⟩) rfl fun a ha => ⟨⟨#[51]⟩, ha, ?_⟩
      refine Atoi_spec (n := 3) (by decide) (by decide) fun w6 g6 => ⟨_, _, rfl, hF.after g6, by omega, by omega, by decide, fun w7 h7 => ⟨1, by omega, .inr (.inl ⟨rfl, rfl, rfl⟩)⟩⟩
    · refine (hs.grow hF.gr).rd rfl (by omega) (v := .string ⟨#[48]⟩) rfl fun a ha => ⟨⟨#[48]⟩, ha, ?_⟩
      refine Atoi_spec (n := 0) (by decide) (by decide) fun w6 g6 => ⟨_, _, rfl, hF.after g6, by omega, by omega, by decide, fun w7 h7 => ⟨0, by omega, .inr (.inr ⟨rfl, rfl, rfl⟩)⟩⟩
    · exact absurd hlt (by decide)
  · rcases hI with ⟨rfl, rfl, rfl⟩ | ⟨rfl, rfl, rfl⟩ | ⟨rfl, rfl, rfl⟩
    · exact absurd (by decide) hge
    · exact absurd (by decide) hge
    · refine ⟨fun h => absurd h (by decide), fun _ => ?_⟩
      refine ⟨6, rfl, 3, rfl, 0, rfl, 0, rfl, 0, rfl, 0, rfl, none, 0, 0, rfl, ⟨#[]⟩, rfl, none, 0, 0, rfl, fun w13 h13 => hK w13 ?_⟩
      exact h13.gr
theorem split_turn : Lib.countB turnS ⟨#[32]⟩ = 2 ∧ Lib.splitB ⟨#[32]⟩ 0 2 turnS = [⟨#[84, 85, 82, 78]⟩, ⟨#[51]⟩, ⟨#[48]⟩] := by
  constructor
  · decide +kernel
  · decide +kernel
theorem Parse_turn {m : Int} {w : World} {K : Value → World → Prop} (ht : Tab w) (hm : ∀ w', Grow w w' → w'.cell? ⟨G.internal_bytealg_MaxLen, 0, none⟩ = some (.int .i64 m))
    (hK : ∀ w', Grow w w' → K (.tuple #[zeroEv, .nilIface]) w') : CallV PR F.lines_Parse ⟨[.string turnS]⟩ w K := by
  refine lines_Parse turnS (fun _ => False) K w ?_
  intro r0 hr0 w0 h0
  obtain ⟨hc, hsp⟩ := split_turn
  refine Split_spec (m := m) (by decide) (hm w0 h0.gr) (by decide) (fun w1 b hb g1 hown => ?_) (by rw [hc, hsp]; rfl) (by rw [hc]; decide)
  rw [hc, hsp] at hown
  rw [hc]
  have h1 := h0.after g1
  refine ⟨_, _, _, rfl, h1, ?_⟩
  refine verbs_spec fun w2 g2 => ⟨_, _, _, _, _, _, _, _, _, _, _, _, _, _, _, _, _, _, _, _, _, _, _, _, _, _, _, _, _, _, _, _, _, _, _, _, _, _, _, _, _, _, _, _, _, _, _, _, _, _, _, _, _, _, _, _, _, _, _, _, _, _, _, _, _, _, rfl, h1.after g2, ?_⟩
  have h2 := h1.after g2
  have hs2 := hown.sl.grow g2
  refine ⟨fun k _ _ _ _ _ _ _ _ _ _ _ _ _ d w' => ∃ i : Nat, k = i ∧ i ≤ 6 ∧ d = 6 - i ∧ Grow w2 w', ⟨_, 0, rfl, by omega, rfl, .refl _ _⟩, ?_⟩
  rintro k n1 n2 n3 n4 n5 n6 q1 l4 l5 s22 q2 l6 l7 D d w3 ⟨i, rfl, hi, rfl, g3⟩ hF
  refine ⟨fun hlt => ?_, fun hge => absurd (by omega) hge⟩
  refine ⟨by omega, hlt, str (vn i), vm i, vo i, verbs_ext (by omega), fun r9 hr9 w4 h4 => ⟨fun w' => Grow w4 w', .refl _ _, fun h0' => ?_, fun h0' => ?_⟩⟩
  · have g4 : Grow w3 w4 := h4.stp.mono fun j hj e => by simp at e; omega
    exact ⟨6 - (i + 1), by omega, i + 1, wr1 (by omega), by omega, rfl, g3.trans g4⟩
  have g4 : Grow w3 w4 := h4.stp.mono fun j hj e => by simp at e; omega
  have hs4 := (hs2.grow g3).grow g4
  refine hs4.rdG (n := 0) rfl (by omega) (v := .string ⟨#[84, 85, 82, 78]⟩) rfl fun a ha => ⟨⟨#[84, 85, 82, 78]⟩, ha, fun hnm => ?_, fun hnm => ?_⟩
  · intro w6 h6
    have e6 : i = 6 := by
      have : i = 1 ∨ i = 2 ∨ i = 3 ∨ i = 4 ∨ i = 5 ∨ i = 6 := by omega
      have hnm : vn i = [84, 85, 82, 78] := str_inj hnm
      rcases this with rfl | rfl | rfl | rfl | rfl | rfl <;> first | rfl | (exact absurd hnm (by decide))
    subst e6
    have rd : ∀ w', Grow w4 w' → Sl w' (some ⟨b, 1, none⟩) (([⟨#[51]⟩, ⟨#[48]⟩] : List ByteArray).map sv1) := fun w' g => by
      have h := hs4.grow g
      rcases h with h | ⟨b', o', hb', cs, T, fz, hbk, hcs⟩
      · cases h
      · cases hb'
        refine .inr ⟨_, _, rfl, cs, T, fz, hbk, fun j hj => ?_⟩
        have := hcs (j + 1) (by simp at hj ⊢; omega)
        rw [show 0 + (j + 1) = 1 + j by omega] at this
        rw [this]; rfl
    refine ⟨fun w' => True, trivial, by omega, by decide, ?_, ?_⟩
    · refine read_turn (q := some ⟨b, 1, none⟩) (rd w6 h6.grow) fun w7 g7 => ⟨6, 3, 0, 0, 0, 0, none, 0, 0, ⟨#[]⟩, none, 0, 0, rfl, h6.after g7, trivial, fun r15 hr15 w8 h8 => ⟨trivial, fun w9 h9 => ?_⟩⟩
      refine Line_spec (es := []) (bs := []) (ht.grow h9.gr) (.nil _ _) (.nil _ _) rfl rfl (by omega) fun w10 g10 => ⟨_, rfl, h9.after g10, fun _ w11 h11 => hK w11 h11.gr, fun hne => absurd turn_line hne⟩
    · intro r17 hr17 w12 h12
      have g12 : Grow w4 w12 := h6.grow.trans h12.grow
      refine ⟨trivial, read_turn (q := some ⟨b, 1, none⟩) (rd w12 g12) fun w13 g13 => ⟨6, 3, 0, 0, 0, 0, none, 0, 0, ⟨#[]⟩, none, 0, 0, rfl, h12.after g13, trivial, fun w14 h14 => ?_⟩⟩
      refine Line_spec (es := []) (bs := []) (ht.grow h14.gr) (.nil _ _) (.nil _ _) rfl rfl (by omega) fun w10 g10 => ⟨_, rfl, h14.after g10, fun _ w11 h11 => hK w11 h11.gr, fun hne => absurd turn_line hne⟩
  · exact ⟨6 - (i + 1), by
      have : i ≠ 6 := fun e => by subst e; exact hnm rfl
      omega, i + 1, wr1 (by omega), by
      have : i ≠ 6 := fun e => by subst e; exact hnm rfl
      omega, rfl, g3.trans g4⟩
theorem awake_spec {m : Int} {w : World} {K : Value → World → Prop} (ht : Tab w) (hm : ∀ w', Grow w w' → w'.cell? ⟨G.internal_bytealg_MaxLen, 0, none⟩ = some (.int .i64 m))
    (hK : ∀ w', Grow w w' → K (.bool true) w') : CallV PR F.ladinglaw29_awake ⟨[]⟩ w K := by
  refine ladinglaw29_awake (fun _ => False) K w ?_
  refine Parse_turn ht hm fun w0 g0 => ⟨6, 3, 0, 0, 0, 0, none, 0, 0, ⟨#[]⟩, none, 0, 0, .nilIface, rfl, (Fr.init _ w).after g0, fun r4 hr4 => ⟨fun _ => ⟨fun _ => ⟨by omega, by omega, fun _ w1 h1 => ?_, fun h => absurd rfl h⟩, fun h => absurd rfl h⟩, (fun t v h => by cases h), .inl rfl⟩⟩
  refine Line_spec (es := []) (bs := []) (ht.grow h1.gr) (.nil _ _) (.nil _ _) rfl rfl (by omega) fun w2 g2 => ⟨_, rfl, h1.after g2, fun _ => hK w2 (h1.gr.trans g2), fun hne => absurd turn_line hne⟩
end Go.Vc
