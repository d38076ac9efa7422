/-
  What lines.bits, lines.hex, lines.word and lines.small answer. By an AI agent.
-/
import Derived.Test.YtfmmpnaljkdigaaGreatDoorMirD
import Derived.Test.YtfmmpnaljkdigaaGreatDoorTy
set_option linter.unusedSimpArgs false
set_option maxRecDepth 100000
set_option linter.unusedVariables false
namespace Go.Vc
open Go
/-! ## words of truths and of bytes -/
def bitB (b : Bool) : UInt8 := if b then 49 else 48
theorem bits_spec {q : Option Addr} {l c : Nat} {bs : List Bool} {w : World} {K : Value → World → Prop} (hs : Sl w q (bs.map .bool)) (hl : l = bs.length) (hb : l ≤ 1000000)
    (hK : ∀ w', Grow w w' → K (.string (str (bs.map bitB))) w') : CallV PR F.lines_bits ⟨[.slice q l c]⟩ w K := by
  refine lines_bits q l c (fun _ => False) K w ⟨fun x lx cx n m w' => ∃ k : Nat, n = k ∧ k ≤ bs.length ∧ m = bs.length - k ∧ Own T.uint8 1 w' x cx (((bs.take k).map bitB).map bv) ∧ lx = k ∧ lx ≤ cx ∧ Off (fun k => k < w.heap.size) x,
    ⟨_, 0, rfl, by omega, rfl, .nil _ _ _, rfl, Nat.le_refl _, .none _⟩, ?_⟩
  rintro x lx cx n D m w' ⟨k, rfl, hk, rfl, ho, rfl, hlc, hoff⟩ hF
  refine ⟨fun hlt => ?_, fun hge => ?_⟩
  · have hk' : lx < bs.length := by omega
    refine (hs.grow hF.gr).rd (by simp [hl]) (by omega) (v := .bool bs[lx]) (by simp [hk']) fun a ha => ⟨bs[lx], ha, ?_⟩
    have key : ∀ (b : UInt8) (v : Value), v = bv b → bitB bs[lx] = b → ∀ r : Nat, w'.heap.size ≤ r → ∀ w1 : World, Fr (fun _ => False) w w' [] [⟨r, #[v], 5, true⟩] w1 →
        sv PR (Builtin.append_ #[T.sl_uint8, T.sl_uint8] T.sl_uint8 #[.slice x lx cx, .slice (some ⟨r, 0, none⟩) 1 1]) (fun v0 w2 => ∃ q1 : Option Addr, ∃ l5 : Nat, ∃ l6 : Nat, v0 = .slice q1 l5 l6 ∧ Fs (fun _ => False) w [⟨r, #[v], 5, true⟩] w2 ∧
          ∃ l7 : Nat, l7 < bs.length - lx ∧ ∃ k : Nat, IntKind.wrap .i64 ((lx : Int) + 1) = k ∧ k ≤ bs.length ∧ l7 = bs.length - k ∧ Own T.uint8 1 w2 q1 l6 (((bs.take k).map bitB).map bv) ∧ l5 = k ∧ l5 ≤ l6 ∧ Off (fun k => k < w.heap.size) q1) w1 := by
      rintro b v rfl hb r hr w1 h1
      refine app_u8 (ys := [b]) (ho.grow h1.grow) (by simp; omega) hlc (h1.sl 0 rfl) rfl (by omega) fun q' c' w2 ho2 hc2 g2 hq2 => ?_
      refine ⟨_, _, _, rfl, h1.keep g2 ?_ hoff, bs.length - (lx + 1), by omega, lx + 1, wr1 (by omega), by omega, rfl, ?_, rfl, hc2, hoff.next hq2 (by have := h1.chg.size; omega)⟩
      · rintro a rfl y hy
        simp at hy; subst hy
        have := ho.lt a rfl
        simp only []; omega
      · rw [take_next hk', List.map_append]; show Own _ _ _ _ _ ((_ ++ [bitB bs[lx]]).map bv); rw [hb]; exact ho2
    exact ⟨fun h => key 49 _ rfl (by simp [bitB, h]), fun h => key 48 _ rfl (by simp [bitB, h])⟩
  · have e : lx = bs.length := by omega
    subst e
    rw [List.take_length] at ho
    refine sv_string u_bytes u_str u_u8 ho.sl (by simp) ⟨_, rfl, hF, hK _ hF.gr⟩
/-- a byte's two signs -/
def hexD (n : Nat) : UInt8 := if n < 10 then UInt8.ofNat (48 + n) else UInt8.ofNat (87 + n)
def hexB (b : UInt8) : List UInt8 := [hexD (b.toNat / 16), hexD (b.toNat % 16)]
theorem hexD_at : ∀ n : Fin 16, byteAt ⟨#[48, 49, 50, 51, 52, 53, 54, 55, 56, 57, 97, 98, 99, 100, 101, 102]⟩ n.val = (hexD n.val).toNat := by decide
theorem hex_spec {s : ByteArray} {w : World} {K : Value → World → Prop} (hb : s.size ≤ 1000000)
    (hK : ∀ w', Grow w w' → K (.string (str (s.data.toList.flatMap hexB))) w') : CallV PR F.lines_hex ⟨[.string s]⟩ w K := by
  have hlen := len_data s
  refine lines_hex s (fun _ => False) K w ⟨fun x lx cx n m w' => ∃ k : Nat, n = k ∧ k ≤ s.size ∧ m = s.size - k ∧ Own T.uint8 1 w' x cx (((s.data.toList.take k).flatMap hexB).map bv) ∧ lx = 2 * k ∧ lx ≤ cx ∧ Off (fun k => k < w.heap.size) x,
    ⟨_, 0, rfl, by omega, rfl, .nil _ _ _, rfl, Nat.le_refl _, .none _⟩, ?_⟩
  rintro x lx cx n D m w' ⟨k, rfl, hk, rfl, ho, rfl, hlc, hoff⟩ hF
  refine ⟨fun hlt => ?_, fun hge => ?_⟩
  · have hk' : k < s.size := by omega
    have hkd : k < s.data.toList.length := by omega
    have hbl := byteAt_at hkd
    have hb256 : byteAt s k < 256 := by rw [hbl]; exact UInt8.toNat_lt _
    rw [Int.toNat_natCast]
    generalize hc : byteAt s k = v at hbl hb256
    have e1 : Int.fdiv ((v : Nat) : Int) 16 = ((v / 16 : Nat) : Int) := by rw [Int.fdiv_eq_ediv_of_nonneg _ (by decide)]; rfl
    have e2 : IntKind.wrap .u8 ((BitVec.toNat (BitVec.ofInt 8 ((v : Nat) : Int) &&& BitVec.ofInt 8 15) : Nat) : Int) = ((v % 16 : Nat) : Int) := by
      rw [wrap_u8]
      have : ∀ v : Fin 256, ((BitVec.toNat (BitVec.ofInt 8 ((v.val : Nat) : Int) &&& BitVec.ofInt 8 15) : Nat) : Int) % 256 = ((v.val % 16 : Nat) : Int) := by decide +kernel
      exact this ⟨v, hb256⟩
    rw [e1, e2]
    refine ⟨by omega, by omega, by omega, by omega, by omega, by omega, by omega, by omega, ?_⟩
    rw [Int.toNat_natCast, Int.toNat_natCast, hexD_at ⟨v / 16, by omega⟩, hexD_at ⟨v % 16, by omega⟩]
    intro r hr w1 h1
    subst hbl
    refine app_u8 (ys := hexB s.data.toList[k]) (ho.grow h1.grow) ?_ hlc ?_ rfl (by omega) fun q' c' w2 ho2 hc2 g2 hq2 => ?_
    · have : ∀ l : List UInt8, (l.flatMap hexB).length = 2 * l.length := by
        intro l
        induction l with
        | nil => rfl
        | cons a l ih => simp [hexB, ih]; omega
      rw [this]; simp; omega
    · have := h1.sl 0 rfl
      exact this
    · refine ⟨_, _, _, rfl, h1.keep g2 ?_ hoff, s.size - (k + 1), by omega, k + 1, wr1 (by omega), by omega, rfl, ?_, by omega, hc2, hoff.next hq2 (by have := h1.chg.size; omega)⟩
      · rintro a rfl y hy
        simp at hy; subst hy
        have := ho.lt a rfl
        simp only []; omega
      · rw [take_next hkd, List.flatMap_append, List.map_append]; rw [List.map_append] at ho2; simpa using ho2
  · have e : k = s.size := by omega
    subst e
    rw [← hlen, List.take_length] at ho
    refine sv_string u_bytes u_str u_u8 ho.sl ?_ ⟨_, rfl, hF, hK _ hF.gr⟩
    have : ∀ l : List UInt8, (l.flatMap hexB).length = 2 * l.length := by
      intro l
      induction l with
      | nil => rfl
      | cons a l ih => simp [hexB, ih]; omega
    rw [this]; omega
theorem word_spec {s : ByteArray} {w : World} {K : Value → World → Prop} (hK : K (.string (if s = ⟨#[]⟩ then ⟨#[46]⟩ else s)) w) : CallV PR F.lines_word ⟨[.string s]⟩ w K :=
  lines_word s (fun _ => False) K w ⟨fun h => by rw [if_pos h] at hK; exact hK, fun h => by rw [if_neg h] at hK; exact hK⟩

/-! ## small numbers -/
def smallN (n : Int) : Bool := !(decide (n < -999999999) || decide (n > 999999999))
def iv (n : Int) : Value := .int .i64 n
theorem IndexFunc_spec {q : Option Addr} {l c : Nat} {ns : List Int} {w : World} {K : Value → World → Prop} (hs : Sl w q (ns.map iv)) (hl : l = ns.length) (hb : l ≤ 1000000)
    (h1 : ns.all smallN = true → ∀ w', Grow w w' → K (.int .i64 (-1)) w') (h2 : ns.all smallN = false → ∀ w' (n : Int), 0 ≤ n → Grow w w' → K (.int .i64 n) w') : CallV PR F.slices_IndexFunc_sl_int_int ⟨[.slice q l c, .func (.func F.lines_small_1) #[] #[]]⟩ w K := by
  refine IndexFunc_small q l c (fun _ => False) K w ⟨fun n m w' => ∃ k : Nat, n = k ∧ k ≤ ns.length ∧ m = ns.length - k ∧ (ns.take k).all smallN = true, ⟨_, 0, rfl, by omega, rfl, rfl⟩, ?_⟩
  rintro n D m w' ⟨k, rfl, hk, rfl, hd⟩ hF
  refine ⟨fun hlt => ?_, fun hge => ?_⟩
  · have hk' : k < ns.length := by omega
    refine (hs.grow hF.gr).rd (by simp [hl]) (by omega) (v := iv ns[k]) (by simp [hk']) fun a ha => ⟨ns[k], ha, ?_⟩
    have bad : smallN ns[k] = false → K (.int .i64 (k : Int)) w' := fun hn => h2 (by
      rw [List.all_eq_false]; exact ⟨ns[k], List.getElem_mem hk', by simp [hn]⟩) w' _ (by omega) hF.gr
    have good : smallN ns[k] = true → ∃ l2 : Nat, l2 < ns.length - k ∧ ∃ k1 : Nat, IntKind.wrap .i64 ((k : Int) + 1) = k1 ∧ k1 ≤ ns.length ∧ l2 = ns.length - k1 ∧ (ns.take k1).all smallN = true := fun hn =>
      ⟨ns.length - (k + 1), by omega, k + 1, wr1 (by omega), by omega, rfl, by rw [take_next hk', List.all_append, hd]; simp [hn]⟩
    refine lines_small_1 ns[k] (fun _ => False) _ w' ⟨fun h => ⟨true, rfl, fun _ => ⟨hF, bad (by unfold smallN; rw [decide_eq_true h]; rfl)⟩, (fun h => by cases h)⟩, fun h => ⟨fun h' => ⟨true, rfl, fun _ => ⟨hF, bad (by unfold smallN; rw [decide_eq_true h']; simp)⟩, (fun h => by cases h)⟩, fun h' => ⟨false, rfl, (fun h => by cases h), fun _ => ⟨hF, good (by unfold smallN; rw [decide_eq_false h, decide_eq_false h']; rfl)⟩⟩⟩⟩
  · have e : k = ns.length := by omega
    subst e
    rw [List.take_length] at hd
    exact h1 hd w' hF.gr
theorem small_spec {q : Option Addr} {l c : Nat} {ns : List Int} {w : World} {K : Value → World → Prop} (hs : Sl w q (ns.map iv)) (hl : l = ns.length) (hb : l ≤ 1000000)
    (hK : ∀ w', Grow w w' → K (.bool (ns.all smallN)) w') : CallV PR F.lines_small ⟨[.slice q l c]⟩ w K := by
  refine lines_small q l c (fun _ => False) K w ?_
  refine ContainsFunc_small q l c (fun _ => False) _ w ?_
  refine IndexFunc_spec hs hl hb (fun h w' g => ?_) (fun h w' n hn g => ?_)
  · have hK := hK w' g
    rw [h] at hK
    exact ⟨_, rfl, (Fr.init _ w).after g, fun h => absurd h (by decide), fun _ => ⟨false, rfl, (fun h => by cases h), fun _ => ⟨(Fr.init _ w).after g, hK⟩⟩⟩
  · have hK := hK w' g
    rw [h] at hK
    exact ⟨_, rfl, (Fr.init _ w).after g, fun _ => ⟨true, rfl, fun _ => ⟨(Fr.init _ w).after g, hK⟩, fun h => by cases h⟩, fun h => absurd hn h⟩
end Go.Vc
