/-
  A part of the proof of the statement ActNoneCardSaid, in Lean: Sh4, Sh5, Sha0, Mk2, MirP11, Tr1, Ed1. By an AI agent.
-/
import Derived.Test.YtjfpofjppjaofaaGreatDoorP07
import Derived.Test.YtjfpofjppjaofaaGreatDoorP05
import Derived.Test.YtjfpofjppjaofaaGreatDoorP02
import Derived.Maps.RangeRun
import Derived.Test.YtjfpofjppjaofaaGreatDoorShelfB
set_option linter.unusedSimpArgs false
set_option linter.unusedVariables false
set_option maxRecDepth 100000
/-! A part of the proof that two events of one line are one event: the calculus that follows known memory by computing, and its soundness. By an AI agent. -/



namespace Go.Vc
open Go
/-! ## digests: texts are written -/
theorem pcs_front (c : Ch) (f t : List UInt8) : ∀ i, 64 * i ≤ f.length → pcs c (f ++ t) i = pcs c f i
  | 0, _ => rfl
  | i + 1, h => by
    rw [pcs, pcs, pcs_front c f t i (by omega)]
    unfold takeC
    rw [List.drop_append_of_le_length (by omega), List.take_append_of_le_length (by rw [List.length_drop]; omega)]
theorem pcs_app (c : Ch) (f t : List UInt8) (m : Nat) (h : 64 * m ≤ f.length) : ∀ j, pcs (pcs c f m) (f.drop (64 * m) ++ t) j = pcs c (f ++ t) (m + j)
  | 0 => (pcs_front c f t m h).symm
  | j + 1 => by
    rw [pcs, pcs_app c f t m h j, ← Nat.add_assoc, pcs]
    unfold takeC
    rw [Nat.mul_add, ← List.drop_drop, List.drop_append_of_le_length h]
theorem makeU8 {n : Nat} (hn : n ≤ 281474976710656) {w : World} {K : Value → World → Prop}
    (hK : ∀ b w', b = w.heap.size → Grow w w' → Own T.uint8 1 w' (some ⟨b, 0, none⟩) n (List.replicate n (.int .u8 0)) → K (.slice (some ⟨b, 0, none⟩) n n) w') :
    rn PR (Instr.makeSlice T.sl_uint8 (.int .i64 (n : Int)) (.int .i64 (n : Int))) K w := by
  obtain ⟨i, hi, hk, hb, hz⟩ := t_u8
  exact rn_sv <| sv_makeSlice (i := i) (by_ := 1) u_bytes hi hz rfl hk hb (by omega) (by omega) (by omega) fun b w' e _ g ho => hK b w' e g (by rw [Int.toNat_natCast] at ho; exact ho)
theorem KAt.keep {S : Nat → Prop} {w w' : World} {b : Nat} (h : KAt w b) (g : Chg S w w') (hn : ¬ S b) : KAt w' b := by obtain ⟨T, h⟩ := h; exact ⟨T, g.get h hn⟩
theorem KAt.lt {w : World} {b : Nat} (h : KAt w b) : b < w.heap.size := by obtain ⟨T, h⟩ := h; exact heap_lt h
def stC0 (c : Ch) (kb : Nat) (q : Option Addr) (l cc : Nat) (many : Int) : Array Value :=
  #[.int .u32 c.a, .int .u32 c.b, .int .u32 c.c, .int .u32 c.d, .int .u32 c.e, .int .u32 c.f, .int .u32 c.g, .int .u32 c.h, .pointer (some ⟨kb, 0, none⟩), .slice q l cc, .int .i64 many]
theorem SWrite_spec {k0 kb n cy : Nat} {c0 : Ch} {y : Option Addr} {xs : List (List UInt8)} {w : World} (hb : w.heap[k0]? = some (.cells (stC0 c0 kb none 0 0 0) T.sha_State (0, 0))) (hk : KAt w kb) (hkk : kb ≠ k0) (hs : Sl w y (xs.map sv8')) (hyk : xs = [] ∨ Off (· = k0) y) (hl : n = xs.length) (hn : n ≤ 1000000) (hbig : xs.flatten.length ≤ 1099511627776) {K : Value → World → Prop}
    (hK : ∀ w' q c', Chg (· = k0) w w' → w'.heap[k0]? = some (.cells (stC0 (pcs c0 xs.flatten (xs.flatten.length / 64)) kb q (xs.flatten.length - 64 * (xs.flatten.length / 64)) c' xs.flatten.length) T.sha_State (0, 0)) → Sl w' q ((xs.flatten.drop (64 * (xs.flatten.length / 64))).map bv) → K (.tuple #[]) w') :
    CallV PR F.p_sha_State_Write ⟨[.pointer (some ⟨k0, 0, none⟩), .slice y n cy]⟩ w K := by
  subst hl
  have hk0 := heap_lt hb
  refine sha_State_Write k0 c0.a c0.b c0.c c0.d c0.e c0.f c0.g c0.h (some ⟨kb, 0, none⟩) none 0 0 0 y xs.length cy (· = k0) K w ((Fr.init _ w).entry hb (fun x h => by cases h) fun _ => rfl) ⟨rfl, trivial⟩ ?_
  refine ⟨fun n0 a b c' d e f g h q0 q1 l1 l2 n9 m w' => ∃ i : Nat, n0 = i ∧ i ≤ xs.length ∧ m = xs.length - i ∧ (⟨a, b, c', d, e, f, g, h⟩ : Ch) = pcs c0 (xs.take i).flatten ((xs.take i).flatten.length / 64) ∧ q0 = some ⟨kb, 0, none⟩ ∧ Own T.uint8 1 w' q1 l2 (((xs.take i).flatten.drop (64 * ((xs.take i).flatten.length / 64))).map bv) ∧ l1 = (xs.take i).flatten.length - 64 * ((xs.take i).flatten.length / 64) ∧ l1 ≤ l2 ∧ n9 = (xs.take i).flatten.length ∧ Off (fun j => j < w.heap.size) q1, ⟨_, 0, rfl, by omega, rfl, (by rw [List.take_zero]; rfl), rfl, (by rw [List.take_zero, List.flatten_nil, List.drop_nil, List.map_nil]; exact .nil _ _ _), (by simp), Nat.le_refl _, (by simp), fun a h => by cases h⟩, ?_⟩
  rintro n0 a b c' d e f g h q0 q1 l1 l2 n9 D m w0 ⟨i, rfl, hi, rfl, hst, rfl, ho, rfl, hlc, rfl, of1⟩ hF0
  refine ⟨fun hlt => ?_, fun hge => ?_⟩
  · have hi' : i < xs.length := by omega
    have hs0 := hs.keep hF0.chg (hyk.elim (fun h => by subst h; simp at hi') id)
    refine hs0.rd (v := sv8' xs[i]) (by simp) (by omega) (by simp [hi']) fun z hz => ⟨_, hz, ?_⟩
    have hfl := flat_next hi'
    have hle := flat_take_le xs (i + 1)
    rw [hfl, List.length_append] at hle
    generalize hFi : (xs.take i).flatten = Fi at *
    have hmany : IntKind.wrap .i64 ((Fi.length : Int) + ((ByteArray.size (str xs[i]) : Nat) : Int)) = (((xs.take (i + 1)).flatten.length : Nat) : Int) := by
      rw [str_size, hfl, List.length_append, w64 (by omega) (by omega)]; omega
    have hm64 : 64 * (Fi.length / 64) ≤ Fi.length := by omega
    generalize hB : Fi.drop (64 * (Fi.length / 64)) ++ xs[i] = B
    have hBl : B.length = Fi.length - 64 * (Fi.length / 64) + xs[i].length := by rw [← hB, List.length_append, List.length_drop]
    have hdiv : (Fi.length + xs[i].length) / 64 = Fi.length / 64 + B.length / 64 := by omega
    have hst' : pcs (pcs c0 Fi (Fi.length / 64)) B (B.length / 64) = pcs c0 (xs.take (i + 1)).flatten ((xs.take (i + 1)).flatten.length / 64) := by
      rw [hfl, List.length_append, hdiv, ← hB, pcs_app c0 Fi xs[i] _ hm64]
    have hdr : B.drop (64 * (B.length / 64)) = (xs.take (i + 1)).flatten.drop (64 * ((xs.take (i + 1)).flatten.length / 64)) := by
      rw [hfl, List.length_append, hdiv, Nat.mul_add, ← List.drop_drop, List.drop_append_of_le_length hm64, hB]
    have hdr2 : (B.drop (64 * (B.length / 64))).length = (xs.take (i + 1)).flatten.length - 64 * ((xs.take (i + 1)).flatten.length / 64) := by
      rw [hdr, List.length_drop]
    have hl2 : Fi.length - 64 * (Fi.length / 64) + ByteArray.size (str xs[i]) = B.length := by rw [str_size, hBl]
    rw [hmany]
    have hmany : (((xs.take (i + 1)).flatten.length : Nat) : Int) = (((xs.take (i + 1)).flatten.length : Nat) : Int) := rfl
    have hoff : ∀ {q : Option Addr}, Off (fun j => j < w.heap.size) q → Off (· = k0) q := fun h a ha e => by have := h.le a ha; have e' : a.block = k0 := e; omega
    have hMn : ∀ {l8 : Nat} {N : Nat} {q3 : Option Addr} {wa wb : World} {M : List Nat} {zs : List Value}, Sl wa q3 zs → (∀ z, q3 = some z → z.block < N) → N ≤ l8 → Off (· = k0) q3 → Chg (· ∈ M) wa wb → (∀ k, k ∈ M → k = k0 ∨ k = l8) → Sl wb q3 zs := fun {l8 N q3 wa wb M zs} hsl hq hN ho g hM => hsl.keep g fun z hz e => by
      rcases hM _ e with e | e
      · exact ho z hz e
      · have := hq z hz; omega
    refine ⟨fun w1 hF1 => ?_, fun l24 hl24 w1 hF1 => ?_⟩
    · have g1 : Chg (· = k0) w0 w1 := hF1.stp.mono fun j _ hj => by simpa using hj
      have s1 := g1.size
      refine app_text (ho.keep g1 (hoff of1)) (by rw [List.length_drop]) hlc (by rw [str_size]; omega) fun q2 c2 w2 ho2 hc2 g2 hq2 => ?_
      rw [str_data, hB] at ho2
      rw [hl2] at hc2
      have hF2 := hF1.app2 g2 w.heap.size w0.heap.size of1 (fun a ha => ho.lt a ha) (fun x hx => by simp at hx; subst hx; exact .inl hk0) (Nat.le_refl _)
      have of2 : Off (fun j => j < w.heap.size) q2 := of1.next hq2 (by have := hF1.chg.size; omega)
      have hoq : ∀ a, q2 = some a → a.block < w2.heap.size := fun a ha => ho2.lt a ha
      rw [hl2]
      refine ⟨_, _, _, rfl, hF2, ?_, fun l15 hl15 w12 hF12 => ?_⟩
      · refine all_spec (c := ⟨a, b, c', d, e, f, g, h⟩) (hk.keep hF2.chg hkk) ho2.sl rfl hc2 (by omega) fun w3 q3 n3 c3 g3 hs3 hn3 hq3 => ?_
        rw [hst]
        have hqo : Off (· = k0) q3 := fun z hz ez => by obtain ⟨a0, e1, e2⟩ := hq3 z hz; have := of2.le a0 e1; have e3 : z.block = k0 := ez; omega
        have hql : ∀ z, q3 = some z → z.block < w2.heap.size := fun z hz => by obtain ⟨a0, e1, e2⟩ := hq3 z hz; have := ho2.lt a0 e1; omega
        have hF3 := hF2.after g3
        have lq : n3 = (B.drop (64 * (B.length / 64))).length := by rw [List.length_drop]; exact hn3
        rw [hst'] 
        refine ⟨_, _, _, _, _, _, _, _, _, _, _, rfl, hF3, fun l8 hl8 => ⟨fun w4 hF4 => ?_, fun w4 hF4 => ?_⟩⟩
        · have hsl := hMn (l8 := l8) hs3 hql (by have := g3.size; omega) hqo hF4.stp (fun k hk => by simp at hk; omega)
          refine makeU8 (by omega) fun b5 w5 hb5 g5 ho5 => ?_
          have hF5 := hF4.after g5
          refine ⟨_, _, _, rfl, hF5, fun w6 hF6 => ?_⟩
          have g6 : Chg (· = k0) w5 w6 := hF6.stp.mono fun i _ hi => by simpa using hi
          have b5k : b5 ≠ k0 := by have := hF4.chg.size; omega
          refine copy_u8 (ho5.keep g6 (fun a ha e => by cases ha; exact b5k e)) (by simp) (((hsl.grow g5).keep g6 hqo)) (by rw [List.length_map]; exact lq.symm) (fun y hy => by obtain ⟨z, _, rfl⟩ := List.mem_map.1 hy; rfl) fun w7 ho7 g7 => ?_
          have hF7 := hF6.step g7 (fun x hx => by simp at hx; subst hx; exact fun e => b5k e.symm) (fun k hk e => by have e' : k = b5 := e; have := hF4.chg.size; omega)
          exact ⟨_, rfl, hF7, xs.length - (i + 1), by omega, i + 1, by rw [w64 (by omega) (by omega)]; rfl, by omega, rfl, rfl, rfl, by rw [← hdr]; exact ho7, by rw [lq, hdr2], Nat.le_refl _, hmany, fun a ha hlt => by cases ha; have := hF4.chg.size; simp only [] at hlt; omega⟩
        · have hsl := hMn (l8 := l8) hs3 hql (by have := g3.size; omega) hqo hF4.stp (fun k hk => by simp at hk; omega)
          refine makeU8 (by omega) fun b5 w5 hb5 g5 ho5 => ?_
          have hF5 := hF4.after g5
          refine ⟨_, _, _, rfl, hF5, fun w6 hF6 => ?_⟩
          have g6 : Chg (· = k0) w5 w6 := hF6.stp.mono fun i _ hi => by simpa using hi
          have b5k : b5 ≠ k0 := by have := hF4.chg.size; omega
          refine copy_u8 (ho5.keep g6 (fun a ha e => by cases ha; exact b5k e)) (by simp) (((hsl.grow g5).keep g6 hqo)) (by rw [List.length_map]; exact lq.symm) (fun y hy => by obtain ⟨z, _, rfl⟩ := List.mem_map.1 hy; rfl) fun w7 ho7 g7 => ?_
          have hF7 := hF6.step g7 (fun x hx => by simp at hx; subst hx; exact fun e => b5k e.symm) (fun k hk e => by have e' : k = b5 := e; have := hF4.chg.size; omega)
          exact ⟨_, rfl, hF7, xs.length - (i + 1), by omega, i + 1, by rw [w64 (by omega) (by omega)]; rfl, by omega, rfl, rfl, rfl, by rw [← hdr]; exact ho7, by rw [lq, hdr2], Nat.le_refl _, hmany, fun a ha hlt => by cases ha; have := hF4.chg.size; simp only [] at hlt; omega⟩
      · have g12 : Grow w2 w12 := hF12.grow
        have ho2 := ho2.grow g12
        have hF2 := hF12.reset
        refine all_spec (c := ⟨a, b, c', d, e, f, g, h⟩) (hk.keep hF2.chg hkk) ho2.sl rfl hc2 (by omega) fun w3 q3 n3 c3 g3 hs3 hn3 hq3 => ?_
        rw [hst]
        have hqo : Off (· = k0) q3 := fun z hz ez => by obtain ⟨a0, e1, e2⟩ := hq3 z hz; have := of2.le a0 e1; have e3 : z.block = k0 := ez; omega
        have hql : ∀ z, q3 = some z → z.block < w12.heap.size := fun z hz => by obtain ⟨a0, e1, e2⟩ := hq3 z hz; have := ho2.lt a0 e1; omega
        have hF3 := hF2.after g3
        have lq : n3 = (B.drop (64 * (B.length / 64))).length := by rw [List.length_drop]; exact hn3
        have hql2 : ∀ z, q3 = some z → z.block < w2.heap.size := fun z hz => by obtain ⟨a0, e1, e2⟩ := hq3 z hz; have := hoq a0 e1; omega
        rw [hst'] 
        refine ⟨_, _, _, _, _, _, _, _, _, _, _, rfl, hF3, fun w4 hF4 => ?_, fun w4 hF4 => ?_⟩
        · have hsl := hMn (l8 := l15) hs3 hql2 hl15 hqo hF4.stp (fun k hk => by simp at hk; omega)
          refine makeU8 (by omega) fun b5 w5 hb5 g5 ho5 => ?_
          have hF5 := hF4.after g5
          refine ⟨_, _, _, rfl, hF5, fun w6 hF6 => ?_⟩
          have g6 : Chg (· = k0) w5 w6 := hF6.stp.mono fun i _ hi => by simpa using hi
          have b5k : b5 ≠ k0 := by have := hF4.chg.size; omega
          refine copy_u8 (ho5.keep g6 (fun a ha e => by cases ha; exact b5k e)) (by simp) (((hsl.grow g5).keep g6 hqo)) (by rw [List.length_map]; exact lq.symm) (fun y hy => by obtain ⟨z, _, rfl⟩ := List.mem_map.1 hy; rfl) fun w7 ho7 g7 => ?_
          have hF7 := hF6.step g7 (fun x hx => by simp at hx; subst hx; exact fun e => b5k e.symm) (fun k hk e => by have e' : k = b5 := e; have := hF4.chg.size; omega)
          exact ⟨_, rfl, hF7, xs.length - (i + 1), by omega, i + 1, by rw [w64 (by omega) (by omega)]; rfl, by omega, rfl, rfl, rfl, by rw [← hdr]; exact ho7, by rw [lq, hdr2], Nat.le_refl _, hmany, fun a ha hlt => by cases ha; have := hF4.chg.size; simp only [] at hlt; omega⟩
        · have hsl := hMn (l8 := l15) hs3 hql2 hl15 hqo hF4.stp (fun k hk => by simp at hk; omega)
          refine makeU8 (by omega) fun b5 w5 hb5 g5 ho5 => ?_
          have hF5 := hF4.after g5
          refine ⟨_, _, _, rfl, hF5, fun w6 hF6 => ?_⟩
          have g6 : Chg (· = k0) w5 w6 := hF6.stp.mono fun i _ hi => by simpa using hi
          have b5k : b5 ≠ k0 := by have := hF4.chg.size; omega
          refine copy_u8 (ho5.keep g6 (fun a ha e => by cases ha; exact b5k e)) (by simp) (((hsl.grow g5).keep g6 hqo)) (by rw [List.length_map]; exact lq.symm) (fun y hy => by obtain ⟨z, _, rfl⟩ := List.mem_map.1 hy; rfl) fun w7 ho7 g7 => ?_
          have hF7 := hF6.step g7 (fun x hx => by simp at hx; subst hx; exact fun e => b5k e.symm) (fun k hk e => by have e' : k = b5 := e; have := hF4.chg.size; omega)
          exact ⟨_, rfl, hF7, xs.length - (i + 1), by omega, i + 1, by rw [w64 (by omega) (by omega)]; rfl, by omega, rfl, rfl, rfl, by rw [← hdr]; exact ho7, by rw [lq, hdr2], Nat.le_refl _, hmany, fun a ha hlt => by cases ha; have := hF4.chg.size; simp only [] at hlt; omega⟩
    · have g1 : Chg (· = k0) w0 w1 := hF1.stp.mono fun j _ hj => by simpa using hj
      have s1 := g1.size
      refine app_text (ho.keep g1 (hoff of1)) (by rw [List.length_drop]) hlc (by rw [str_size]; omega) fun q2 c2 w2 ho2 hc2 g2 hq2 => ?_
      rw [str_data, hB] at ho2
      rw [hl2] at hc2
      have hF2 := hF1.app2 g2 w.heap.size w0.heap.size of1 (fun a ha => ho.lt a ha) (fun x hx => by simp at hx; rcases hx with rfl | rfl; exact .inl hk0; exact .inr hl24) (Nat.le_refl _)
      have of2 : Off (fun j => j < w.heap.size) q2 := of1.next hq2 (by have := hF1.chg.size; omega)
      have hoq : ∀ a, q2 = some a → a.block < w2.heap.size := fun a ha => ho2.lt a ha
      rw [hl2]
      refine ⟨_, _, _, rfl, hF2, ?_⟩
      have hl24w : l24 < w1.heap.size := heap_lt (hF1.blk 1 rfl)
      have hq24 : ∀ a, q2 = some a → a.block ≠ l24 := fun a ha e => by
        rcases hq2 a ha with h | h
        · have := ho.lt a h; omega
        · subst h; simp only [] at e; omega
      refine all_spec (c := ⟨a, b, c', d, e, f, g, h⟩) (hk.keep hF2.chg hkk) ho2.sl rfl hc2 (by omega) fun w3 q3 n3 c3 g3 hs3 hn3 hq3 => ?_
      rw [hst]
      have hqo : Off (· = k0) q3 := fun z hz ez => by obtain ⟨a0, e1, e2⟩ := hq3 z hz; have := of2.le a0 e1; have e3 : z.block = k0 := ez; omega
      have hql : ∀ z, q3 = some z → z.block < w2.heap.size := fun z hz => by obtain ⟨a0, e1, e2⟩ := hq3 z hz; have := ho2.lt a0 e1; omega
      have hF3 := hF2.after g3
      have hne : ∀ z, q3 = some z → z.block ≠ l24 := fun z hz e => by obtain ⟨a0, e1, e2⟩ := hq3 z hz; exact hq24 a0 e1 (by omega)
      have lq : n3 = (B.drop (64 * (B.length / 64))).length := by rw [List.length_drop]; exact hn3
      rw [hst'] 
      refine ⟨_, _, _, _, _, _, _, _, _, _, _, rfl, hF3, fun w4 hF4 => ?_, fun w4 hF4 => ?_⟩
      · have hsl := hs3.keep hF4.stp (fun z hz e => by simp at e; have h1 := hqo z hz; have h2 := hne z hz; omega)
        refine makeU8 (by omega) fun b5 w5 hb5 g5 ho5 => ?_
        have hF5 := hF4.after g5
        refine ⟨_, _, _, rfl, hF5, fun w6 hF6 => ?_⟩
        have g6 : Chg (· = k0) w5 w6 := hF6.stp.mono fun i _ hi => by simpa using hi
        have b5k : b5 ≠ k0 := by have := hF4.chg.size; omega
        refine copy_u8 (ho5.keep g6 (fun a ha e => by cases ha; exact b5k e)) (by simp) (((hsl.grow g5).keep g6 hqo)) (by rw [List.length_map]; exact lq.symm) (fun y hy => by obtain ⟨z, _, rfl⟩ := List.mem_map.1 hy; rfl) fun w7 ho7 g7 => ?_
        have hF7 := hF6.step g7 (fun x hx => by simp at hx; subst hx; exact fun e => b5k e.symm) (fun k hk e => by have e' : k = b5 := e; have := hF4.chg.size; omega)
        exact ⟨_, rfl, hF7, xs.length - (i + 1), by omega, i + 1, by rw [w64 (by omega) (by omega)]; rfl, by omega, rfl, rfl, rfl, by rw [← hdr]; exact ho7, by rw [lq, hdr2], Nat.le_refl _, hmany, fun a ha hlt => by cases ha; have := hF4.chg.size; simp only [] at hlt; omega⟩
      · have hsl := hs3.keep hF4.stp (fun z hz e => by simp at e; have h1 := hqo z hz; have h2 := hne z hz; omega)
        refine makeU8 (by omega) fun b5 w5 hb5 g5 ho5 => ?_
        have hF5 := hF4.after g5
        refine ⟨_, _, _, rfl, hF5, fun w6 hF6 => ?_⟩
        have g6 : Chg (· = k0) w5 w6 := hF6.stp.mono fun i _ hi => by simpa using hi
        have b5k : b5 ≠ k0 := by have := hF4.chg.size; omega
        refine copy_u8 (ho5.keep g6 (fun a ha e => by cases ha; exact b5k e)) (by simp) (((hsl.grow g5).keep g6 hqo)) (by rw [List.length_map]; exact lq.symm) (fun y hy => by obtain ⟨z, _, rfl⟩ := List.mem_map.1 hy; rfl) fun w7 ho7 g7 => ?_
        have hF7 := hF6.step g7 (fun x hx => by simp at hx; subst hx; exact fun e => b5k e.symm) (fun k hk e => by have e' : k = b5 := e; have := hF4.chg.size; omega)
        exact ⟨_, rfl, hF7, xs.length - (i + 1), by omega, i + 1, by rw [w64 (by omega) (by omega)]; rfl, by omega, rfl, rfl, rfl, by rw [← hdr]; exact ho7, by rw [lq, hdr2], Nat.le_refl _, hmany, fun a ha hlt => by cases ha; have := hF4.chg.size; simp only [] at hlt; omega⟩
  · have : i = xs.length := by omega
    subst this
    rw [List.take_length] at hst ho hF0
    have hb0 := hF0.blk 0 rfl
    have hk := hK w0 q1 l2 hF0.chg
    rw [← hst] at hk
    exact hk hb0 ho.sl
end Go.Vc

/-! A part of the proof that two events of one line are one event: the calculus that follows known memory by computing, and its soundness. By an AI agent. -/

namespace Go.Vc
open Go
/-! ## digests: the sum -/
def u8f (x : Int) : UInt8 := UInt8.ofNat (IntKind.wrap .u8 x).toNat
def wb (x : Int) : List UInt8 := [u8f (Int.fdiv x 16777216), u8f (Int.fdiv x 65536), u8f (Int.fdiv x 256), u8f x]
theorem wb_map (x : Int) : (wb x).map bv = [.int .u8 (IntKind.wrap .u8 (Int.fdiv x 16777216)), .int .u8 (IntKind.wrap .u8 (Int.fdiv x 65536)), .int .u8 (IntKind.wrap .u8 (Int.fdiv x 256)), .int .u8 (IntKind.wrap .u8 x)] := by
  rw [bv_wrap, bv_wrap, bv_wrap, bv_wrap]; rfl
def dgN (L : List Int) : Nat → List UInt8
  | 0 => []
  | i + 1 => dgN L i ++ wb (L.getD i 0)
theorem dgN_len (L : List Int) : ∀ i, (dgN L i).length = 4 * i
  | 0 => rfl
  | i + 1 => by rw [dgN, List.length_append, dgN_len L i]; simp [wb]; omega
theorem endL_len (rest : List UInt8) (many : Int) : (endL rest many).length = rest.length + 1 + padN (rest.length + 1) + 8 := by
  simp [endL, ebs_len]; omega
theorem Chg.same {w w' : World} {b : Nat} {o : Obj} (g : Chg (· = b) w w') (h : w.heap[b]? = some o) (h' : w'.heap[b]? = some o) : Grow w w' :=
  ⟨g.os, g.tape, g.output, g.drawn, g.size, fun k hk _ => by
    by_cases e : k = b
    · subst e; rw [h, h']
    · exact g.block k hk e⟩
theorem SSum_spec {k0 kb l cc : Nat} {c : Ch} {q : Option Addr} {rest : List UInt8} {many : Int} {w : World} (hb : w.heap[k0]? = some (.cells (stC0 c kb q l cc many) T.sha_State (0, 0))) (hk : KAt w kb) (hs : Sl w q (rest.map bv)) (hl : l = rest.length) (hn : l ≤ 100000) {K : Value → World → Prop}
    (hK : ∀ w', Grow w w' → K (.string (str (dgN (pcs c (endL rest many) ((endL rest many).length / 64)).ls 8))) w') : CallV PR F.p_sha_State_Sum ⟨[.pointer (some ⟨k0, 0, none⟩)]⟩ w K := by
  have hk0 := heap_lt hb
  have hel := endL_len rest many
  have hpad : padN (rest.length + 1) < 64 := Nat.mod_lt _ (by decide)
  have h0 : Fs (· = k0) w [⟨k0, stC0 c kb q l cc many, T.sha_State, true⟩] w := (Fr.init _ w).entry hb (fun x h => by cases h) fun _ => rfl
  refine sha_State_Sum k0 c.a c.b c.c c.d c.e c.f c.g c.h (some ⟨kb, 0, none⟩) q l cc many (· = k0) K w h0 ⟨rfl, trivial⟩ ⟨fun w0 hF0 => ?_, fun b24 hb24 w0 hF0 => ?_⟩
  · have g0 : Grow w w0 := hF0.grow
    refine end_spec (many := many) (hs.grow g0) hl (by omega) fun w1 q1 c1 g1 hs1 hc1 => ?_
    have hF1 := hF0.reset.after g1
    refine ⟨_, _, _, rfl, hF1, ?_, fun b13 hb13 w8 hF8 => ?_⟩
    · refine all_spec (c := c) (hk.grow (g0.trans g1)) (hs1) rfl hc1 (by omega) fun w9 q9 n9 c9 g9 hs9 hn9 hq9 => ?_
      have hF9 := hF1.after g9
      generalize pcs c (endL rest many) ((endL rest many).length / 64) = C at hK ⊢
      refine ⟨_, _, _, _, _, _, _, _, _, _, _, rfl, hF9, fun b4 hb4 w3 hF3 => ?_⟩
      refine ⟨fun q l cc n m w' => ∃ i : Nat, n = i ∧ i ≤ 8 ∧ m = 8 - i ∧ Own T.uint8 1 w' q cc ((dgN C.ls i).map bv) ∧ l = (dgN C.ls i).length ∧ l ≤ cc ∧ Off (fun j => j < w.heap.size) q, ⟨_, 0, rfl, by omega, rfl, .nil _ _ _, rfl, Nat.le_refl _, fun a h => by cases h⟩, ?_⟩
      rintro q2 l2 c2 n D m w4 ⟨i, rfl, hi, rfl, ho, rfl, hlc, of4⟩ hF4
      refine ⟨fun hlt => ?_, fun hge => ?_⟩
      · have hi' : i < 8 := by omega
        refine ⟨by omega, by omega, C.ls.getD i 0, ?_, fun b5 hb5 w5 hF5 => ?_⟩
        · rw [show Int.toNat (i : Int) * 1 = i by omega]; exact u32s_get (L := C.ls) (by show i < 8; omega)
        · have hsl : Sl w5 (some ⟨b5, 0, none⟩) ((wb (C.ls.getD i 0)).map bv) := by rw [wb_map]; exact hF5.sl 1 rfl
          have hdl := dgN_len C.ls i
          refine app_u8 (ys := wb (C.ls.getD i 0)) (ho.grow hF5.grow) (by simp) hlc hsl rfl (by rw [hdl]; omega) fun q5 c5 w6 ho6 hc6 g6 hq6 => ?_
          have hF6 := hF5.app2 g6 w.heap.size w4.heap.size of4 (fun a ha => ho.lt a ha) (fun x hx => by simp at hx; rcases hx with rfl | rfl; exact .inl hk0; exact .inr hb5) (Nat.le_refl _)
          exact ⟨_, _, _, rfl, hF6, 8 - (i + 1), by omega, i + 1, by rw [w64 (by omega) (by omega)]; rfl, by omega, rfl, ho6, by rw [dgN, List.length_append]; rfl, hc6, of4.next hq6 (by have := hF5.chg.size; omega)⟩
      · have : i = 8 := by omega
        subst this
        refine rn_sv <| sv_string u_bytes u_str u_u8 ho.sl rfl ?_
        exact ⟨_, rfl, hF4, hK w4 (hF4.chg.same hb (hF4.blk 0 rfl))⟩
    · have g8 : Grow w1 w8 := hF8.grow
      refine all_spec (c := c) (hk.grow ((g0.trans g1).trans g8)) (hs1.grow g8) rfl hc1 (by omega) fun w9 q9 n9 c9 g9 hs9 hn9 hq9 => ?_
      have hF9 := hF8.reset.after g9
      generalize pcs c (endL rest many) ((endL rest many).length / 64) = C at hK ⊢
      refine ⟨_, _, _, _, _, _, _, _, _, _, _, rfl, hF9, fun w3 hF3 => ?_⟩
      refine ⟨fun q l cc n m w' => ∃ i : Nat, n = i ∧ i ≤ 8 ∧ m = 8 - i ∧ Own T.uint8 1 w' q cc ((dgN C.ls i).map bv) ∧ l = (dgN C.ls i).length ∧ l ≤ cc ∧ Off (fun j => j < w.heap.size) q, ⟨_, 0, rfl, by omega, rfl, .nil _ _ _, rfl, Nat.le_refl _, fun a h => by cases h⟩, ?_⟩
      rintro q2 l2 c2 n D m w4 ⟨i, rfl, hi, rfl, ho, rfl, hlc, of4⟩ hF4
      refine ⟨fun hlt => ?_, fun hge => ?_⟩
      · have hi' : i < 8 := by omega
        refine ⟨by omega, by omega, C.ls.getD i 0, ?_, fun b5 hb5 w5 hF5 => ?_⟩
        · rw [show Int.toNat (i : Int) * 1 = i by omega]; exact u32s_get (L := C.ls) (by show i < 8; omega)
        · have hsl : Sl w5 (some ⟨b5, 0, none⟩) ((wb (C.ls.getD i 0)).map bv) := by rw [wb_map]; exact hF5.sl 1 rfl
          have hdl := dgN_len C.ls i
          refine app_u8 (ys := wb (C.ls.getD i 0)) (ho.grow hF5.grow) (by simp) hlc hsl rfl (by rw [hdl]; omega) fun q5 c5 w6 ho6 hc6 g6 hq6 => ?_
          have hF6 := hF5.app2 g6 w.heap.size w4.heap.size of4 (fun a ha => ho.lt a ha) (fun x hx => by simp at hx; rcases hx with rfl | rfl; exact .inl hk0; exact .inr hb5) (Nat.le_refl _)
          exact ⟨_, _, _, rfl, hF6, 8 - (i + 1), by omega, i + 1, by rw [w64 (by omega) (by omega)]; rfl, by omega, rfl, ho6, by rw [dgN, List.length_append]; rfl, hc6, of4.next hq6 (by have := hF5.chg.size; omega)⟩
      · have : i = 8 := by omega
        subst this
        refine rn_sv <| sv_string u_bytes u_str u_u8 ho.sl rfl ?_
        exact ⟨_, rfl, hF4, hK w4 (hF4.chg.same hb (hF4.blk 0 rfl))⟩
  · have g0 : Grow w w0 := hF0.grow
    refine end_spec (many := many) (hs.grow g0) hl (by omega) fun w1 q1 c1 g1 hs1 hc1 => ?_
    have hF1 := hF0.reset.after g1
    refine ⟨_, _, _, rfl, hF1, ?_⟩
    refine all_spec (c := c) (hk.grow (g0.trans g1)) (hs1) rfl hc1 (by omega) fun w9 q9 n9 c9 g9 hs9 hn9 hq9 => ?_
    have hF9 := hF1.after g9
    generalize pcs c (endL rest many) ((endL rest many).length / 64) = C at hK ⊢
    refine ⟨_, _, _, _, _, _, _, _, _, _, _, rfl, hF9, fun w3 hF3 => ?_⟩
    refine ⟨fun q l cc n m w' => ∃ i : Nat, n = i ∧ i ≤ 8 ∧ m = 8 - i ∧ Own T.uint8 1 w' q cc ((dgN C.ls i).map bv) ∧ l = (dgN C.ls i).length ∧ l ≤ cc ∧ Off (fun j => j < w.heap.size) q, ⟨_, 0, rfl, by omega, rfl, .nil _ _ _, rfl, Nat.le_refl _, fun a h => by cases h⟩, ?_⟩
    rintro q2 l2 c2 n D m w4 ⟨i, rfl, hi, rfl, ho, rfl, hlc, of4⟩ hF4
    refine ⟨fun hlt => ?_, fun hge => ?_⟩
    · have hi' : i < 8 := by omega
      refine ⟨by omega, by omega, C.ls.getD i 0, ?_, fun b5 hb5 w5 hF5 => ?_⟩
      · rw [show Int.toNat (i : Int) * 1 = i by omega]; exact u32s_get (L := C.ls) (by show i < 8; omega)
      · have hsl : Sl w5 (some ⟨b5, 0, none⟩) ((wb (C.ls.getD i 0)).map bv) := by rw [wb_map]; exact hF5.sl 1 rfl
        have hdl := dgN_len C.ls i
        refine app_u8 (ys := wb (C.ls.getD i 0)) (ho.grow hF5.grow) (by simp) hlc hsl rfl (by rw [hdl]; omega) fun q5 c5 w6 ho6 hc6 g6 hq6 => ?_
        have hF6 := hF5.app2 g6 w.heap.size w4.heap.size of4 (fun a ha => ho.lt a ha) (fun x hx => by simp at hx; rcases hx with rfl | rfl; exact .inl hk0; exact .inr hb5) (Nat.le_refl _)
        exact ⟨_, _, _, rfl, hF6, 8 - (i + 1), by omega, i + 1, by rw [w64 (by omega) (by omega)]; rfl, by omega, rfl, ho6, by rw [dgN, List.length_append]; rfl, hc6, of4.next hq6 (by have := hF5.chg.size; omega)⟩
    · have : i = 8 := by omega
      subst this
      refine rn_sv <| sv_string u_bytes u_str u_u8 ho.sl rfl ?_
      exact ⟨_, rfl, hF4, hK w4 (hF4.chg.same hb (hF4.blk 0 rfl))⟩
end Go.Vc

/-! A part of the proof that two events of one line are one event: the calculus that follows known memory by computing, and its soundness. By an AI agent. -/

namespace Go.Vc
open Go
def chain0 : Ch := ⟨1779033703, 3144134277, 1013904242, 2773480762, 1359893119, 2600822924, 528734635, 1541459225⟩
/-- the digest of bytes -/
def shaL (f : List UInt8) : List UInt8 :=
  dgN (pcs (pcs chain0 f (f.length / 64)) (endL (f.drop (64 * (f.length / 64))) f.length) ((endL (f.drop (64 * (f.length / 64))) f.length).length / 64)).ls 8
theorem new_spec {w : World} {K : Value → World → Prop} (hK : ∀ w' b kb, Grow w w' → w.heap.size ≤ b → w'.heap[b]? = some (.cells (stC0 chain0 kb none 0 0 0) T.sha_State (0, 0)) → KAt w' kb → kb ≠ b → K (.pointer (some ⟨b, 0, none⟩)) w') : CallV PR F.sha_New ⟨[]⟩ w K := by
  refine sha_New' S0 K w (k_spec fun w1 kb g1 hkb hk => ⟨_, rfl, (Fr.init _ w).after g1, fun b hb w2 hF2 => ?_⟩)
  have hkl := hk.lt
  exact hK w2 b kb hF2.gr (by have := g1.size; omega) (hF2.blk 0 rfl) (hk.grow hF2.grow) (by omega)
theorem sha_fun : ∃ H : List UInt8 → List UInt8, (∀ l, (H l).length = 32) ∧ ∀ (xs : List (List UInt8)) (q : Option Addr) (n c : Nat) (w : World) (K : Value → World → Prop), Sl w q (xs.map sv8') → n = xs.length → n ≤ 1000 → xs.flatten.length ≤ 1099511627776 →
    (∀ w', Grow w w' → K (.string (str (H xs.flatten))) w') → CallV PR F.sha_Sum ⟨[.slice q n c]⟩ w K := by
  refine ⟨shaL, fun l => dgN_len _ 8, fun xs q n c w K hs hl hn hb hK => ?_⟩
  refine sha_Sum' q n c S0 K w (new_spec fun w1 b kb g1 hbw hbb hk hkb => ⟨_, rfl, (Fr.init _ w).after g1, ?_⟩)
  have hoff : xs = [] ∨ Off (· = b) q := by
    rcases hs with h | ⟨b', o, rfl, hr⟩
    · exact .inl (by simpa using h)
    · refine .inr fun a ha e => ?_
      cases ha
      have := hr.lt
      have e' : b' = b := e
      omega
  refine SWrite_spec hbb hk hkb (hs.grow g1) hoff hl (by omega) hb fun w2 q2 c2 g2 hb2 hs2 => ?_
  have hF2 : Fs S0 w [] w2 := ((Fr.init _ w).after g1).step g2 (fun x hx => by cases hx) fun k hk e => by have e' : k = b := e; omega
  refine ⟨rfl, hF2, ?_⟩
  refine SSum_spec hb2 (hk.keep g2 hkb) hs2 (by rw [List.length_drop]) (by omega) fun w3 g3 => ⟨_, rfl, hF2.after g3, hK w3 (hF2.after g3).chg⟩
end Go.Vc

/-! A part of the proof that two events of one line are one event: the calculus that follows known memory by computing, and its soundness. By an AI agent. -/


namespace Go.Vc
open Go
/-! ## what proves blocks (merkle): contracts -/
noncomputable def Hs : List UInt8 → List UInt8 := Classical.choose sha_fun
theorem Hs_len (l : List UInt8) : (Hs l).length = 32 := (Classical.choose_spec sha_fun).1 l
theorem ShaSum_spec {xs : List (List UInt8)} {q : Option Addr} {n c : Nat} {w : World} {K : Value → World → Prop} (hs : Sl w q (xs.map sv8')) (hn : n = xs.length) (hl : n ≤ 1000) (hb : xs.flatten.length ≤ 1099511627776)
    (hK : ∀ w', Grow w w' → K (.string (str (Hs xs.flatten))) w') : CallV PR F.sha_Sum ⟨[.slice q n c]⟩ w K := (Classical.choose_spec sha_fun).2 xs q n c w K hs hn hl hb hK
noncomputable def leafL (s : List UInt8) : List UInt8 := Hs (0 :: s)
noncomputable def nodeL (a b : List UInt8) : List UInt8 := Hs (1 :: (a ++ b))
theorem Leaf_spec {s : List UInt8} (hs : s.length ≤ 1000000) {w : World} {K : Value → World → Prop} (hK : ∀ w', Grow w w' → K (.string (str (leafL s))) w') : CallV PR F.merkle_Leaf ⟨[.string (str s)]⟩ w K := by
  refine merkle_Leaf (str s) S0 K w fun b hb w0 hF0 => ?_
  have e : ([[0], s] : List (List UInt8)).flatten = 0 :: s := by simp
  refine ShaSum_spec (xs := [[0], s]) (hF0.sl 0 rfl) rfl (by omega) (by rw [e]; simp; omega) fun w1 g1 => ⟨_, rfl, hF0.after g1, ?_⟩
  rw [e]; exact hK w1 (hF0.after g1).chg
theorem Node_spec {a b : List UInt8} (ha : a.length = 32) (hb : b.length = 32) {w : World} {K : Value → World → Prop} (hK : ∀ w', Grow w w' → K (.string (str (nodeL a b))) w') : CallV PR F.merkle_Node ⟨[.string (str a), .string (str b)]⟩ w K := by
  refine merkle_Node (str a) (str b) S0 K w fun x hx w0 hF0 => ?_
  have e : ([[1], a, b] : List (List UInt8)).flatten = 1 :: (a ++ b) := by simp
  refine ShaSum_spec (xs := [[1], a, b]) (hF0.sl 0 rfl) rfl (by omega) (by rw [e]; simp; omega) fun w1 g1 => ⟨_, rfl, hF0.after g1, ?_⟩
  rw [e]; exact hK w1 (hF0.after g1).chg
theorem bitLen_log {x : Nat} (h : x ≠ 0) (h2 : x < 2 ^ 64) : Lib.bitLen x = Nat.log2 x + 1 := by
  induction x using Nat.strongRecOn with
  | _ x ih =>
    rw [Lib.bitLen_half x h h2]
    by_cases h1 : x / 2 = 0
    · have : x = 1 := by omega
      subst this
      decide
    · rw [ih (x / 2) (by omega) h1 (by omega), Nat.log2_def x, if_pos (by omega)]
      omega
theorem split_spec {n : Nat} (h2 : 2 ≤ n) (hn : n ≤ 1048576) {w : World} {K : Value → World → Prop} (hK : K (.int .i64 (halfN n)) w) : CallV PR F.merkle_split ⟨[.int .i64 (n : Int)]⟩ w K := by
  refine merkle_split n S0 K w ?_
  have e1 : IntKind.wrap .u64 (IntKind.wrap .i64 ((n : Int) - 1)) = ((n - 1 : Nat) : Int) := by
    rw [w64 (by omega) (by omega), IntKind.wrap_u64]; omega
  rw [e1]
  have hlog := Nat.log2_lt (n := n - 1) (k := 20) (by omega)
  have hl20 : Nat.log2 (n - 1) < 20 ∨ n - 1 = 1048576 - 1 + 0 ∨ True := .inr (.inr trivial)
  have hlt : Nat.log2 (n - 1) < 21 := by
    rcases Nat.lt_or_ge (Nat.log2 (n - 1)) 21 with h | h
    · exact h
    · have := Nat.log2_self_le (n := n - 1) (by omega)
      have h3 : 2 ^ 21 ≤ 2 ^ Nat.log2 (n - 1) := Nat.pow_le_pow_right (by omega) h
      omega
  refine bitsLen_spec (by omega) (by omega) ⟨_, rfl, .init _ w, ?_⟩
  rw [Int.toNat_natCast, bitLen_log (by omega) (by omega), w64 (by omega) (by omega)]
  refine ⟨by omega, ?_⟩
  have e2 : Int.toNat (((Nat.log2 (n - 1) + 1 : Nat) : Int) - 1) = Nat.log2 (n - 1) := by omega
  have e3 : ((1 : Int) * 2 ^ min (Nat.log2 (n - 1)) 64) = ((halfN n : Nat) : Int) := by
    rw [Nat.min_eq_left (by omega)]; unfold halfN; simp
  rw [e2, e3]
  have := halfN_lt h2
  rw [w64 (by omega) (by omega)]
  exact hK
/-- a tree's digests are right -/
def okTree (leaves : List (List UInt8)) (R : Value → Value → Prop) : Prop := ∀ key v, R key v → ∃ a k : Nat, key = .agg #[.int .i64 a, .int .i64 k] ∧ 1 ≤ k ∧ a + k ≤ leaves.length ∧ v = .string (str (spanL nodeL leaves k a k))
/-- a tree in block b: its leaves lie at q, its map in m -/
def TreeAt (w : World) (b : Nat) (q : Option Addr) (c m : Nat) (leaves : List (List UInt8)) (R : Value → Value → Prop) : Prop :=
  w.heap[b]? = some (.cells #[.slice q leaves.length c, .map (some m)] T.merkle_Tree (0, 0)) ∧ Sl w q (leaves.map sv8') ∧ (∃ n, MapP w T.merkle_span m n R) ∧ okTree leaves R
theorem TreeAt.grow {w w' : World} {b : Nat} {q : Option Addr} {c m : Nat} {leaves : List (List UInt8)} {R : Value → Value → Prop} (h : TreeAt w b q c m leaves R) (g : Grow w w') : TreeAt w' b q c m leaves R := by
  obtain ⟨h1, h2, ⟨n, h3⟩, h4⟩ := h
  exact ⟨Grow.get g h1, h2.grow g, ⟨n, h3.grow g⟩, h4⟩
theorem mapNe {w : World} {b m : Nat} {cs : Array Value} {T : TypeId} {fz : Nat × Nat} {k : TypeId} {n : Nat} {R : Value → Value → Prop} (hb : w.heap[b]? = some (.cells cs T fz)) (hm : MapP w k m n R) : b ≠ m := by
  rintro rfl
  obtain ⟨es, clock, h, _⟩ := hm
  rw [hb] at h; cases h
theorem slNe {w : World} {q : Option Addr} {xs : List Value} {k : TypeId} {m n : Nat} {R : Value → Value → Prop} (hs : Sl w q xs) (hm : MapP w k m n R) : xs = [] ∨ Off (· = m) q := by
  rcases hs with h | ⟨b, o, rfl, cs, T, fz, h1, h2⟩
  · exact .inl h
  · refine .inr fun a ha e => ?_
    cases ha
    exact mapNe h1 hm e
theorem fill_spec {leaves : List (List UInt8)} (hl : ∀ x ∈ leaves, x.length = 32) (hn : leaves.length ≤ 100000) : ∀ (k a : Nat), 1 ≤ k → a + k ≤ leaves.length → ∀ {w : World} {b : Nat} {q : Option Addr} {c m : Nat} {R : Value → Value → Prop}, TreeAt w b q c m leaves R → ∀ {K : Value → World → Prop},
    (∀ w' R', TreeAt w' b q c m leaves R' → (∀ x y, R x y → ∃ z, R' x z) → R' (.agg #[.int .i64 a, .int .i64 k]) (.string (str (spanL nodeL leaves k a k))) → Chg (· = m) w w' → K (.string (str (spanL nodeL leaves k a k))) w') →
    CallV PR F.p_merkle_Tree_fill ⟨[.pointer (some ⟨b, 0, none⟩), .agg #[.int .i64 a, .int .i64 k]]⟩ w K := by
  intro k
  induction k using Nat.strongRecOn with
  | _ k ih =>
    intro a hk1 hak w b q c m R hT K hK
    obtain ⟨h1, h2, ⟨n, h3⟩, h4⟩ := hT
    have hbm := mapNe h1 h3
    have hqm := slNe h2 h3
    obtain ⟨kl, hkl⟩ := key_span (a := a) (k := k) ⟨by omega, by omega⟩ ⟨by omega, by omega⟩
    -- a digest is noted
    have note : ∀ (w1 : World) (R1 : Value → Value → Prop) (d : List UInt8), d = spanL nodeL leaves k a k → TreeAt w1 b q c m leaves R1 → (∀ x y, R x y → ∃ z, R1 x z) → Chg (· = m) w w1 →
        ∀ K' : World → Prop, (∀ w', Chg (· = m) w1 w' → K (.string (str d)) w' → K' w') → rn PR (Instr.mapUpdate T.map_merkle_span_string (.map (some m)) (.agg #[.int .i64 a, .int .i64 k]) (.string (str d))) (fun _ w3 => K' w3) w1 := by
      rintro w1 R1 d rfl ⟨t1, t2, ⟨n1, t3⟩, t4⟩ hR g K' hK'
      refine update_rn keyedS u_map t3 hkl fun w' hm' g' _ => hK' w' g' (hK w' _ ⟨g'.get t1 hbm, ?_, ⟨_, hm'⟩, ?_⟩ ?_ (.inl ⟨rfl, rfl⟩) (g.trans g' fun _ _ e => e))
      · rcases hqm with h | h
        · exact .inl h
        · exact t2.keep g' h
      · rintro key v (⟨rfl, rfl⟩ | ⟨_, hr⟩)
        · exact ⟨a, k, rfl, hk1, hak, rfl⟩
        · exact t4 key v hr
      · intro x y hxy
        by_cases e : x = .agg #[.int .i64 a, .int .i64 k]
        · exact ⟨_, .inl ⟨e, rfl⟩⟩
        · obtain ⟨z, hz⟩ := hR x y hxy
          exact ⟨z, .inr ⟨e, hz⟩⟩
    have hS : ∀ {w' : World}, Chg (· = m) w w' → Chg (fun j => j = b ∨ j = m) w w' := fun g => g.mono fun _ _ e => .inr e
    refine merkle_Tree_fill b q leaves.length c (some m) a k (fun j => j = b ∨ j = m) K w ((Fr.init _ w).entry h1 (fun x h => by cases h) fun _ => .inl rfl) ⟨.inl rfl, trivial⟩ fun b0 hb0 => ⟨fun h => ?_, fun h w4 hF4 => ?_⟩
    · intro w0 hF0
      have hk : k = 1 := by omega
      subst hk
      have g0 : Grow w w0 := hF0.grow
      have ha : a < leaves.length := by omega
      refine ⟨(· = w0), rfl, ?_⟩
      refine (h2.grow g0).rd (v := sv8' leaves[a]) (by simp) (by omega) (by simp [ha]) fun x hx => ⟨_, fun w1 e => e ▸ hx, fun w2 hF2 => ⟨fun _ => True, trivial, ?_⟩⟩
      have g2 : Grow w0 w2 := hF2.grow
      have hT2 : TreeAt w2 b q c m leaves R := TreeAt.grow ⟨h1, h2, ⟨n, h3⟩, h4⟩ (g0.trans g2)
      have e1 : leaves[a] = spanL nodeL leaves 1 a 1 := by
        unfold spanL; rw [if_pos rfl]; simp [List.getD, ha]
      refine note w2 R _ e1 hT2 (fun x y h => ⟨y, h⟩) (g0.trans g2).chg _ fun w' g' hk => ⟨hF2.step g' (fun x hx => ?_) (fun _ _ e => .inr e), hk⟩
      rcases List.mem_cons.1 hx with rfl | hx
      · exact hbm
      · simp at hx; subst hx; simp only []; have := h3.lt; omega
    · have hk2 : 2 ≤ k := by omega
      have hh := halfN_lt hk2
      have hmlt := h3.lt
      have g4 : Grow w w4 := hF4.grow
      refine split_spec hk2 (by omega) ⟨_, rfl, hF4.reset, fun w6 hF6 => ⟨fun _ => True, trivial, ?_⟩⟩
      have g6 : Grow w4 w6 := hF6.grow
      have hT6 : TreeAt w6 b q c m leaves R := TreeAt.grow ⟨h1, h2, ⟨n, h3⟩, h4⟩ (g4.trans g6)
      have hfr : ∀ {w1 w2 : World}, Fs (fun j => j = b ∨ j = m) w [⟨b, #[.slice q leaves.length c, .map (some m)], T.merkle_Tree, true⟩, ⟨b0, #[.int .i64 a, .int .i64 k], T.merkle_span, true⟩] w1 → Chg (· = m) w1 w2 → Fs (fun j => j = b ∨ j = m) w [⟨b, #[.slice q leaves.length c, .map (some m)], T.merkle_Tree, true⟩, ⟨b0, #[.int .i64 a, .int .i64 k], T.merkle_span, true⟩] w2 := fun hF g => hF.step g (fun x hx => by
        rcases List.mem_cons.1 hx with rfl | hx
        · exact hbm
        · simp at hx; subst hx; simp only []; omega) (fun _ _ e => .inr e)
      refine ih (halfN k) (by omega) a hh.1 (by omega) hT6 fun w7 R7 hT7 hR7 hin7 g7 => ⟨_, rfl, _, _, _, _, hfr hF6.reset g7, trivial, ?_⟩
      have hF7 := hfr hF6.reset g7
      have ea : IntKind.wrap .i64 ((a : Int) + (halfN k : Nat)) = ((a + halfN k : Nat) : Int) := by rw [w64 (by omega) (by omega)]; omega
      have ek : IntKind.wrap .i64 ((k : Int) - (halfN k : Nat)) = ((k - halfN k : Nat) : Int) := by rw [w64 (by omega) (by omega)]; omega
      rw [ea, ek]
      refine ih (k - halfN k) (by omega) (a + halfN k) (by omega) (by omega) hT7 fun w8 R8 hT8 hR8 hin8 g8 => ⟨_, rfl, _, _, _, _, hfr hF7 g8, trivial, ?_⟩
      have hF8 := hfr hF7 g8
      refine Node_spec (spanL_len Hs_len leaves hl _ _ _ hh.1 (Nat.le_refl _) (by omega)) (spanL_len Hs_len leaves hl _ _ _ (by omega) (Nat.le_refl _) (by omega)) fun w9 g9 => ⟨_, rfl, hF8.after g9, trivial, fun w10 hF10 => ⟨fun _ => True, trivial, ?_⟩⟩
      have g10 : Grow w9 w10 := hF10.grow
      have e1 : nodeL (spanL nodeL leaves (halfN k) a (halfN k)) (spanL nodeL leaves (k - halfN k) (a + halfN k) (k - halfN k)) = spanL nodeL leaves k a k := by
        obtain ⟨f, rfl⟩ : ∃ f, k = f + 1 := ⟨k - 1, by omega⟩
        conv => rhs; unfold spanL
        rw [if_neg (by omega), spanL_fuel nodeL leaves f (halfN (f + 1)) a _ hh.1 (by omega) (Nat.le_refl _), spanL_fuel nodeL leaves f (f + 1 - halfN (f + 1)) _ _ (by omega) (by omega) (Nat.le_refl _)]
      refine note w10 R8 _ e1 ((hT8.grow g9).grow g10) (fun x y h => by obtain ⟨z, hz⟩ := hR7 x y h; exact hR8 x z hz) ?_ _ fun w' g' hk => ⟨hfr hF10.reset g', hk⟩
      exact (((((g4.trans g6).then g7).trans g8 fun _ _ e => e).grow g9).grow g10)
end Go.Vc

/-! A part of the proof that two events of one line are one event: the calculus that follows known memory by computing, and its soundness. By an AI agent. -/


namespace Go.Vc
open Go
/-! P11: conditions printed by a program of ours, checked by the kernel -/
/-- (*lading/manifest.Version).Tree -/
theorem manifest_Version_Tree (k0 : Nat) (m1 : Int) (m2 : Int) (m3 : Int) (y4 : Option Addr) (ly4 : Nat) (cy4 : Nat) (m5 : Int) (z6 : ByteArray) (y7 : Option Addr) (ly7 : Nat) (cy7 : Nat) (S : Nat → Prop) (K : Value → World → Prop) (w : World) (hF : Fs S w [⟨k0, #[.int .i64 m1, .int .i64 m2, .int .i64 m3, .slice y4 ly4 cy4, .int .i64 m5, .string z6, .slice y7 ly7 cy7], 96, false⟩] w) (h : CallV Proofs.Tryz.prog 95 (#[.slice y7 ly7 cy7]) w (fun v0 w0 => ∃ q0 : Option Addr, v0 = .pointer q0 ∧ Fs S w ([⟨k0, #[.int .i64 m1, .int .i64 m2, .int .i64 m3, .slice y4 ly4 cy4, .int .i64 m5, .string z6, .slice y7 ly7 cy7], 96, false⟩]) w0 ∧ K (.pointer q0) w0)) : CallV Go.Proofs.Tryz.prog 71 ⟨[.pointer (some ⟨k0, 0, none⟩)]⟩ w K :=
  call_of_vc3 (okf := ⟨okL, []⟩) okL_ok (args := [.c (.p 0 k0 true 0)]) (H := [⟨k0, .l [.v (.int .i64 m1), .v (.int .i64 m2), .v (.int .i64 m3), .v (.slice y4 ly4 cy4), .v (.int .i64 m5), .v (.string z6), .v (.slice y7 ly7 cy7)], 96, false⟩]) (.s .z (.s .z (.s (.r ⟨(some [0]), false, [], []⟩) .z))) Go.Proofs.Tryz.func71 rfl ⟨rfl, trivial⟩ ⟨⟨trivial, ⟨trivial, ⟨trivial, ⟨trivial, ⟨trivial, ⟨trivial, ⟨trivial, trivial⟩⟩⟩⟩⟩⟩⟩, trivial⟩ hF trivial (cast_vc (by kernel_rfl) h)


/-- (*lading/pub.Pub).trim$1 -/
theorem pub_Pub_trim_1 (m0 : Int) (p1 : Option Addr) (p2 : Option Addr) (k3 : Nat) (p4 : Option Addr) (S : Nat → Prop) (K : Value → World → Prop) (w : World) (hF : Fs S w [⟨k3, #[.pointer p4], 28, false⟩] w) (h : ∀ l0 : Nat, w.heap.size ≤ l0 → Dr p4 (fun a0 => Dr (some a0) (fun a1 => ∀ w0 : World, Fr S w w [] ([⟨k3, #[.pointer p4], 28, false⟩, ⟨l0, #[.pointer p1, .pointer p2], 129, true⟩]) w0 → Dr (some (Addr.add a1 2)) (fun a2 => ∃ n0 : Int, (World.cell? w0 a2 : Option Value) = some (.int .i64 n0) ∧ (m0 ≤ IntKind.wrap .i64 ((n0 - 3)) → Dr p4 (fun a3 => Dr (some a3) (fun a4 => Dr (some (Addr.add a4 3)) (fun a5 => ∃ n1 : Int, (World.cell? w0 a5 : Option Value) = some (.int .i64 n1) ∧ (m0 = n1 → K (.bool false) w0) ∧ (¬ (m0 = n1) → K (.bool true) w0))))) ∧ (¬ (m0 ≤ IntKind.wrap .i64 ((n0 - 3))) → K (.bool false) w0))))) : CallV Go.Proofs.Tryz.prog 104 ⟨[.int .i64 m0, .agg #[.pointer p1, .pointer p2], .pointer (some ⟨k3, 0, none⟩)]⟩ w K :=
  call_of_vc3 (okf := ⟨okL, []⟩) okL_ok (args := [.c (.v (.int .i64 m0)), .a [.v (.pointer p1), .v (.pointer p2)], .c (.p 0 k3 true 0)]) (H := [⟨k3, .l [.v (.pointer p4)], 28, false⟩]) (.s (.r ⟨(some [2]), false, [], []⟩) .z) Go.Proofs.Tryz.func104 rfl ⟨trivial, ⟨trivial, trivial, trivial⟩, rfl, trivial⟩ ⟨⟨trivial, trivial⟩, trivial⟩ hF trivial (cast_vc (by kernel_rfl) h)


/-- maps.DeleteFunc[map[int]lading/pub.shown,int,lading/pub.shown] -/
theorem maps_DeleteFunc_map_int_pub_shown_int_pub_shown (g0 : Option Nat) (k1 : Nat) (p2 : Option Addr) (S : Nat → Prop) (K : Value → World → Prop) (w : World) (hF : Fs S w [⟨k1, #[.pointer p2], 28, false⟩] w) (h : rn Proofs.Tryz.prog (Instr.range 57 (.map g0)) (fun v0 w0 => Fs S w ([⟨k1, #[.pointer p2], 28, false⟩]) w0 ∧ ∃ I0 : Nat → World → Prop, (∃ l0 : Nat, I0 l0 w0) ∧ ∀ D0 : Nat → Value, ∀ l1 : Nat, ∀ w1 : World, I0 l1 w1 → Fs S w ([⟨k1, #[.pointer p2], 28, false⟩]) w1 → rn Proofs.Tryz.prog (Instr.next v0 false 0) (fun v1 w2 => (v1 = .tuple (#[.bool false]) ∧ Fs S w ([⟨k1, #[.pointer p2], 28, false⟩]) w2 ∧ K (.tuple #[]) w2) ∨ ∃ v2 : Value, ∃ v3 : Value, v1 = .tuple (#[.bool true, v2, v3]) ∧ Fs S w ([⟨k1, #[.pointer p2], 28, false⟩]) w2 ∧ rn Proofs.Tryz.prog (Instr.entry v0) (fun v4 w3 => ∃ v5 : Value, ∃ v6 : Value, v4 = .tuple (#[v5, v6]) ∧ Fs S w ([⟨k1, #[.pointer p2], 28, false⟩]) w3 ∧ ∃ n0 : Int, (v5 : Value) = .int .i64 n0 ∧ ∃ q0 : Option Addr, ∃ q1 : Option Addr, (v6 : Value) = .agg (#[.pointer q0, .pointer q1]) ∧ ∀ l2 : Nat, w3.heap.size ≤ l2 → ∀ w4 : World, Fr S w w3 [l2] ([⟨k1, #[.pointer p2], 28, false⟩, ⟨l2, #[.pointer q0, .pointer q1], 129, true⟩]) w4 → CallV Proofs.Tryz.prog 104 (#[.int .i64 n0, .agg (#[.pointer q0, .pointer q1]), .pointer (some (⟨k1, 0, none⟩))]) w4 (fun v7 w5 => ∃ b0 : Bool, v7 = .bool b0 ∧ (b0 = true → Fs S w ([⟨k1, #[.pointer p2], 28, false⟩, ⟨l2, #[.pointer q0, .pointer q1], 129, true⟩]) w5 ∧ rn Proofs.Tryz.prog (Builtin.delete_ (#[57, 3]) 0 (#[.map g0, .int .i64 n0])) (fun v8 w6 => v8 = .tuple #[] ∧ Fs S w ([⟨k1, #[.pointer p2], 28, false⟩]) w6 ∧ ∃ l3 : Nat, l3 < l1 ∧ I0 l3 w6) w5) ∧ (b0 = false → Fs S w ([⟨k1, #[.pointer p2], 28, false⟩, ⟨l2, #[.pointer q0, .pointer q1], 129, true⟩]) w5 ∧ ∃ l4 : Nat, l4 < l1 ∧ I0 l4 w5))) w2) w1) w) : CallV Go.Proofs.Tryz.prog 103 ⟨[.map g0, .func (.func 104) #[] #[.pointer (some ⟨k1, 0, none⟩)]]⟩ w K :=
  call_of_vc3 (okf := ⟨okL, [12, 11]⟩) okL_ok (args := [.c (.v (.map g0)), .c (.v (.func (.func 104) #[] #[.pointer (some ⟨k1, 0, none⟩)]))]) (H := [⟨k1, .l [.v (.pointer p2)], 28, false⟩]) (.s (.r ⟨(some []), false, [], []⟩) (.b (.l (some []) (some []) [] [] (.s (.r ⟨(some []), false, [], []⟩) (.s .z (.b (.s (.r ⟨(some []), false, [], []⟩) (.s (.r ⟨(some [5]), false, [], []⟩) (.c (.r ⟨(some []), false, [], []⟩) .z))))))))) Go.Proofs.Tryz.func103 rfl ⟨trivial, trivial, trivial⟩ ⟨⟨trivial, trivial⟩, trivial⟩ hF trivial (cast_vc (by kernel_rfl) h)


end Go.Vc

/-! A part of the proof that two events of one line are one event: the calculus that follows known memory by computing, and its soundness. By an AI agent. -/




namespace Go.Vc
open Go Go.MapKept
open Go.ChangeMaps (setBlock)
/-! ## what isn't kept is let go -/
theorem blockChg (w : World) (r : Nat) (o : Obj) : Chg (· = r) w (setBlock w r o) := setChg w r o
theorem block_get {w : World} {r : Nat} {o o' : Obj} (h : w.heap[r]? = some o) : (setBlock w r o').heap[r]? = some o' := by
  have := heap_lt h
  show (w.heap.setIfInBounds r _)[r]? = _
  simp [this]
theorem delete_run {t k e ty : TypeId} (Ky : Maps.Keyed PR k) (ht : PR.underlying t = some (.map k e)) {w : World} {r : Nat} {es : Array MapEntry} {clock : Nat} (hb : w.heap[r]? = some (.map es clock)) (hst : Stamped es clock) (hks : ∀ x ∈ es.toList, ∃ l, keyOf PR k x.key = some l) {key : Value} {kl : Lit} (hkey : keyOf PR k key = some kl) :
    ∃ es', (Builtin.delete_ #[t, k] ty #[.map (some r), key]).run PR w = .ok (.tuple #[]) (setBlock w r (.map es' clock)) ∧ Stamped es' clock ∧ es'.size ≤ es.size ∧ es'.toList.Sublist es.toList ∧ ∀ x, x ∈ es'.toList ↔ (x ∈ es.toList ∧ x.key ≠ key) := by
  rcases Ky.find w hkey es.toList hks with ⟨h1, h2⟩ | ⟨j, e0, h1, h2, h3⟩
  · refine ⟨es, ?_, hst, Nat.le_refl _, List.Sublist.refl _, fun x => ⟨fun hx => ⟨hx, h2 x hx⟩, fun hx => hx.1⟩⟩
    simp [Builtin.delete_, run_underlying ht, MapKept.run_getObj_map hb, Ky.check w _ hkey, h1, MapKept.run_setObj_map _ hb, Result.andThen, setBlock]
  · have hjl : j < es.toList.length := (List.getElem?_eq_some_iff.1 h2).1
    have hjs : j < es.size := by simpa using hjl
    have hsub : (es.eraseIdxIfInBounds j).toList = es.toList.eraseIdx j := by
      unfold Array.eraseIdxIfInBounds
      rw [dif_pos hjs]
      simp
    refine ⟨es.eraseIdxIfInBounds j, ?_, stamped_erase hst j, MapFrom.size_erase es j, by rw [hsub]; exact List.eraseIdx_sublist _ _, fun x => ?_⟩
    · simp [Builtin.delete_, run_underlying ht, MapKept.run_getObj_map hb, Ky.check w _ hkey, h1, MapKept.run_setObj_map _ hb, Result.andThen, setBlock]
    · rw [hsub]
      obtain ⟨_, _, hn⟩ := hst
      constructor
      · intro hx
        obtain ⟨i, hne, hi⟩ := List.mem_eraseIdx_iff_getElem?.1 hx
        refine ⟨List.mem_of_getElem? hi, fun hk => hne ?_⟩
        exact nodup_idx hn (a := key) (by rw [List.getElem?_map, hi]; simp [hk]) (by rw [List.getElem?_map, h2]; simp [h3])
      · rintro ⟨hx, hk⟩
        obtain ⟨i, hi⟩ := List.getElem?_of_mem hx
        refine List.mem_eraseIdx_iff_getElem?.2 ⟨i, ?_, hi⟩
        rintro rfl
        rw [h2] at hi; cases hi
        exact hk h3
/-- what a round of a loop over a map knows -/
structure Going (w : World) (r ri : Nat) (es0 : Array MapEntry) (clock n : Nat) (del : Value → Prop) (l : Nat) : Prop where
  ex : ∃ es since seen c0, w.heap[r]? = some (.map es clock) ∧ Stamped es clock ∧ es.size ≤ n ∧ w.heap[ri]? = some (.mapIter (some r) since seen c0) ∧ (∀ x ∈ es.toList, x.born < since) ∧ since ≤ c0 ∧ l = (leftOf es seen).size ∧ since ≤ clock ∧
    (∀ x ∈ es.toList, x ∈ es0.toList) ∧ (∀ x ∈ es0.toList, x ∈ es.toList ∨ del x.key) ∧ ∀ x ∈ es.toList, seen.contains x.born = true → ¬ del x.key
theorem Going.keep {S : Nat → Prop} {w w' : World} {r ri : Nat} {es0 : Array MapEntry} {clock n : Nat} {del : Value → Prop} {l : Nat} (h : Going w r ri es0 clock n del l) (g : Chg S w w') (h1 : ¬ S r) (h2 : ¬ S ri) : Going w' r ri es0 clock n del l := by
  obtain ⟨es, since, seen, c0, hb, hst, hn, hr, rest⟩ := h.ex
  exact ⟨es, since, seen, c0, g.get hb h1, hst, hn, g.get hr h2, rest⟩
theorem entry_rn {w : World} {v : Value} {a : Value} {K : Value → World → Prop} (h : (Instr.entry v).run PR w = .ok a w) (hK : K a w) : rn PR (Instr.entry v) K w := ⟨a, w, h, hK⟩
theorem left_push_sub {es es' : Array MapEntry} {seen : Array Nat} {e : MapEntry} (he : e ∈ (leftOf es seen).toList) (hs : es'.toList.Sublist es.toList) : (leftOf es' (seen.push e.born)).size < (leftOf es seen).size := by
  refine Nat.lt_of_le_of_lt ?_ (left_shrinks es seen e he)
  unfold leftOf
  have : ((es'.filter fun x => !(seen.push e.born).contains x.born).toList.length) ≤ ((es.filter fun x => !(seen.push e.born).contains x.born).toList.length) := by
    rw [Array.toList_filter, Array.toList_filter]
    exact (hs.filter _).length_le
  rw [Array.length_toList, Array.length_toList] at this
  exact this
theorem map_shown : PR.underlying T.map_int_pub_shown = some (.map T.int T.pub_shown) := rfl
def shownR (R : Value → Value → Prop) : Prop := ∀ k v, R k v → ∃ (i : Nat) (b c : Nat), i ≤ 1099511627776 ∧ k = .int .i64 (i : Int) ∧ v = .agg #[.pointer (some ⟨b, 0, none⟩), .pointer (some ⟨c, 0, none⟩)]
theorem key_int {i : Int} (h1 : -9223372036854775808 ≤ i) (h2 : i ≤ 9223372036854775807) : keyOf PR T.int (.int .i64 i) = some (.int .i64 i) := Maps.keyOf_int_mk (q := .i64) rfl (by simp [Lit.wf, IntKind.min, IntKind.max, IntKind.bits, IntKind.signed]; omega)
theorem keyedI : Maps.Keyed PR T.int := Maps.int_keyed (q := .i64) rfl
def pubC (bj : Nat) (each last com : Int) (m : Nat) : Array Value := #[.pointer (some ⟨bj, 0, none⟩), .int .i64 each, .int .i64 last, .int .i64 com, .map (some m)]
/-- is it let go? -/
def delP (last com : Int) : Value → Prop := fun k => ∃ i : Int, k = .int .i64 i ∧ i ≤ last - 3 ∧ i ≠ com
theorem trim1_spec {w : World} {p box bj m : Nat} {each last com i : Int} {b c : Option Addr} (h1 : w.heap[box]? = some (.cells #[.pointer (some ⟨p, 0, none⟩)] T.p_pub_Pub (0, 0))) (h2 : w.heap[p]? = some (.cells (pubC bj each last com m) T.pub_Pub (0, 0))) (hl : 0 ≤ last ∧ last ≤ 1099511627776) {K : Value → World → Prop}
    (hK : ∀ w' t, Grow w w' → (t = true ↔ delP last com (.int .i64 i)) → K (.bool t) w') : CallV PR F.p_pub_Pub_trim_1 ⟨[.int .i64 i, .agg #[.pointer b, .pointer c], .pointer (some ⟨box, 0, none⟩)]⟩ w K := by
  have hc : ∀ {w' : World}, Grow w w' → ∀ k v, (pubC bj each last com m)[k]? = some v → w'.cell? ⟨p, k, none⟩ = some v := fun g k v hv => by
    rw [cell_blk (Grow.get g h2)]; exact hv
  refine pub_Pub_trim_1 i b c box (some ⟨p, 0, none⟩) S0 K w ((Fr.init _ w).entry h1 (fun x h => by cases h) (fun h => by cases h)) fun l0 hl0 => Dr_some.2 (Dr_some.2 fun w0 hF0 => Dr_some.2 ?_)
  have g0 : Grow w w0 := hF0.grow
  refine ⟨last, by rw [add_mk]; exact hc g0 2 _ rfl, ?_⟩
  rw [w64 (by omega) (by omega)]
  refine ⟨fun h => Dr_some.2 (Dr_some.2 (Dr_some.2 ⟨com, by rw [add_mk]; exact hc g0 3 _ rfl, fun he => hK _ _ g0 ⟨(fun h => by cases h), fun ⟨j, hj, h1, h2⟩ => ?_⟩, fun he => hK _ _ g0 ⟨(fun _ => ⟨i, rfl, h, he⟩), fun _ => rfl⟩⟩)), fun h => hK _ _ g0 ⟨(fun h => by cases h), fun ⟨j, hj, h1, h2⟩ => ?_⟩⟩
  · cases hj; exact absurd he h2
  · cases hj; exact absurd h1 h
theorem trim_spec {w : World} {p bj m n : Nat} {each last com : Int} {R : Value → Value → Prop} (hb : w.heap[p]? = some (.cells (pubC bj each last com m) T.pub_Pub (0, 0))) (hm : MapP w T.int m n R) (hR : shownR R) (hl : 0 ≤ last ∧ last ≤ 1099511627776) {K : Value → World → Prop}
    (hK : ∀ w', Chg (· = m) w w' → MapP w' T.int m n (fun k v => R k v ∧ ¬ delP last com k) → K (.tuple #[]) w') : CallV PR F.p_pub_Pub_trim ⟨[.pointer (some ⟨p, 0, none⟩)]⟩ w K := by
  have hpm := mapNe hb hm
  have hml := hm.lt
  have hpl := heap_lt hb
  refine pub_Pub_trim p (some ⟨bj, 0, none⟩) each last com (some m) (fun j => j = p ∨ j = m) K w ((Fr.init _ w).entry hb (fun x h => by cases h) fun _ => .inl rfl) ⟨.inl rfl, trivial⟩ fun bx hbx w0 hF0 => ?_
  have g0 : Grow w w0 := hF0.grow
  have hbx0 := hF0.blk 1 rfl
  have hp0 := hF0.blk 0 rfl
  refine maps_DeleteFunc_map_int_pub_shown_int_pub_shown (some m) bx (some ⟨p, 0, none⟩) (· = m) _ w0 ((Fr.init _ w0).entry (wr := false) hbx0 (fun x h => by cases h) (fun h => by cases h)) ?_
  obtain ⟨es, clock, he, hst, hsz, hks, hRe⟩ := hm.grow g0
  refine run_rn (run_range_map w0 T.map_int_pub_shown T.int T.pub_shown m es clock map_shown he) ?_
  have ga : Grow w0 (w0.alloc (.mapIter (some m) clock #[] clock)) := Chg.alloc _ _
  generalize hri : w0.heap.size = ri
  have hri' : (w0.alloc (.mapIter (some m) clock #[] clock)).heap[ri]? = some (.mapIter (some m) clock #[] clock) := by
    subst hri; show (w0.heap.push _)[_]? = _; simp
  generalize w0.alloc (.mapIter (some m) clock #[] clock) = wa at ga hri'
  have hF0' : Fs (· = m) w0 [⟨bx, #[.pointer (some ⟨p, 0, none⟩)], T.p_pub_Pub, false⟩] w0 := (Fr.init _ w0).entry (wr := false) hbx0 (fun x h => by cases h) (fun h => by cases h)
  have hbxl := heap_lt hbx0
  have hgo : Going wa m ri es clock n (delP last com) (leftOf es #[]).size := ⟨es, clock, #[], clock, Grow.get ga he, hst, hsz, hri', hst.1, Nat.le_refl _, rfl, Nat.le_refl _, fun x h => h, fun x h => .inl h, fun x h h' => by simp at h'⟩
  refine ⟨hF0'.after ga, fun l w' => Going w' m ri es clock n (delP last com) l ∧ Chg (· = m) w0 w' ∧ ri < w'.heap.size, ⟨_, hgo, ga.chg, heap_lt hri'⟩, ?_⟩
  rintro D l w1 ⟨⟨es1, since, seen, c0, hb1, hst1, hsz1, hr1, hold, hsc, rfl, hscl, hsub, hdel, hseen⟩, g1, hri1⟩ hF1
  have hmri : ri ≠ m := fun e => by rw [e, hb1] at hr1; cases hr1
  have hg1 : ∀ {k o}, w0.heap[k]? = some o → k ≠ m → w1.heap[k]? = some o := fun h hn => g1.get h hn
  rcases run_next_at (P := PR) w1 0 ri m since c0 seen es1 clock hr1 hb1 hold hsc with ⟨h0, hrun⟩ | ⟨e, hee, w2, hal, hrun⟩
  · refine run_rn hrun (.inl ⟨rfl, hF1, ?_⟩)
    have hsee : ∀ x ∈ es1.toList, ¬ delP last com x.key := fun x hx => hseen x hx (all_seen es1 seen h0 x hx)
    have hfin : MapP w1 T.int m n (fun k v => R k v ∧ ¬ delP last com k) := by
      refine ⟨es1, clock, hb1, hst1, hsz1, fun x hx => hks x (hsub x hx), fun k v => ⟨fun ⟨hr, hd⟩ => ?_, fun ⟨x, hx, hk, hv⟩ => ⟨(hRe k v).2 ⟨x, hsub x hx, hk, hv⟩, hk ▸ hsee x hx⟩⟩⟩
      obtain ⟨x, hx, hk, hv⟩ := (hRe k v).1 hr
      rcases hdel x hx with h | h
      · exact ⟨x, h, hk, hv⟩
      · exact absurd (hk ▸ h) hd
    have hbx1 := hg1 hbx0 (by simp only []; omega)
    have hF := hF0.reset.step g1 (fun x hx => by
        rcases List.mem_cons.1 hx with rfl | hx
        · exact hpm
        · simp at hx; subst hx; simp only []; omega) (fun k _ e => .inr e)
    exact ⟨rfl, hF, hK w1 (g0.then g1) hfin⟩
  · obtain ⟨hem, hes⟩ := mem_left hee
    obtain ⟨i, b, c, hi, hkk, hvv⟩ := hR e.key e.val ((hRe _ _).2 ⟨e, hsub e hem, rfl, rfl⟩)
    have hr2 : w2.heap[ri]? = some (.mapIter (some m) since seen c0) := by rcases hal with rfl | rfl <;> exact hr1
    have hb2 : w2.heap[m]? = some (.map es1 clock) := by rcases hal with rfl | rfl <;> exact hb1
    have g2 : Grow w1 w2 := by rcases hal with rfl | rfl; exact .refl _ _; exact .drew _
    have g3 : Chg (· = ri) w2 (setBlock w2 ri (.mapIter (some m) since (seen.push e.born) clock)) := blockChg _ _ _
    have hr3 := block_get (o' := .mapIter (some m) since (seen.push e.born) clock) hr2
    have hb3 := g3.get hb2 hmri.symm
    refine run_rn hrun (.inr ⟨e.key, e.val, rfl, ?_⟩)
    generalize setBlock w2 ri (.mapIter (some m) since (seen.push e.born) clock) = w3 at g3 hr3 hb3
    have hbxri : bx ≠ ri := by
      rintro rfl
      have := hF1.blk 0 rfl
      simp only [] at this
      rw [hr1] at this; cases this
    have hF3 : Fs (· = m) w0 [⟨bx, #[.pointer (some ⟨p, 0, none⟩)], T.p_pub_Pub, false⟩] w3 := (hF1.after g2).step g3 (fun x hx => by simp at hx; subst hx; exact hbxri) fun k hk e => by have e' : k = ri := e; omega
    refine ⟨hF3, entry_rn (run_entry_at _ ri m since seen es1 clock e hr3 hb3 hem hst1.2.1) ⟨e.key, e.val, rfl, hF3, i, hkk, _, _, hvv, fun l2 hl2 w4 hF4 => ?_⟩⟩
    have g4 : Grow w3 w4 := (hF4.unM hl2).grow
    have g04 : Chg (· = m) w0 w4 := ((g1.grow g2).trans g3 fun k hk e => by have e' : k = ri := e; omega).grow g4
    refine trim1_spec (g04.get hbx0 (by simp only []; omega)) (g04.get hp0 hpm) hl fun w5 t g5 ht => ⟨t, rfl, fun htt => ?_, fun htf => ?_⟩
    · have hd := ht.1 htt
      have hF5 := (hF4.unM hl2).after g5
      have hb5 : w5.heap[m]? = some (.map es1 clock) := Grow.get (g4.trans g5) hb3
      obtain ⟨es', hrun', hst', hsz', hsl, hmem⟩ := delete_run (ty := 0) keyedI map_shown hb5 hst1 (fun x hx => hks x (hsub x hx)) (key_int (i := (i : Int)) (by omega) (by omega))
      refine ⟨hF5, run_rn hrun' ?_⟩
      have g6 := blockChg w5 m (.map es' clock)
      have hb6 := block_get (o' := .map es' clock) hb5
      have hr6 := g6.get (Grow.get (g4.trans g5) hr3) hmri
      generalize setBlock w5 m (.map es' clock) = w6 at g6 hb6 hr6
      have hF6 := (hF5.sub (L' := [⟨bx, #[.pointer (some ⟨p, 0, none⟩)], T.p_pub_Pub, false⟩]) (by simp)).step g6 (fun x hx => by simp at hx; subst hx; simp only []; omega) fun k _ e => e
      refine ⟨rfl, hF6, (leftOf es' (seen.push e.born)).size, left_push_sub hee hsl, ⟨es', since, seen.push e.born, clock, hb6, hst', Nat.le_trans hsz' hsz1, hr6, fun x hx => hold x (hsl.subset hx), hscl, rfl, hscl, fun x hx => hsub x (hsl.subset hx), fun x hx => ?_, fun x hx hs => ?_⟩, (g04.grow g5).trans g6 fun k _ e => e, heap_lt hr6⟩
      · rcases hdel x hx with h | h
        · by_cases hk : x.key = .int .i64 (i : Int)
          · exact .inr (hk ▸ hd)
          · exact .inl ((hmem x).2 ⟨h, hk⟩)
        · exact .inr h
      · have hx1 := ((hmem x).1 hx)
        by_cases hxe : x.born = e.born
        · have : x = e := born_inj hst1.2.1 hx1.1 hem hxe
          subst this
          exact absurd hkk hx1.2
        · exact hseen x hx1.1 (by simpa [hxe] using hs)
    · have hnd : ¬ delP last com (.int .i64 (i : Int)) := fun h => by have := ht.2 h; rw [htf] at this; cases this
      have hF5 := (hF4.unM hl2).after g5
      refine ⟨hF5, (leftOf es1 (seen.push e.born)).size, left_push_sub hee (List.Sublist.refl _), ⟨es1, since, seen.push e.born, clock, Grow.get (g4.trans g5) hb3, hst1, hsz1, Grow.get (g4.trans g5) hr3, hold, hscl, rfl, hscl, hsub, hdel, fun x hx hs => ?_⟩, g04.grow g5, heap_lt (Grow.get (g4.trans g5) hr3)⟩
      by_cases hxe : x.born = e.born
      · have : x = e := born_inj hst1.2.1 hx hem hxe
        subst this
        rw [hkk]; exact hnd
      · exact hseen x hx (by simpa [hxe] using hs)
end Go.Vc

/-! A part of the proof that two events of one line are one event: the calculus that follows known memory by computing, and its soundness. By an AI agent. -/


namespace Go.Vc
open Go Go.Sort Go.Proofs
/-! ## edges: their order, and the sort -/
def ordE (x y : Int × Int) : Int := if Lib.compareInt x.1 y.1 = 0 then Lib.compareInt x.2 y.2 else Lib.compareInt x.1 y.1
theorem Or2_spec {a b : Int} {q : Nat} {w : World} (hs : Sl w (some ⟨q, 0, none⟩) ([a, b].map iv)) {K : Value → World → Prop} (hK : ∀ w', Grow w w' → K (.int .i64 (if a = 0 then b else a)) w') : CallV PR F.cmp_Or_int ⟨[.slice (some ⟨q, 0, none⟩) 2 2]⟩ w K := by
  refine cmp_Or_int _ 2 2 S0 K w ⟨fun i m w' => ∃ k : Nat, i = k ∧ k ≤ 2 ∧ m = 2 - k ∧ (0 < k → a = 0) ∧ (1 < k → b = 0), ⟨_, 0, rfl, by omega, rfl, (fun h => by omega), (fun h => by omega)⟩, ?_⟩
  rintro i D m w1 ⟨k, rfl, hk, rfl, ha, hb⟩ hF
  refine ⟨fun hlt => ?_, fun hge => ?_⟩
  · have hk2 : k = 0 ∨ k = 1 := by omega
    rcases hk2 with rfl | rfl
    · refine (hs.grow hF.gr).rd (v := iv a) (by simp) (by omega) rfl fun x hx => ⟨a, hx, fun h => ⟨_, ?_, 1, rfl, by omega, rfl, (fun _ => h), (fun h => by omega)⟩, fun h => ?_⟩
      · omega
      · have hK := hK w1 hF.gr; rw [if_neg h] at hK; exact hK
    · have ha0 := ha (by omega)
      refine (hs.grow hF.gr).rd (v := iv b) (by simp) (by omega) rfl fun x hx => ⟨b, hx, fun h => ⟨_, ?_, 2, rfl, by omega, rfl, (fun _ => ha0), (fun _ => h)⟩, fun h => ?_⟩
      · omega
      · have hK := hK w1 hF.gr; rw [if_pos ha0] at hK; exact hK
  · have e : k = 2 := by omega
    have hK := hK w1 hF.gr
    rw [if_pos (ha (by omega)), hb (by omega)] at hK; exact hK
theorem order_spec {x y : Int × Int} {w : World} {K : Value → World → Prop} (hK : ∀ w', Grow w w' → K (.int .i64 (ordE x y)) w') : CallV PR F.edges_order ⟨[.agg #[.int .i64 x.1, .int .i64 x.2], .agg #[.int .i64 y.1, .int .i64 y.2]]⟩ w K := by
  refine edges_order x.1 x.2 y.1 y.2 S0 K w fun b0 hb0 b1 hb1 w0 hF0 => ?_
  refine Compare_spec ⟨_, rfl, hF0.reset, Compare_spec ⟨_, rfl, hF0.reset, fun b2 hb2 w3 hF3 => ?_⟩⟩
  refine Or2_spec (hF3.sl 2 rfl) fun w4 g4 => ⟨_, rfl, hF3.after g4, hK w4 (hF3.after g4).chg⟩
theorem grow_of {w w' : World} (g : Grow w w') : ∃ q os, w' = Sort.grow (w.drewN q) os := by
  refine ⟨w'.drawn - w.drawn, w'.heap.extract w.heap.size w'.heap.size, ?_⟩
  have hh : w.heap ++ w'.heap.extract w.heap.size w'.heap.size = w'.heap := by
    apply Array.ext_getElem?
    intro i
    have hsz := g.size
    rcases Nat.lt_or_ge i w.heap.size with h | h
    · rw [Array.getElem?_append_left h, g.block i h id]
    · rw [Array.getElem?_append_right h, Array.getElem?_extract]
      split
      · congr 1; omega
      · rw [Array.getElem?_eq_none (by omega)]
  have hd : w.drawn + (w'.drawn - w.drawn) = w'.drawn := by have := g.drawn; omega
  unfold Sort.grow World.drewN
  simp only []
  rw [hh, hd, ← g.os, ← g.tape, ← g.output]
def encP (e : Int × Int) : List Value := [.int .i64 e.1, .int .i64 e.2]
theorem cmpLaysE (blk off size : Nat) (w : World) : CmpLays PR F.edges_order #[] encP 2 ordE blk off size w := fun m os dk _ x y =>
  Calls.mono (order_spec (x := x) (y := y) (w := sortWorldK encP 2 w blk off m dk os) (K := fun v w' => v = .int .i64 (ordE x y) ∧ ∃ q os', w' = Sort.grow ((sortWorldK encP 2 w blk off m dk os).drewN q) os') fun w' g => ⟨rfl, grow_of g⟩)
    fun e w' ⟨v, he, hv, h⟩ => ⟨by rw [he, hv], h⟩
theorem ordE_lt (x y : Int × Int) : ltOf ordE x y = decide (x.1 < y.1 ∨ (x.1 = y.1 ∧ x.2 < y.2)) := by
  unfold ltOf ordE Lib.compareInt
  by_cases h1 : x.1 < y.1
  · simp [h1]
  · by_cases h2 : x.1 > y.1
    · have : ¬ x.1 = y.1 := by omega
      simp [h1, h2, this]
    · have e : x.1 = y.1 := by omega
      by_cases h3 : x.2 < y.2
      · simp [e, h3]
      · by_cases h4 : x.2 > y.2
        · simp [e, h3, h4]
        · simp [e, h3, h4]
theorem swoE : SWO (ltOf ordE) where
  irrefl x := by rw [ordE_lt]; simp
  trans x y z h1 h2 := by rw [ordE_lt] at *; simp at *; omega
  ntrans x y z h1 h2 := by rw [ordE_lt] at *; simp at *; omega
theorem encE_at : ∀ (l : List (Int × Int)) (t : Nat), t < l.length * 2 → (encE l)[t]? = some ((encP l.toArray[t / 2]!)[t % 2]!)
  | [], t, h => by simp at h
  | x :: l, t, h => by
    have hc : encE (x :: l) = encP x ++ encE l := rfl
    rw [hc]
    rcases Nat.lt_or_ge t 2 with h2 | h2
    · rw [List.getElem?_append_left (by simpa [encP] using h2)]
      have : t = 0 ∨ t = 1 := by omega
      rcases this with rfl | rfl <;> simp [encP]
    · rw [List.getElem?_append_right (by simpa [encP] using h2)]
      have ih := encE_at l (t - 2) (by simp at h; omega)
      have e1 : (encP x).length = 2 := rfl
      rw [e1, ih]
      have e2 : t / 2 = (t - 2) / 2 + 1 := by omega
      have e3 : (t - 2) % 2 = t % 2 := by omega
      rw [e2, e3]
      simp
theorem flat_at {d : Array (Int × Int)} {t : Nat} (h : t < d.size * 2) : (encE d.toList)[t]? = some ((flatK encP 2 d)[t]!) := by
  rw [encE_at _ _ (by simpa using h), get_flatK _ _ _ _ h]
def leE (x y : Int × Int) : Prop := x.1 < y.1 ∨ (x.1 = y.1 ∧ x.2 ≤ y.2)
theorem sort_spec {l : List (Int × Int)} {q : Option Addr} {n c : Nat} {w : World} (ho : Own T.api_Edge 2 w q c (encE l)) (hl : n = l.length) (hn : n ≤ 1000000) {K : Value → World → Prop}
    (hK : ∀ w' l', l'.Perm l → l'.Pairwise leE → Own T.api_Edge 2 w' q c (encE l') → Chg (blkOf q) w w' → K (.tuple #[]) w') :
    CallV PR F.slices_SortFunc_sl_api_Edge_api_Edge ⟨[.slice q n c, .func (.func F.edges_order) #[] #[]]⟩ w K := by
  subst hl
  by_cases hl0 : l = []
  · subst hl0
    refine Calls.mono (AnyF.slices_SortFunc_none Go.Proofs.Tryz.sortEdge q c _ w) ?_
    rintro e w' ⟨he, rfl⟩
    exact ⟨_, he, hK w' [] (.refl _) .nil ho (.refl _ _)⟩
  · rcases ho with ⟨_, _, h⟩ | ⟨b, o, cs, rfl, hb, h1, h2, h3, h4⟩
    · have := encE_len l; rw [h] at this
      exact absurd (List.eq_nil_of_length_eq_zero (by simp at this; omega)) hl0
    · have hblk := heap_lt hb
      have hel := encE_len l
      have hH : HoldsK encP 2 w b o l.toArray := by
        intro j hj
        rw [size_flatK] at hj
        have hj' : j < (encE l).length := by rw [hel]; simpa using hj
        have e := flat_at (d := l.toArray) (t := j) hj
        refine ⟨?_, frozen_blk hb _⟩
        rw [cell_blk hb, h4 j hj', e]; rfl
      have eg : ∀ args w, (callFunc F.edges_order args).run PR w = .ok (.enter F.edges_order args) w := enters_of (P := PR) (fn := (PR.funcs[F.edges_order]?).getD default) (c := (((PR.funcs[F.edges_order]?).getD default).body).getD .skip) (by kernel_rfl) (by kernel_rfl) (by kernel_rfl)
      have hagg : ∀ w, (isAgg T.api_Edge).run PR w = .ok true w := fun w => by
        have hu : ∃ fs, PR.underlying T.api_Edge = some (.struct fs) := by
          have h : (match PR.underlying T.api_Edge with | some (.struct _) => true | _ => false) = true := by kernel_rfl
          split at h
          · rename_i fs h'; exact ⟨fs, h'⟩
          · cases h
        obtain ⟨fs, hu⟩ := hu
        simp [isAgg, run_underlying hu]
      have hsize : ∀ w, (Go.sizeOf T.api_Edge).run PR w = .ok 2 w := fun w => by
        obtain ⟨i, hi, hk, _⟩ := tyI_edge
        simp [sizeOf, typeInfo, hi, hk]
      have hcon := AnyQ.slices_SortFunc Go.Proofs.Tryz.sortEdge 2 hagg hsize encP (fun _ => rfl) (fun x v hv => by simp [encP] at hv; rcases hv with rfl | rfl <;> rfl) ordE swoE F.edges_order #[] b o c l.toArray w eg (cmpLaysE b o l.toArray.size w) hH hblk (by simp; omega)
      refine Calls.mono hcon ?_
      rintro e w' ⟨he, d', m, os, ⟨hp1, hp2, hp3⟩, hs, rfl⟩
      have hsz : d'.size = l.length := by simpa using hp1
      have hperm : d'.toList.Perm l := by
        have e1 : (d'.extract 0 l.toArray.size).toList = d'.toList := by rw [show l.toArray.size = d'.size by simp [hsz]]; simp
        have e2 : (l.toArray.extract 0 l.toArray.size).toList = l := by simp
        rw [e1, e2] at hp3; exact hp3
      refine ⟨_, he, hK _ d'.toList hperm ?_ ?_ ?_⟩
      · rw [List.pairwise_iff_getElem]
        intro i j hi hj hij
        have := hs i j (Nat.zero_le _) hij (by simpa [hsz] using hj)
        rw [ordE_lt] at this
        have hi' : i < d'.size := by simpa using hi
        have hj' : j < d'.size := by simpa using hj
        rw [getElem!_pos d' i hi', getElem!_pos d' j hj'] at this
        simp only [Array.getElem_toList, leE]
        simp at this
        omega
      · have hb' : (sortWorldK encP 2 w b o m d' os).heap[b]? = some (.cells (Sort.putCells id o (flatK encP 2 d') cs) T.api_Edge (0, 0)) := by
          show ((w.heap.modify b (Sort.onCells _)) ++ os)[b]? = _
          rw [Array.getElem?_append_left (by simpa using hblk), Array.getElem?_modify, if_pos rfl, hb]
          rfl
        refine .inr ⟨b, o, _, rfl, hb', by simpa [Sort.putCells] using h1, h2, by rw [encE_len]; rw [encE_len] at h3; simpa [hsz] using h3, fun i hi => ?_⟩
        have hi2 : i < d'.size * 2 := by rw [encE_len] at hi; simpa using hi
        rw [flat_at hi2]
        have hlt : o + i < cs.size := by rw [encE_len] at h3; omega
        simp only [Sort.putCells, Array.getElem?_mapIdx, Array.getElem?_eq_getElem hlt, Option.map_some]
        rw [if_pos ⟨by omega, by rw [size_flatK]; omega⟩, Nat.add_sub_cancel_left]; rfl
      · refine ⟨rfl, rfl, rfl, by show w.drawn ≤ w.drawn + m; omega, ?_, fun k hk hn => ?_⟩
        · show w.heap.size ≤ ((w.heap.modify b _) ++ os).size
          simp
        · show ((w.heap.modify b (Sort.onCells _)) ++ os)[k]? = _
          rw [Array.getElem?_append_left (by simpa using hk), Array.getElem?_modify, if_neg]
          rintro rfl
          exact hn ⟨_, rfl, rfl⟩
end Go.Vc
