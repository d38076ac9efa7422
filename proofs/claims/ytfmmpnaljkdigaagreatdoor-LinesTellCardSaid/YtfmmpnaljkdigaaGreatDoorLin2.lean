/-
  What lines.Event.fits answers. By an AI agent.
-/
import Derived.Test.YtfmmpnaljkdigaaGreatDoorLin1
import Derived.Test.YtfmmpnaljkdigaaGreatDoorShLin
set_option linter.unusedSimpArgs false
set_option maxRecDepth 100000
set_option linter.unusedVariables false
namespace Go.Vc
open Go
/-! ## edges, and whether an event fits its verb -/
def ecs (es : List (Int × Int)) : List Value := es.flatMap fun e => [iv e.1, iv e.2]
theorem ecs_len (es : List (Int × Int)) : (ecs es).length = 2 * es.length := by
  induction es with
  | nil => rfl
  | cons e es ih => simp only [ecs, List.flatMap_cons, List.length_append, List.length_cons, List.length_nil] at ih ⊢; omega
theorem ecs_get (es : List (Int × Int)) : ∀ i : Nat, (ecs es)[2 * i]? = es[i]?.map (fun e => iv e.1) ∧ (ecs es)[2 * i + 1]? = es[i]?.map (fun e => iv e.2) := by
  induction es with
  | nil => intro i; simp [ecs]
  | cons e es ih =>
    intro i
    cases i with
    | zero => simp [ecs]
    | succ i =>
      have := ih i
      have e1 : ecs (e :: es) = iv e.1 :: iv e.2 :: ecs es := rfl
      rw [e1, show 2 * (i + 1) = 2 * i + 2 by omega]
      simpa using this
theorem Sl.rd2 {w : World} {q : Option Addr} {es : List (Int × Int)} {n : Int} {l : Nat} {e : Int × Int} {K : Addr → Prop} (h : Sl w q (ecs es)) (hl : l = es.length) (h0 : 0 ≤ n) (he : es[n.toNat]? = some e)
    (hK : ∀ a : Addr, w.cell? (a.add 0) = some (iv e.1) → w.cell? (a.add 1) = some (iv e.2) → K a) : Dr q (fun a => 0 ≤ n ∧ n < ((l : Nat) : Int) ∧ Dr (some (Addr.add a (n.toNat * 2))) K) := by
  subst hl
  have hl : n.toNat < es.length := by
    rcases Nat.lt_or_ge n.toNat es.length with hl | hl
    · exact hl
    · simp [List.getElem?_eq_none hl] at he
  have hlen := ecs_len es
  obtain ⟨b, o, rfl, hc⟩ := h.ex (by intro e0; rw [e0] at hlen; simp at hlen; omega)
  refine Dr_some.2 ⟨h0, by omega, Dr_some.2 ?_⟩
  have hg := ecs_get es n.toNat
  rw [he] at hg
  rw [add_mk]
  refine hK _ ?_ ?_
  · rw [add_mk, show o + n.toNat * 2 + 0 = o + 2 * n.toNat by omega, hc _ (by omega), hg.1]; rfl
  · rw [add_mk, show o + n.toNat * 2 + 1 = o + (2 * n.toNat + 1) by omega, hc _ (by omega), hg.2]; rfl
def smallE (e : Int × Int) : Bool := smallN e.1 && smallN e.2
/-- numbers from the many-th on are 0 -/
def zeroFrom (many : Int) : Nat → List Int → Bool
  | _, [] => true
  | i, a :: xs => (decide ((i : Int) < many) || decide (a = 0)) && zeroFrom many (i + 1) xs
def fitsB (xs : List Int) (es : List (Int × Int)) (s : ByteArray) (bs : List Bool) (many more : Int) : Bool :=
  es.all smallE && (zeroFrom many 0 xs && (xs.all smallN && (decide (es.length ≤ 200) && (decide (s.size ≤ 300) && (decide (bs.length ≤ 100) &&
    ((decide (more = 1) || decide (es.length = 0)) && ((decide (more = 2) || decide (s = ⟨#[]⟩)) && (decide (more = 3) || decide (bs.length = 0)))))))))
theorem fits_spec {k a1 a2 a3 a4 a5 : Int} {qe qk : Option Addr} {le ce lk ck : Nat} {s nm : ByteArray} {many more : Int} {es : List (Int × Int)} {bs : List Bool} {w : World} {K : Value → World → Prop}
    (he : Sl w qe (ecs es)) (hle : le = es.length) (hlk : lk = bs.length) (hb : le ≤ 1000000)
    (hK : ∀ w', Grow w w' → K (.bool (fitsB [a1, a2, a3, a4, a5] es s bs many more)) w') :
    CallV PR F.lines_Event_fits ⟨[.agg #[.int .i64 k, .int .i64 a1, .int .i64 a2, .int .i64 a3, .int .i64 a4, .int .i64 a5, .slice qe le ce, .string s, .slice qk lk ck], .agg #[.string nm, .int .i64 many, .int .i64 more]]⟩ w K := by
  refine lines_Event_fits k a1 a2 a3 a4 a5 qe le ce s qk lk ck nm many more (fun _ => False) K w ?_
  intro r0 hr0 r1 hr1 w0 h0
  refine ⟨fun n m w' => ∃ i : Nat, n = i ∧ i ≤ es.length ∧ m = es.length - i ∧ es.all smallE = (es.drop i).all smallE, ⟨_, 0, rfl, by omega, rfl, rfl⟩, ?_⟩
  rintro n D m w1 ⟨i, rfl, hi, rfl, hall⟩ hF
  refine ⟨fun hlt => ?_, fun hge => ?_⟩
  · have hi' : i < es.length := by omega
    have hd : es.drop i = es[i] :: es.drop (i + 1) := List.drop_eq_getElem_cons hi'
    rw [hd, List.all_cons] at hall
    refine (he.grow hF.gr).rd2 hle (by omega) (e := es[i]) (by simp [hi']) fun a ha1 ha2 => ⟨es[i].1, ha1, es[i].2, ha2, ?_⟩
    intro r4 hr4 r5 hr5 w2 h2
    refine small_spec (ns := [es[i].1, es[i].2]) (h2.sl 3 rfl) rfl (by omega) fun w3 g => ⟨_, rfl, fun hb' => ?_, fun hb' => ?_⟩
    · refine ⟨h2.after g, es.length - (i + 1), by omega, i + 1, wr1 (by omega), by omega, rfl, ?_⟩
      have : smallE es[i] = true := by simpa [smallE] using hb'
      rw [hall, this, Bool.true_and]
    · refine ⟨h2.after g, ?_⟩
      have h9 := hK w3 (h2.gr.trans g)
      have e1 : smallE es[i] = false := by
        cases h : smallE es[i] with
        | false => rfl
        | true => exfalso; simp only [smallE, Bool.and_eq_true] at h; simp [h] at hb'
      have e2 : fitsB [a1, a2, a3, a4, a5] es s bs many more = false := by unfold fitsB; rw [hall, e1]; rfl
      rw [e2] at h9; exact h9
  · have hend : es.drop i = [] := List.drop_eq_nil_of_le (by omega)
    rw [hend] at hall
    have hall : es.all smallE = true := hall
    clear hend hi hge
    refine ⟨fun n m w' => ∃ j : Nat, n = j ∧ j ≤ 5 ∧ m = 5 - j ∧ w' = w1 ∧ zeroFrom many 0 [a1, a2, a3, a4, a5] = zeroFrom many j ([a1, a2, a3, a4, a5].drop j), ⟨_, 0, rfl, by omega, rfl, rfl, rfl⟩, ?_⟩
    rintro n D m w4 ⟨j, rfl, hj, rfl, rfl, hz⟩ hF4
    refine ⟨fun hlt => ?_, fun hge => ?_⟩
    · have hj' : j < [a1, a2, a3, a4, a5].length := by simp; omega
      have hd : [a1, a2, a3, a4, a5].drop j = [a1, a2, a3, a4, a5][j] :: [a1, a2, a3, a4, a5].drop (j + 1) := List.drop_eq_getElem_cons hj'
      rw [hd] at hz
      generalize hx : [a1, a2, a3, a4, a5][j] = x at hz
      refine ⟨by omega, hlt, x, ?_, fun h => ⟨fun h' => ?_, fun h' => ?_⟩, fun h => ?_⟩
      · have : j = 0 ∨ j = 1 ∨ j = 2 ∨ j = 3 ∨ j = 4 := by omega
        rcases this with rfl | rfl | rfl | rfl | rfl <;> (subst hx; rfl)
      · exact ⟨5 - (j + 1), by omega, j + 1, wr1 (by omega), by omega, rfl, rfl, by rw [hz]; simp only [zeroFrom, decide_eq_true h', Bool.or_true, Bool.true_and]⟩
      · have := hK w4 hF4.gr
        have e : fitsB [a1, a2, a3, a4, a5] es s bs many more = false := by
          unfold fitsB; rw [hall, hz]; simp only [zeroFrom, decide_eq_false h', show ¬ (j : Int) < many by omega, decide_false, Bool.or_self, Bool.false_and, Bool.and_false]
        rwa [e] at this
      · exact ⟨5 - (j + 1), by omega, j + 1, wr1 (by omega), by omega, rfl, rfl, by rw [hz]; simp only [zeroFrom, decide_eq_true (show (j : Int) < many by omega), Bool.true_or, Bool.true_and]⟩
    · have e5 : j = 5 := by omega
      subst e5
      have hz : zeroFrom many 0 [a1, a2, a3, a4, a5] = true := hz
      refine small_spec (ns := [a1, a2, a3, a4, a5]) ?_ rfl (by omega) fun w5 g => ⟨_, rfl, fun hb' => ⟨hF4.after g, ?_⟩, fun hb' => ⟨hF4.after g, ?_⟩⟩
      · exact .inr ⟨_, _, rfl, _, _, _, hF4.blk 0 rfl, fun i hi => by
          have : i = 0 ∨ i = 1 ∨ i = 2 ∨ i = 3 ∨ i = 4 := by simp at hi; omega
          rcases this with rfl | rfl | rfl | rfl | rfl <;> rfl⟩
      · have L := hK w5 (hF4.gr.trans g)
        unfold fitsB at L
        rw [hall, hz, hb', Bool.true_and, Bool.true_and, Bool.true_and, ← hle, ← hlk] at L
        refine ⟨fun h1 => ⟨fun h2 => ⟨fun h3 => ?_, fun h3 => ?_⟩, fun h2 => ?_⟩, fun h1 => ?_⟩
        · rw [decide_eq_true (show le ≤ 200 by omega), decide_eq_true (show s.size ≤ 300 by omega), decide_eq_true (show lk ≤ 100 by omega), Bool.true_and, Bool.true_and, Bool.true_and] at L
          clear hK he hF hF4 hz hall hb'
          refine ⟨fun h4 => ⟨fun h5 => ⟨fun h6 => ?_, fun h6 => ⟨fun h7 => ?_, fun h7 => ?_⟩⟩, fun h5 => ⟨fun h6 => ⟨fun h7 => ?_, fun h7 => ⟨fun h8 => ?_, fun h8 => ?_⟩⟩, fun h6 => ?_⟩⟩,
            fun h4 => ⟨fun h4' => ⟨fun h5 => ⟨fun h6 => ?_, fun h6 => ⟨fun h7 => ?_, fun h7 => ?_⟩⟩, fun h5 => ⟨fun h6 => ⟨fun h7 => ?_, fun h7 => ⟨fun h8 => ?_, fun h8 => ?_⟩⟩, fun h6 => ?_⟩⟩, fun h4' => ?_⟩⟩
          all_goals (simp_all; done)
        · rw [decide_eq_false (show ¬ lk ≤ 100 by omega)] at L; simpa using L
        · rw [decide_eq_false (show ¬ s.size ≤ 300 by omega)] at L; simpa using L
        · rw [decide_eq_false (show ¬ le ≤ 200 by omega)] at L; simpa using L
      · have := hK w5 (hF4.gr.trans g)
        have e : fitsB [a1, a2, a3, a4, a5] es s bs many more = false := by unfold fitsB; rw [hall, hz, hb']; rfl
        rwa [e] at this
end Go.Vc
