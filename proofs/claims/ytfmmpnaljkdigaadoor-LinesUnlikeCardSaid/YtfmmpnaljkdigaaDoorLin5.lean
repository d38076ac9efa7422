/-
  What the law's own helpers same and great answer. By an AI agent.
-/
import Derived.Test.YtfmmpnaljkdigaaDoorLin4
set_option linter.unusedSimpArgs false
set_option maxRecDepth 100000
set_option linter.unusedVariables false
namespace Go.Vc
open Go
/-! ## whether two events are one -/
theorem Sl.rdG {w : World} {q : Option Addr} {xs : List Value} (h : Sl w q xs) {n : Int} {l : Nat} {v : Value} {K : Addr → Prop} (hl : l = xs.length) (h0 : 0 ≤ n) (hv : xs[n.toNat]? = some v)
    (hK : ∀ a, (∀ w', Grow w w' → w'.cell? a = some v) → K a) : Dr q (fun a => 0 ≤ n ∧ n < ((l : Nat) : Int) ∧ Dr (some (Addr.add a (n.toNat * 1))) K) := by
  subst hl
  have hl : n.toNat < xs.length := by
    rcases Nat.lt_or_ge n.toNat xs.length with hl | hl
    · exact hl
    · simp [List.getElem?_eq_none hl] at hv
  rcases h with h | ⟨b, o, rfl, h⟩
  · subst h; simp at hl
  refine Dr_some.2 ⟨h0, by omega, Dr_some.2 ?_⟩
  rw [add_mk, Nat.mul_one]
  exact hK _ fun w' g => (h.keep g id).cell hv
theorem Sl.rd2G {w : World} {q : Option Addr} {es : List (Int × Int)} {n : Int} {l : Nat} {e : Int × Int} {K : Addr → Prop} (h : Sl w q (ecs es)) (j : Nat) (hj : j < 2) (hl : l = es.length) (h0 : 0 ≤ n) (he : es[n.toNat]? = some e)
    (hK : ∀ a, (∀ w', Grow w w' → w'.cell? a = some (iv (if j = 0 then e.1 else e.2))) → K a) : Dr q (fun a => 0 ≤ n ∧ n < ((l : Nat) : Int) ∧ Dr (some (Addr.add a (n.toNat * 2))) (fun a => Dr (some (Addr.add a j)) K)) := by
  subst hl
  have hl : n.toNat < es.length := by
    rcases Nat.lt_or_ge n.toNat es.length with hl | hl
    · exact hl
    · simp [List.getElem?_eq_none hl] at he
  have hlen := ecs_len es
  have hg := ecs_get es n.toNat
  rw [he] at hg
  rcases h with h | ⟨b, o, rfl, h⟩
  · rw [h] at hlen; simp at hlen; omega
  refine Dr_some.2 ⟨h0, by omega, Dr_some.2 (Dr_some.2 ?_)⟩
  rw [add_mk, add_mk]
  refine hK _ fun w' g => ?_
  have hk := (h.keep g id)
  have : j = 0 ∨ j = 1 := by omega
  rcases this with rfl | rfl
  · rw [show o + n.toNat * 2 + 0 = o + 2 * n.toNat by omega, hk.cell hg.1]; rfl
  · rw [show o + n.toNat * 2 + 1 = o + (2 * n.toNat + 1) by omega, hk.cell hg.2]; rfl
theorem great_spec {k a1 a2 a3 a4 a5 : Int} {qe qk : Option Addr} {le ce lk ck : Nat} {s : ByteArray} {w : World} {K : Value → World → Prop}
    (h1 : ∀ w', Grow w w' → K (.bool true) w') (h2 : le ≤ 300 → s.size ≤ 400 → lk ≤ 200 → ∀ w', Grow w w' → K (.bool false) w') :
    CallV PR F.ladinglaw29_great ⟨[.agg #[.int .i64 k, .int .i64 a1, .int .i64 a2, .int .i64 a3, .int .i64 a4, .int .i64 a5, .slice qe le ce, .string s, .slice qk lk ck]]⟩ w K := by
  refine ladinglaw29_great k a1 a2 a3 a4 a5 qe le ce s qk lk ck (fun _ => False) K w ?_
  exact fun r hr => ⟨fun _ w0 h => h1 w0 h.gr, fun g1 => ⟨fun _ w0 h => h1 w0 h.gr, fun g2 => ⟨fun _ w0 h => h1 w0 h.gr, fun g3 w0 h => h2 (by omega) (by omega) (by omega) w0 h.gr⟩⟩⟩
theorem take_ne {α : Type} {xs ys : List α} {k : Nat} (h : k < xs.length) (h' : k < ys.length) (hne : xs[k] ≠ ys[k]) : xs ≠ ys := fun e => by subst e; exact hne rfl
theorem take_eq_next {α : Type} {xs ys : List α} {k : Nat} (h : k < xs.length) (h' : k < ys.length) (he : xs[k] = ys[k]) (ht : xs.take k = ys.take k) : xs.take (k + 1) = ys.take (k + 1) := by
  rw [take_next h, take_next h', ht, he]
theorem Ints_spec {q q' : Option Addr} {l c l' c' : Nat} {xs ys : List Int} {w : World} {K : Value → World → Prop} (hx : Sl w q (xs.map iv)) (hy : Sl w q' (ys.map iv)) (hl : l = xs.length) (hl' : l' = ys.length) (hb : l ≤ 1000000)
    (hK : ∀ w', Grow w w' → K (.bool (decide (xs = ys))) w') : CallV PR F.ladingref05_Ints ⟨[.slice q l c, .slice q' l' c']⟩ w K := by
  have no : xs ≠ ys → ∀ w', Grow w w' → K (.bool false) w' := fun h w' g => by have := hK w' g; rwa [decide_eq_false h] at this
  refine ladingref05_Ints q l c q' l' c' (fun _ => False) K w ⟨fun he => ?_, fun he => no (fun e => by subst e; omega) w (.refl _ _)⟩
  refine ⟨fun n m w' => ∃ k : Nat, n = k ∧ k ≤ xs.length ∧ m = xs.length - k ∧ xs.take k = ys.take k, ⟨_, 0, rfl, by omega, rfl, rfl⟩, ?_⟩
  rintro n D m w0 ⟨k, rfl, hk, rfl, ht⟩ hF
  refine ⟨fun hlt w1 h1 => ⟨fun w' => Grow w w', h1.gr, ?_⟩, fun hge => ?_⟩
  · have k1 : k < xs.length := by omega
    have k2 : k < ys.length := by omega
    refine hx.rdG (by simp [hl]) (by omega) (v := iv xs[k]) (by simp [k1]) fun a ha => ⟨xs[k], ha, ?_⟩
    refine hy.rdG (by simp [hl']) (by omega) (v := iv ys[k]) (by simp [k2]) fun b hb' => ⟨ys[k], hb', fun e => ?_, fun e => no (take_ne k1 k2 e) w1 h1.gr⟩
    exact ⟨xs.length - (k + 1), by omega, k + 1, wr1 (by omega), by omega, rfl, take_eq_next k1 k2 e ht⟩
  · have := hK w0 hF.gr
    have e : xs = ys := by
      rw [List.take_of_length_le (by omega), List.take_of_length_le (by omega)] at ht; exact ht
    rwa [decide_eq_true e] at this
theorem Same_spec {q q' : Option Addr} {l c l' c' : Nat} {xs ys : List (Int × Int)} {w : World} {K : Value → World → Prop} (hx : Sl w q (ecs xs)) (hy : Sl w q' (ecs ys)) (hl : l = xs.length) (hl' : l' = ys.length) (hb : l ≤ 1000000)
    (hK : ∀ w', Grow w w' → K (.bool (decide (xs = ys))) w') : CallV PR F.ladingref04_Same ⟨[.slice q l c, .slice q' l' c']⟩ w K := by
  have no : xs ≠ ys → ∀ w', Grow w w' → K (.bool false) w' := fun h w' g => by have := hK w' g; rwa [decide_eq_false h] at this
  refine ladingref04_Same q l c q' l' c' (fun _ => False) K w ⟨fun he => ?_, fun he => no (fun e => by subst e; omega) w (.refl _ _)⟩
  refine ⟨fun n m w' => ∃ k : Nat, n = k ∧ k ≤ xs.length ∧ m = xs.length - k ∧ xs.take k = ys.take k, ⟨_, 0, rfl, by omega, rfl, rfl⟩, ?_⟩
  rintro n D m w0 ⟨k, rfl, hk, rfl, ht⟩ hF
  refine ⟨fun hlt w1 h1 => ⟨fun w' => Grow w w', h1.gr, ?_⟩, fun hge => ?_⟩
  · have k1 : k < xs.length := by omega
    have k2 : k < ys.length := by omega
    have x1 : xs[(k : Int).toNat]? = some xs[k] := by simp [k1]
    have y1 : ys[(k : Int).toNat]? = some ys[k] := by simp [k2]
    refine hx.rd2G 0 (by omega) hl (by omega) x1 fun a ha => ⟨xs[k].1, ha, ?_⟩
    refine hy.rd2G 0 (by omega) hl' (by omega) y1 fun b hb' => ⟨ys[k].1, hb', fun e => ?_, fun e => no (take_ne k1 k2 fun h => e (by rw [h])) w1 h1.gr⟩
    refine hx.rd2G 1 (by omega) hl (by omega) x1 fun a ha => ⟨xs[k].2, ha, ?_⟩
    refine hy.rd2G 1 (by omega) hl' (by omega) y1 fun b hb' => ⟨ys[k].2, hb', fun e2 => ?_, fun e2 => no (take_ne k1 k2 fun h => e2 (by rw [h])) w1 h1.gr⟩
    exact ⟨xs.length - (k + 1), by omega, k + 1, wr1 (by omega), by omega, rfl, take_eq_next k1 k2 (Prod.ext e e2) ht⟩
  · have := hK w0 hF.gr
    have e : xs = ys := by
      rw [List.take_of_length_le (by omega), List.take_of_length_le (by omega)] at ht; exact ht
    rwa [decide_eq_true e] at this
/-- an event, as it lies in memory -/
structure Ev where
  k : Int
  a1 : Int
  a2 : Int
  a3 : Int
  a4 : Int
  a5 : Int
  es : List (Int × Int)
  s : ByteArray
  bs : List Bool
noncomputable instance : DecidableEq Ev := fun _ _ => Classical.propDecidable _
def Ev.xs (v : Ev) : List Int := [v.a1, v.a2, v.a3, v.a4, v.a5]
def Ev.line (v : Ev) : List UInt8 := lineL v.k v.xs v.es v.s v.bs
theorem args_sl {S : Nat → Prop} {w0 wp w : World} {M : List Nat} {L : List Blk} (h : Fr S w0 wp M L w) (i : Nat) {r T : Nat} {k a1 a2 a3 a4 a5 : Int} {v1 v2 v3 : Value} {wr : Bool}
    (hi : L[i]? = some ⟨r, #[.int .i64 k, .int .i64 a1, .int .i64 a2, .int .i64 a3, .int .i64 a4, .int .i64 a5, v1, v2, v3], T, wr⟩) : Sl w (some ⟨r, 1, none⟩) ([a1, a2, a3, a4, a5].map iv) :=
  .inr ⟨_, _, rfl, _, _, _, h.blk i hi, fun i hi => by
    have : i = 0 ∨ i = 1 ∨ i = 2 ∨ i = 3 ∨ i = 4 := by simp at hi; omega
    rcases this with rfl | rfl | rfl | rfl | rfl <;> rfl⟩
theorem same_spec {a b : Ev} {qe qk qe' qk' : Option Addr} {le ce lk ck le' ce' lk' ck' : Nat} {w : World} {K : Value → World → Prop}
    (he : Sl w qe (ecs a.es)) (hk : Sl w qk (a.bs.map .bool)) (hle : le = a.es.length) (hlk : lk = a.bs.length) (hb : le ≤ 1000000) (hbk : lk ≤ 1000000)
    (he' : Sl w qe' (ecs b.es)) (hk' : Sl w qk' (b.bs.map .bool)) (hle' : le' = b.es.length) (hlk' : lk' = b.bs.length)
    (hK : ∀ w', Grow w w' → K (.bool (decide (a = b))) w') :
    CallV PR F.ladinglaw29_same ⟨[.agg #[.int .i64 a.k, .int .i64 a.a1, .int .i64 a.a2, .int .i64 a.a3, .int .i64 a.a4, .int .i64 a.a5, .slice qe le ce, .string a.s, .slice qk lk ck],
      .agg #[.int .i64 b.k, .int .i64 b.a1, .int .i64 b.a2, .int .i64 b.a3, .int .i64 b.a4, .int .i64 b.a5, .slice qe' le' ce', .string b.s, .slice qk' lk' ck']]⟩ w K := by
  have no : a ≠ b → ∀ w', Grow w w' → K (.bool false) w' := fun h w' g => by have := hK w' g; rwa [decide_eq_false h] at this
  refine ladinglaw29_same a.k a.a1 a.a2 a.a3 a.a4 a.a5 qe le ce a.s qk lk ck b.k b.a1 b.a2 b.a3 b.a4 b.a5 qe' le' ce' b.s qk' lk' ck' (fun _ => False) K w ?_
  intro r0 hr0 r1 hr1
  refine ⟨fun hl w0 h0 => ?_, fun hl w0 h0 => no (fun e => by subst e; omega) w0 h0.gr⟩
  refine ⟨fun n m w' => ∃ k : Nat, n = k ∧ k ≤ a.bs.length ∧ m = a.bs.length - k ∧ a.bs.take k = b.bs.take k, ⟨_, 0, rfl, by omega, rfl, rfl⟩, ?_⟩
  rintro n D m w1 ⟨k, rfl, hkk, rfl, ht⟩ hF
  refine ⟨fun hlt w2 h2 => ⟨fun w' => Grow w w', h2.gr, ?_⟩, fun hge w6 h6 => ⟨fun w' => True, trivial, ?_⟩⟩
  · have k1 : k < a.bs.length := by omega
    have k2 : k < b.bs.length := by omega
    have yes : a.bs[k] = b.bs[k] → ∃ l4 : Nat, l4 < a.bs.length - k ∧ ∃ k1 : Nat, IntKind.wrap .i64 ((k : Int) + 1) = k1 ∧ k1 ≤ a.bs.length ∧ l4 = a.bs.length - k1 ∧ a.bs.take k1 = b.bs.take k1 := fun e =>
      ⟨a.bs.length - (k + 1), by omega, k + 1, wr1 (by omega), by omega, rfl, take_eq_next k1 k2 e ht⟩
    have nay : a.bs[k] ≠ b.bs[k] → K (.bool false) w2 := fun e => no (fun h => take_ne k1 k2 e (by rw [h])) w2 h2.gr
    refine hk.rdG (by simp [hlk]) (by omega) (v := .bool a.bs[k]) (by simp [k1]) fun x hx => ⟨a.bs[k], hx, fun e => ?_, fun e => ?_⟩
    · refine hk'.rdG (by simp [hlk']) (by omega) (v := .bool b.bs[k]) (by simp [k2]) fun y hy => ⟨b.bs[k], hy, fun e' => yes (by rw [e, e']), fun e' => nay (by rw [e, e']; decide)⟩
    · refine hk'.rdG (by simp [hlk']) (by omega) (v := .bool b.bs[k]) (by simp [k2]) fun y hy => ⟨b.bs[k], hy, fun e' => nay (by rw [e, e']; decide), fun e' => yes (by rw [e, e'])⟩
  · have ebs : a.bs = b.bs := by
      rw [List.take_of_length_le (by omega), List.take_of_length_le (by omega)] at ht; exact ht
    refine ⟨fun ek => ?_, fun ek => no (fun h => ek (by rw [h])) w6 h6.gr⟩
    refine Ints_spec (args_sl h6 0 rfl) (args_sl h6 1 rfl) rfl rfl (by omega) fun w7 g7 => ⟨_, rfl, fun ex => ⟨h6.after g7, trivial, ?_⟩, fun ex => ⟨h6.after g7, trivial, no (fun h => ?_) w7 (h6.gr.trans g7)⟩⟩
    · have ex : [a.a1, a.a2, a.a3, a.a4, a.a5] = [b.a1, b.a2, b.a3, b.a4, b.a5] := of_decide_eq_true ex
      have g := h6.gr.trans g7
      refine Same_spec (he.grow g) (he'.grow g) hle hle' hb fun w8 g8 => ⟨_, rfl, fun ee => ⟨(h6.after g7).after g8, trivial, fun es => ?_, fun es => no (fun h => es (by rw [h])) w8 (g.trans g8)⟩,
        fun ee => ⟨(h6.after g7).after g8, trivial, no (fun h => by rw [h] at ee; simp at ee) w8 (g.trans g8)⟩⟩
      have ee : a.es = b.es := of_decide_eq_true ee
      have := hK w8 (g.trans g8)
      have hab : a = b := by
        cases a; cases b
        simp only [List.cons.injEq] at ex
        simp_all
      rwa [decide_eq_true hab] at this
    · rw [h] at ex; simp at ex
end Go.Vc
