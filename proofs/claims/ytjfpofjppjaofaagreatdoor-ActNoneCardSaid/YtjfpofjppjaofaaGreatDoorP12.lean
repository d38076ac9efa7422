/-
  A part of the proof of the statement ActNoneCardSaid, in Lean: Ac4, MirP14, Ac5, Ac6, He1, Ns, As1, As2, As3, As4, As5, As6, MirQ1, An1. By an AI agent.
-/
import Derived.Test.YtjfpofjppjaofaaGreatDoorP11
import Derived.Test.YtjfpofjppjaofaaGreatDoorP02
import Derived.Test.YtjfpofjppjaofaaGreatDoorP07
import Derived.Test.YtjfpofjppjaofaaGreatDoorP04
import Derived.MapKept
import Derived.WideKeyMaps
import Derived.WideKeyRuns
import Derived.WalkKit
import Derived.LaidEql
import Derived.Stop.Asserts
import Derived.RowKitTokens
set_option linter.unusedSimpArgs false
set_option linter.unusedVariables false
set_option maxRecDepth 100000
/-! A part of the proof that two events of one line are one event: the calculus that follows known memory by computing, and its soundness. By an AI agent. -/

namespace Go.Vc
open Go Go.MapKept
/-! ## an act: a tick -/
structure OutV where
  to : Int
  m : MsgV
def outC (o : OutV) : List Value := [.int .i64 o.to, .int .i64 o.m.kind, .int .i64 o.m.ver, .int .i64 o.m.i, .string o.m.text, .slice none 0 0]
theorem outC_len (o : OutV) : (outC o).length = 6 := rfl
theorem u_outs : PR.underlying T.sl_fetch_Out = some (.slice T.fetch_Out) := by kernel_rfl
theorem tyI_out : ∃ i z, PR.info? T.fetch_Out = some i ∧ i.size = 6 ∧ i.bytes = 72 ∧ i.zero = some z ∧ z.cells.size = 6 := by
  have h : (match PR.info? T.fetch_Out with | some i => i.size == 6 && i.bytes == 72 && (match i.zero with | some z => z.cells.size == 6 | _ => false) | none => false) = true := by kernel_rfl
  split at h
  · rename_i i hi
    simp only [Bool.and_eq_true, beq_iff_eq] at h
    have h2 := h.2
    split at h2
    · rename_i z hz
      exact ⟨i, z, hi, h.1.1, h.1.2, hz, by simpa using h2⟩
    · cases h2
  · cases h
theorem app_out {w : World} {q q2 : Option Addr} {l c l2 c2 : Nat} {xs ys : List OutV} {K : Value → World → Prop}
    (ho : Own T.fetch_Out 6 w q c (xs.flatMap outC)) (hl : l = xs.length) (hlc : l ≤ c) (hs : Sl w q2 (ys.flatMap outC)) (hl2 : l2 = ys.length) (hroom : l + l2 ≤ 1000000)
    (hK : ∀ q' c' w', Own T.fetch_Out 6 w' q' c' ((xs ++ ys).flatMap outC) → l + l2 ≤ c' → Chg (blkOf q) w w' → (∀ a, q' = some a → q = some a ∨ a = ⟨w.heap.size, 0, none⟩) → K (.slice q' (l + l2) c') w') :
    rn PR (Builtin.append_ #[T.sl_fetch_Out, T.sl_fetch_Out] T.sl_fetch_Out #[.slice q l c, .slice q2 l2 c2]) K w := by
  obtain ⟨i, z, hi, hk, hb, hz, hzs⟩ := tyI_out
  refine rn_sv <| sv_append' (i := i) (k := 6) (by_ := 72) u_outs u_outs hi hz hk hb hzs (by decide) ho (by rw [flatK_size outC_len, hl]) hlc hs (by rw [flatK_size outC_len, hl2]) (fun y hy => ?_) (by omega) fun q' c' w' h => hK q' c' w' (by rw [List.flatMap_append]; exact h)
  obtain ⟨m, _, hm⟩ := List.mem_flatMap.1 hy
  simp [outC] at hm
  rcases hm with rfl | rfl | rfl | rfl | rfl | rfl <;> rfl
/-- what is sent -/
def outN (s : ActS) (now : Int) : Nat → List OutV
  | 0 => []
  | k + 1 => outN s now k ++ (match s.reps[k]? with | some r => (saysL s r now).map fun m => ⟨((k + 1 : Nat) : Int), m⟩ | none => [])
theorem saysL_len (s : ActS) (r : Rp) (now : Int) : (saysL s r now).length ≤ 5 := by
  unfold saysL tellL comL
  rw [List.length_append, List.length_append]
  split <;> split <;> (try split) <;> simp
theorem outN_len (s : ActS) (now : Int) : ∀ k, (outN s now k).length ≤ 5 * k
  | 0 => Nat.le_refl _
  | k + 1 => by
    have := outN_len s now k
    rw [outN, List.length_append]
    split
    · rename_i r _
      have := saysL_len s r now
      rw [List.length_map]; omega
    · simp; omega
theorem Tick_spec {N : Nat} {w : World} {s : ActS} (h : ActAt N w s) (hN : N ≤ w.heap.size) {now : Int} (hn : 0 ≤ now ∧ now ≤ 1000000) (hd : ∀ r ∈ s.reps, 0 ≤ r.done) {K : Value → World → Prop}
    (h1 : ∀ w' q c, ¬ agrees s now → Grow w w' → Sl w' q ((outN s now s.reps.length).flatMap outC) → K (.tuple #[.slice q (outN s now s.reps.length).length c, .nilIface]) w')
    (h2 : ∀ w' s' q c, agrees s now → ActAt N w' s' → Chg s.x.reg w w' → s'.a = s.a → s'.reps = s.reps → s'.x.p = s.x.p → s'.x.last = s.x.last → s'.x.com = s.x.last → Sl w' q ((outN s' now s'.reps.length).flatMap outC) → K (.tuple #[.slice q (outN s' now s'.reps.length).length c, .nilIface]) w')
    (h3 : ∀ w' v, agrees s now → s.x.room < 20 → Grow w w' → isErr v → K (.tuple #[.slice none 0 0, v]) w') :
    CallV PR F.p_act_Act_Tick ⟨[.pointer (some ⟨s.a, 0, none⟩), .int .i64 now]⟩ w K := by
  have ha := heap_lt h.blk
  have h4 := h.n4
  obtain ⟨hsl, hsc, hsr⟩ := h.pub.small
  have h0 : Fs (fun k => k = s.a ∨ s.x.reg k) w [⟨s.a, actC s, T.act_Act, true⟩] w := (Fr.init _ w).entry h.blk (fun x h => by cases h) fun _ => .inl rfl
  refine act_Act_Tick s.a _ _ _ _ now (fun k => k = s.a ∨ s.x.reg k) K w h0 ⟨.inl rfl, trivial⟩ ?_
  refine agreed_spec h hn fun w0 t g0 ht => ⟨t, rfl, fun htt => ?_, fun htf => ?_⟩
  · have hag := ht.1 htt
    have htg := hag.1
    have hlt : s.x.com < s.x.last := by unfold ActS.tgt at htg; split at htg <;> omega
    have htl : s.tgt = s.x.last := by unfold ActS.tgt; rw [if_neg (by omega)]
    have hF0 := h0.after g0
    refine ⟨hF0, fun w1 hF1 => ?_⟩
    have g01 := g0.trans hF1.grow
    refine Target_spec (h.grow g01) fun w2 g2 => ⟨_, rfl, hF1.reset.after g2, ?_⟩
    have hF2 := hF1.reset.after g2
    have g02 := g01.trans g2
    have hp2 := h.pub.grow g02
    rw [htl]
    refine Commit_spec hp2 (by have := g02.size; omega) ⟨by omega, by omega⟩ (fun w3 x3 hx3 g3 f1 f2 f3 f4 f5 f6 f7 fr fm fl fx f8 => ?_) fun w3 v g3 hx3 hv hno => ?_
    · have hF3 := hF2.step g3 (fun y hy => by simp at hy; subst hy; exact h.off.1) (fun k _ e => .inr e)
      have h2' := h.grow g02
      have hlt2 := h.pub.lt
      have hbn := heap_lt h.row
      have s02 := g02.size
      have h3' : ActAt N w3 ⟨x3, s.a, s.bn, s.reps⟩ := by
        refine ⟨?_, g3.get h2'.row h.off.2, hx3, h.la, h.ln, h.n1, h.n4, ⟨fun e => ?_, fun e => ?_⟩, by show x3.ex s.bn; rw [fx]; exact h.ex⟩
        · have := g3.get h2'.blk h.off.1
          show w3.heap[s.a]? = some (.cells #[.pointer (some ⟨x3.p, 0, none⟩), .slice (some ⟨s.bn, 0, none⟩) s.reps.length s.reps.length] T.act_Act (0, 0))
          rw [f1]; exact this
        · rcases f8 _ e with e | e
          · exact h.off.1 e
          · have e' : w2.heap.size ≤ s.a := e; omega
        · rcases f8 _ e with e | e
          · exact h.off.2 e
          · have e' : w2.heap.size ≤ s.bn := e; omega
      refine ⟨_, rfl, hF3, fun _ => ?_, (fun t x h => by cases h), .inl rfl⟩
      have sz : w.heap.size ≤ w3.heap.size := by have := g3.size; omega
      have ha3 : s.a < w3.heap.size := by omega
      refine ⟨fun q l c i m w' => ∃ k : Nat, i = k ∧ k ≤ s.reps.length ∧ m = s.reps.length - k ∧ Own T.fetch_Out 6 w' q c ((outN (⟨x3, s.a, s.bn, s.reps⟩ : ActS) now k).flatMap outC) ∧ l = (outN (⟨x3, s.a, s.bn, s.reps⟩ : ActS) now k).length ∧ l ≤ c ∧ Off (fun j => j < w3.heap.size) q ∧ Grow w3 w', ⟨_, 0, rfl, by omega, rfl, .nil _ _ _, rfl, Nat.le_refl _, (fun a h => by cases h), .refl _ _⟩, ?_⟩
      rintro q l c i D m w4 ⟨k, rfl, hk, rfl, ho, rfl, hlc, of, gS⟩ hF4
      refine ⟨fun hlt => ?_, fun hge => ?_⟩
      · have hk' : k < s.reps.length := by omega
        refine (h3'.grow gS).sl.rdN rpC_len (by decide) rfl hk' hk' fun a hc => ?_
        have hkk : IntKind.wrap .i64 ((k : Int) + 1) = ((k + 1 : Nat) : Int) := by rw [w64 (by omega) (by omega)]; omega
        rw [hkk]
        refine ⟨_, hc 0 _ rfl, _, hc 1 _ rfl, _, hc 2 _ rfl, _, hc 3 _ rfl, _, hc 4 _ rfl, fun l4 hl4 w5 hF5 => ?_⟩
        have g45 : Grow w4 w5 := (hF5.unM hl4).grow
        have gS5 := gS.trans g45
        refine says_spec (h3'.grow gS5) (hd _ (List.getElem_mem hk')) fun w6 qs cs g6 hsay hqs => ⟨_, _, _, rfl, (hF5.unM hl4).after g6, ?_⟩
        have gS6 := gS5.trans g6
        have hnext : outN (⟨x3, s.a, s.bn, s.reps⟩ : ActS) now (k + 1) = outN (⟨x3, s.a, s.bn, s.reps⟩ : ActS) now k ++ (saysL (⟨x3, s.a, s.bn, s.reps⟩ : ActS) s.reps[k] now).map fun m => (⟨((k + 1 : Nat) : Int), m⟩ : OutV) := by
          show outN (⟨x3, s.a, s.bn, s.reps⟩ : ActS) now k ++ (match s.reps[k]? with | some r => (saysL (⟨x3, s.a, s.bn, s.reps⟩ : ActS) r now).map fun m => (⟨((k + 1 : Nat) : Int), m⟩ : OutV) | none => []) = _
          rw [List.getElem?_eq_getElem hk']
        have hsl5 := saysL_len (⟨x3, s.a, s.bn, s.reps⟩ : ActS) s.reps[k] now
        have hol := outN_len (⟨x3, s.a, s.bn, s.reps⟩ : ActS) now k
        generalize hM : saysL (⟨x3, s.a, s.bn, s.reps⟩ : ActS) s.reps[k] now = M at hsay hnext hsl5 ⊢
        refine ⟨fun q l c i m w' => ∃ j : Nat, i = j ∧ j ≤ M.length ∧ m = M.length - j ∧ Own T.fetch_Out 6 w' q c ((outN (⟨x3, s.a, s.bn, s.reps⟩ : ActS) now k ++ (M.take j).map fun m => (⟨((k + 1 : Nat) : Int), m⟩ : OutV)).flatMap outC) ∧ l = (outN (⟨x3, s.a, s.bn, s.reps⟩ : ActS) now k).length + j ∧ l ≤ c ∧ Off (fun j => j < w3.heap.size) q ∧ Grow w3 w' ∧ w6.heap.size ≤ w'.heap.size ∧ Sl w' qs (M.flatMap msgC) ∧ (∀ a b, q = some a → qs = some b → a.block ≠ b.block), ⟨_, 0, rfl, by omega, rfl, ?_, rfl, hlc, of, gS6, Nat.le_refl _, hsay, fun a b ha hb e => by have := ho.lt a ha; have := (hqs b hb).1; have := g45.size; omega⟩, ?_⟩
        · rw [List.take_zero, List.map_nil, List.append_nil]; exact ho.grow (g45.trans g6)
        · rintro q2 l2 c2 i D m w7 ⟨j, rfl, hj, rfl, ho7, rfl, hlc7, of7, gS7, s67, hsay7, hne7⟩ hF7
          refine ⟨fun hlt => ?_, fun hge => ?_⟩
          · have hj' : j < M.length := by omega
            refine hsay7.rdN msgC_len (by decide) rfl hj' hj' fun a hc => ?_
            refine ⟨_, hc 0 _ rfl, _, hc 1 _ rfl, _, hc 2 _ rfl, _, hc 3 _ rfl, _, _, _, hc 4 _ rfl, fun l13 hl13 l14 hl14 w8 hF8 => ?_⟩
            have hF8' := hF8.unM hl13
            refine app_out (ys := [(⟨((k + 1 : Nat) : Int), M[j]⟩ : OutV)]) (ho7.grow hF8'.grow) (by rw [List.length_append, List.length_map, List.length_take, Nat.min_eq_left hj]) hlc7 (hF8'.sl 2 rfl) rfl (by omega) fun q9 c9 w9 ho9 hc9 g9 hq9 => ?_
            have gS8 := gS7.trans hF8'.grow
            have gS9 : Grow w3 w9 := Chg.trans gS8 g9 fun i hi ⟨a, ha, e⟩ => by have := of7.le a ha; omega
            have sS := gS8.size
            have hF9 := hF8'.app2 g9 w3.heap.size w7.heap.size of7 (fun a ha => ho7.lt a ha) (fun x hx => by simp at hx; rcases hx with rfl | rfl | rfl; exact .inl (by simp only []; omega); exact .inr hl13; exact .inr hl14) sz
            have s78 := hF8'.grow.size
            have hsay9 := (hsay7.grow hF8'.grow).keep g9 (fun b hb ⟨a, ha, e⟩ => hne7 a b ha hb e.symm)
            have hne9 : ∀ a b, q9 = some a → qs = some b → a.block ≠ b.block := fun a b ha hb e => by
              rcases hq9 a ha with h' | h'
              · exact hne7 a b h' hb e
              · subst h'; have := (hqs b hb).2; simp only [] at e; omega
            refine ⟨_, _, _, rfl, hF9, M.length - (j + 1), by omega, j + 1, by rw [w64 (by omega) (by omega)]; rfl, by omega, rfl, ?_, by omega, hc9, of7.next hq9 sS, gS9, by have := g9.size; omega, hsay9, hne9⟩
            rw [List.take_succ_eq_append_getElem hj', List.map_append, ← List.append_assoc]; exact ho9
          · have : j = M.length := by omega
            subst this
            rw [List.take_length, ← hnext] at ho7
            exact ⟨s.reps.length - (k + 1), by omega, k + 1, rfl, by omega, rfl, ho7, by rw [hnext, List.length_append, List.length_map], hlc7, of7, gS7⟩
      · have : k = s.reps.length := by omega
        subst this
        exact h2 w4 ⟨x3, s.a, s.bn, s.reps⟩ q c hag (h3'.grow gS) ((g02.then g3).grow gS) rfl rfl f1 f4 (by show x3.com = s.x.last; omega) ho.sl
    · have hF3 := hF2.after g3
      obtain ⟨t, v, rfl⟩ := hv
      refine ⟨_, rfl, hF3, (fun h => by cases h), (fun t' v' he => h3 w3 _ hag ?_ (g02.trans g3) ⟨_, _, rfl⟩), .inr ⟨_, _, rfl⟩⟩
      rcases Nat.lt_or_ge s.x.room 20 with hr | hr
      · exact hr
      · exact absurd ⟨by omega, by omega, by omega, hr⟩ hno
  · have hna : ¬ agrees s now := fun hh => by rw [ht.2 hh] at htf; cases htf
    have hF0 := h0.after g0
    have h0' := h.grow g0
    have sz := g0.size
    have ha3 : s.a < w0.heap.size := by omega
    refine ⟨hF0, ?_⟩
    refine ⟨fun q l c i m w' => ∃ k : Nat, i = k ∧ k ≤ s.reps.length ∧ m = s.reps.length - k ∧ Own T.fetch_Out 6 w' q c ((outN s now k).flatMap outC) ∧ l = (outN s now k).length ∧ l ≤ c ∧ Off (fun j => j < w0.heap.size) q ∧ Grow w0 w', ⟨_, 0, rfl, by omega, rfl, .nil _ _ _, rfl, Nat.le_refl _, (fun a h => by cases h), .refl _ _⟩, ?_⟩
    rintro q l c i D m w4 ⟨k, rfl, hk, rfl, ho, rfl, hlc, of, gS⟩ hF4
    refine ⟨fun hlt => ?_, fun hge => ?_⟩
    · have hk' : k < s.reps.length := by omega
      refine (h0'.grow gS).sl.rdN rpC_len (by decide) rfl hk' hk' fun a hc => ?_
      have hkk : IntKind.wrap .i64 ((k : Int) + 1) = ((k + 1 : Nat) : Int) := by rw [w64 (by omega) (by omega)]; omega
      rw [hkk]
      refine ⟨_, hc 0 _ rfl, _, hc 1 _ rfl, _, hc 2 _ rfl, _, hc 3 _ rfl, _, hc 4 _ rfl, fun l4 hl4 w5 hF5 => ?_⟩
      have g45 : Grow w4 w5 := (hF5.unM hl4).grow
      have gS5 := gS.trans g45
      refine says_spec (h0'.grow gS5) (hd _ (List.getElem_mem hk')) fun w6 qs cs g6 hsay hqs => ⟨_, _, _, rfl, (hF5.unM hl4).after g6, ?_⟩
      have gS6 := gS5.trans g6
      have hnext : outN s now (k + 1) = outN s now k ++ (saysL s s.reps[k] now).map fun m => (⟨((k + 1 : Nat) : Int), m⟩ : OutV) := by
        show outN s now k ++ (match s.reps[k]? with | some r => (saysL s r now).map fun m => (⟨((k + 1 : Nat) : Int), m⟩ : OutV) | none => []) = _
        rw [List.getElem?_eq_getElem hk']
      have hsl5 := saysL_len s s.reps[k] now
      have hol := outN_len s now k
      generalize hM : saysL s s.reps[k] now = M at hsay hnext hsl5 ⊢
      refine ⟨fun q l c i m w' => ∃ j : Nat, i = j ∧ j ≤ M.length ∧ m = M.length - j ∧ Own T.fetch_Out 6 w' q c ((outN s now k ++ (M.take j).map fun m => (⟨((k + 1 : Nat) : Int), m⟩ : OutV)).flatMap outC) ∧ l = (outN s now k).length + j ∧ l ≤ c ∧ Off (fun j => j < w0.heap.size) q ∧ Grow w0 w' ∧ w6.heap.size ≤ w'.heap.size ∧ Sl w' qs (M.flatMap msgC) ∧ (∀ a b, q = some a → qs = some b → a.block ≠ b.block), ⟨_, 0, rfl, by omega, rfl, ?_, rfl, hlc, of, gS6, Nat.le_refl _, hsay, fun a b ha hb e => by have := ho.lt a ha; have := (hqs b hb).1; have := g45.size; omega⟩, ?_⟩
      · rw [List.take_zero, List.map_nil, List.append_nil]; exact ho.grow (g45.trans g6)
      · rintro q2 l2 c2 i D m w7 ⟨j, rfl, hj, rfl, ho7, rfl, hlc7, of7, gS7, s67, hsay7, hne7⟩ hF7
        refine ⟨fun hlt => ?_, fun hge => ?_⟩
        · have hj' : j < M.length := by omega
          refine hsay7.rdN msgC_len (by decide) rfl hj' hj' fun a hc => ?_
          refine ⟨_, hc 0 _ rfl, _, hc 1 _ rfl, _, hc 2 _ rfl, _, hc 3 _ rfl, _, _, _, hc 4 _ rfl, fun l13 hl13 l14 hl14 w8 hF8 => ?_⟩
          have hF8' := hF8.unM hl13
          refine app_out (ys := [(⟨((k + 1 : Nat) : Int), M[j]⟩ : OutV)]) (ho7.grow hF8'.grow) (by rw [List.length_append, List.length_map, List.length_take, Nat.min_eq_left hj]) hlc7 (hF8'.sl 2 rfl) rfl (by omega) fun q9 c9 w9 ho9 hc9 g9 hq9 => ?_
          have gS8 := gS7.trans hF8'.grow
          have gS9 : Grow w0 w9 := Chg.trans gS8 g9 fun i hi ⟨a, ha, e⟩ => by have := of7.le a ha; omega
          have sS := gS8.size
          have hF9 := hF8'.app2 g9 w0.heap.size w7.heap.size of7 (fun a ha => ho7.lt a ha) (fun x hx => by simp at hx; rcases hx with rfl | rfl | rfl; exact .inl (by simp only []; omega); exact .inr hl13; exact .inr hl14) sz
          have s78 := hF8'.grow.size
          have hsay9 := (hsay7.grow hF8'.grow).keep g9 (fun b hb ⟨a, ha, e⟩ => hne7 a b ha hb e.symm)
          have hne9 : ∀ a b, q9 = some a → qs = some b → a.block ≠ b.block := fun a b ha hb e => by
            rcases hq9 a ha with h' | h'
            · exact hne7 a b h' hb e
            · subst h'; have := (hqs b hb).2; simp only [] at e; omega
          refine ⟨_, _, _, rfl, hF9, M.length - (j + 1), by omega, j + 1, by rw [w64 (by omega) (by omega)]; rfl, by omega, rfl, ?_, by omega, hc9, of7.next hq9 sS, gS9, by have := g9.size; omega, hsay9, hne9⟩
          rw [List.take_succ_eq_append_getElem hj', List.map_append, ← List.append_assoc]; exact ho9
        · have : j = M.length := by omega
          subst this
          rw [List.take_length, ← hnext] at ho7
          exact ⟨s.reps.length - (k + 1), by omega, k + 1, rfl, by omega, rfl, ho7, by rw [hnext, List.length_append, List.length_map], hlc7, of7, gS7⟩
    · have : k = s.reps.length := by omega
      subst this
      exact h1 w4 q c hna (g0.trans gS) ho.sl
end Go.Vc

/-! A part of the proof that two events of one line are one event: the calculus that follows known memory by computing, and its soundness. By an AI agent. -/


namespace Go.Vc
open Go
/-! P14: conditions printed by a program of ours, checked by the kernel -/
/-- (*lading/act.noted).note -/
theorem noted_note_g (p0 : Option Addr) (m1 : Int) (m2 : Int) (m3 : Int) (z4 : ByteArray) (y5 : Option Addr) (ly5 : Nat) (cy5 : Nat) (S : Nat → Prop) (K : Value → World → Prop) (w : World) (h : ∀ l0 : Nat, w.heap.size ≤ l0 → (m1 = 11 → Dr p0 (fun a0 => ∀ w0 : World, Fr S w w [] ([⟨l0, #[.int .i64 m1, .int .i64 m2, .int .i64 m3, .string z4, .slice y5 ly5 cy5], 25, true⟩]) w0 → Dr (some a0) (fun a1 => StC w0 (Addr.add a1 0) (.int .i64 m2) (fun w1 => StC w1 (Addr.add a1 1) (.int .i64 m2) (fun w2 => StC w2 (Addr.add a1 2) (.int .i64 m2) (fun w3 => StC w3 (Addr.add a1 3) (.bool false) (fun w4 => StC w4 (Addr.add a1 4) (.int .i64 0) (fun w5 => Fs S w ([⟨l0, #[.int .i64 m1, .int .i64 m2, .int .i64 m3, .string z4, .slice y5 ly5 cy5], 25, true⟩]) w5 ∧ K (.bool true) w5)))))))) ∧ (¬ (m1 = 11) → (m1 = 9 → ∀ w6 : World, Fr S w w [] ([⟨l0, #[.int .i64 m1, .int .i64 m2, .int .i64 m3, .string z4, .slice y5 ly5 cy5], 25, true⟩]) w6 → ∃ I0 : World → Prop, I0 w6 ∧ Dr p0 (fun a2 => Dr (some a2) (fun a3 => Dr (some (Addr.add a3 2)) (fun a4 => ∃ n0 : Int, (∀ w7 : World, I0 w7 → (World.cell? w7 a4 : Option Value) = some (.int .i64 n0)) ∧ Dr p0 (fun a5 => Dr (some a5) (fun a6 => Dr (some (Addr.add a6 2)) (fun a7 => StC w6 a7 (.int .i64 ((if m2 > n0 then m2 else n0))) (fun w8 => Fs S w ([⟨l0, #[.int .i64 m1, .int .i64 m2, .int .i64 m3, .string z4, .slice y5 ly5 cy5], 25, true⟩]) w8 ∧ ∀ w9 : World, Fr S w w8 [] ([⟨l0, #[.int .i64 m1, .int .i64 m2, .int .i64 m3, .string z4, .slice y5 ly5 cy5], 25, true⟩]) w9 → ∃ I1 : World → Prop, I1 w9 ∧ Dr p0 (fun a8 => Dr (some a8) (fun a9 => Dr (some (Addr.add a9 1)) (fun a10 => ∃ n1 : Int, (∀ w10 : World, I1 w10 → (World.cell? w10 a10 : Option Value) = some (.int .i64 n1)) ∧ Dr p0 (fun a11 => Dr (some a11) (fun a12 => Dr (some (Addr.add a12 1)) (fun a13 => StC w9 a13 (.int .i64 ((if m2 > n1 then m2 else n1))) (fun w11 => Fs S w ([⟨l0, #[.int .i64 m1, .int .i64 m2, .int .i64 m3, .string z4, .slice y5 ly5 cy5], 25, true⟩]) w11 ∧ ∀ w12 : World, Fr S w w11 [] ([⟨l0, #[.int .i64 m1, .int .i64 m2, .int .i64 m3, .string z4, .slice y5 ly5 cy5], 25, true⟩]) w12 → ∃ I2 : World → Prop, I2 w12 ∧ Dr p0 (fun a14 => Dr (some a14) (fun a15 => Dr (some (Addr.add a15 0)) (fun a16 => ∃ n2 : Int, (∀ w13 : World, I2 w13 → (World.cell? w13 a16 : Option Value) = some (.int .i64 n2)) ∧ Dr p0 (fun a17 => Dr (some a17) (fun a18 => Dr (some (Addr.add a18 0)) (fun a19 => StC w12 a19 (.int .i64 ((if m2 > n2 then m2 else n2))) (fun w14 => Fs S w ([⟨l0, #[.int .i64 m1, .int .i64 m2, .int .i64 m3, .string z4, .slice y5 ly5 cy5], 25, true⟩]) w14 ∧ K (.bool true) w14)))))))))))))))))))))) ∧ (¬ (m1 = 9) → (m1 = 7 → ∀ w15 : World, Fr S w w [] ([⟨l0, #[.int .i64 m1, .int .i64 m2, .int .i64 m3, .string z4, .slice y5 ly5 cy5], 25, true⟩]) w15 → ∃ I3 : World → Prop, I3 w15 ∧ Dr p0 (fun a20 => Dr (some a20) (fun a21 => Dr (some (Addr.add a21 1)) (fun a22 => ∃ n3 : Int, (∀ w16 : World, I3 w16 → (World.cell? w16 a22 : Option Value) = some (.int .i64 n3)) ∧ Dr p0 (fun a23 => Dr (some a23) (fun a24 => Dr (some (Addr.add a24 1)) (fun a25 => StC w15 a25 (.int .i64 ((if m2 > n3 then m2 else n3))) (fun w17 => Fs S w ([⟨l0, #[.int .i64 m1, .int .i64 m2, .int .i64 m3, .string z4, .slice y5 ly5 cy5], 25, true⟩]) w17 ∧ ∀ w18 : World, Fr S w w17 [] ([⟨l0, #[.int .i64 m1, .int .i64 m2, .int .i64 m3, .string z4, .slice y5 ly5 cy5], 25, true⟩]) w18 → ∃ I4 : World → Prop, I4 w18 ∧ Dr p0 (fun a26 => Dr (some a26) (fun a27 => Dr (some (Addr.add a27 0)) (fun a28 => ∃ n4 : Int, (∀ w19 : World, I4 w19 → (World.cell? w19 a28 : Option Value) = some (.int .i64 n4)) ∧ Dr p0 (fun a29 => Dr (some a29) (fun a30 => Dr (some (Addr.add a30 0)) (fun a31 => StC w18 a31 (.int .i64 ((if m2 > n4 then m2 else n4))) (fun w20 => Fs S w ([⟨l0, #[.int .i64 m1, .int .i64 m2, .int .i64 m3, .string z4, .slice y5 ly5 cy5], 25, true⟩]) w20 ∧ K (.bool true) w20))))))))))))))) ∧ (¬ (m1 = 7) → (m1 = 5 → ∀ w21 : World, Fr S w w [] ([⟨l0, #[.int .i64 m1, .int .i64 m2, .int .i64 m3, .string z4, .slice y5 ly5 cy5], 25, true⟩]) w21 → ∃ I5 : World → Prop, I5 w21 ∧ Dr p0 (fun a32 => Dr (some a32) (fun a33 => Dr (some (Addr.add a33 0)) (fun a34 => ∃ n5 : Int, (∀ w22 : World, I5 w22 → (World.cell? w22 a34 : Option Value) = some (.int .i64 n5)) ∧ Dr p0 (fun a35 => Dr (some a35) (fun a36 => Dr (some (Addr.add a36 0)) (fun a37 => StC w21 a37 (.int .i64 ((if m2 > n5 then m2 else n5))) (fun w23 => Fs S w ([⟨l0, #[.int .i64 m1, .int .i64 m2, .int .i64 m3, .string z4, .slice y5 ly5 cy5], 25, true⟩]) w23 ∧ K (.bool true) w23)))))))) ∧ (¬ (m1 = 5) → (m1 = 2 → ∀ w24 : World, Fr S w w [] [] w24 → K (.bool true) w24) ∧ (¬ (m1 = 2) → ∀ w25 : World, Fr S w w [] [] w25 → K (.bool false) w25)))))) : CallV Go.Proofs.Tryz.prog 26 ⟨[.pointer p0, .agg #[.int .i64 m1, .int .i64 m2, .int .i64 m3, .string z4, .slice y5 ly5 cy5]]⟩ w K :=
  call_of_vc3 (okf := ⟨okL, []⟩) okL_ok (args := [.c (.v (.pointer p0)), .a [.v (.int .i64 m1), .v (.int .i64 m2), .v (.int .i64 m3), .v (.string z4), .v (.slice y5 ly5 cy5)]]) (H := []) (.s (.r ⟨(some []), true, [], []⟩) (.s (.s .z (.b (.s (.b (.s (.b (.s (.b (.s (.b (.s (.b (.s .z (.s (.r ⟨(some [3]), true, [], []⟩) .z))) (.r ⟨(some [3]), true, [], []⟩))) (.r ⟨(some [3]), true, [], []⟩))) (.s (.r ⟨(some [3]), true, [], []⟩) .z))) .z)) .z))) .z)) Go.Proofs.Tryz.func26 rfl ⟨trivial, ⟨trivial, trivial, trivial, trivial, trivial, trivial⟩, trivial⟩ trivial (Fr.init S w) trivial (cast_vc (by kernel_rfl) h)


end Go.Vc

/-! A part of the proof that two events of one line are one event: the calculus that follows known memory by computing, and its soundness. By an AI agent. -/


namespace Go.Vc
open Go Go.MapKept
/-! ## an act: it is made; what is heard -/
def rp0 : Rp := ⟨0, 0, 0, false, 0⟩
theorem u_noteds : PR.underlying T.sl_act_noted = some (.slice T.act_noted) := by kernel_rfl
theorem tyI_noted : ∃ i, PR.info? T.act_noted = some i ∧ i.size = 5 ∧ i.bytes = 40 ∧ i.zero = some (.agg #[.int .i64 0, .int .i64 0, .int .i64 0, .bool false, .int .i64 0]) := by
  have h : (match PR.info? T.act_noted with | some i => i.size == 5 && i.bytes == 40 && (match i.zero with | some (.agg ⟨[.int .i64 0, .int .i64 0, .int .i64 0, .bool false, .int .i64 0]⟩) => true | _ => false) | none => false) = true := by kernel_rfl
  split at h
  · rename_i i hi
    simp only [Bool.and_eq_true, beq_iff_eq] at h
    refine ⟨i, hi, h.1.1, h.1.2, ?_⟩
    have h2 := h.2
    split at h2
    · assumption
    · cases h2
  · cases h
theorem makeNoted {n : Nat} (h1 : 1 ≤ n) (h4 : n ≤ 4) {w : World} {K : Value → World → Prop}
    (hK : ∀ b w', b = w.heap.size → Grow w w' → w'.heap[b]? = some (.cells ((List.replicate n rp0).flatMap rpC).toArray T.act_noted (0, 0)) → K (.slice (some ⟨b, 0, none⟩) n n) w') :
    rn PR (Instr.makeSlice T.sl_act_noted (.int .i64 (n : Int)) (.int .i64 (n : Int))) K w := by
  obtain ⟨i, hi, hk, hb, hz⟩ := tyI_noted
  refine rn_sv ?_
  have hw := wrap_id (n := (n : Int)) (by omega) (by omega)
  have hlt : ¬ ((i.bytes : Int) * n > 2 ^ 48) := by
    have : (2 : Int) ^ 48 = 281474976710656 := by decide
    rw [hb]; omega
  unfold Instr.makeSlice
  simp only [sv_bind, sv_underlying u_noteds, asInt, asIntOf, sv_pure, sv_typeInfo hi, hw, sv_ite, sv_askRoom, sv_sizeOf hi, hk]
  have e1 : ¬ (n : Int) < 0 := by omega
  have e2 : ¬ (n : Int) > n := by omega
  simp only [e1, e2, hlt, decide_false, Bool.or_self, Bool.false_eq_true, if_false, Int.toNat_natCast]
  have key : ∀ (cs : Array Value), cs = ((List.replicate n rp0).flatMap rpC).toArray → sv PR (newRow T.act_noted cs) (fun a w => K (.slice (some a) n n) w) w := by
    intro cs hcs
    subst hcs
    unfold newRow
    rw [sv_bind, sv_newObj]
    exact newV fun b w' hb hb' hs g => hK b w' hb g hb'
  rw [if_neg (by omega), sv_zeroValue hi hz]
  refine key _ ?_
  have : n = 1 ∨ n = 2 ∨ n = 3 ∨ n = 4 := by omega
  rcases this with rfl | rfl | rfl | rfl <;> (apply Array.toList_inj.1; rw [Array.toList_map, Array.toList_range]; rfl)
theorem New_spec {N : Nat} {w : World} {x : PubS} (h : PubAt N w x) (hN : N ≤ w.heap.size) {n : Int} {K : Value → World → Prop}
    (h1 : ∀ w' s (k : Nat), n = k → 1 ≤ k → k ≤ 4 → Grow w w' → ActAt N w' s → s.x = { x with ex := fun k => k = s.bn } → s.reps = List.replicate k rp0 → w.heap.size ≤ s.a → w.heap.size ≤ s.bn → K (.tuple #[.pointer (some ⟨s.a, 0, none⟩), .nilIface]) w')
    (h2 : n < 1 ∨ 4 < n → K (.tuple #[.pointer none, .iface T.api_Errno (.int .i64 1)]) w) : CallV PR F.act_New ⟨[.pointer (some ⟨x.p, 0, none⟩), .int .i64 n]⟩ w K := by
  refine act_New' (some ⟨x.p, 0, none⟩) n S0 K w ⟨(fun h => by cases h), fun a ha => ⟨fun h => h2 (.inl h), fun hge => ⟨fun h => h2 (.inr (by omega)), fun hle => ?_⟩⟩⟩
  obtain ⟨k, rfl⟩ := Int.eq_ofNat_of_zero_le (a := n) (by omega)
  refine makeNoted (by omega) (by omega) fun b w1 hb g1 hbb => ⟨_, _, _, rfl, (Fr.init _ w).after g1, fun l2 hl2 w2 hF2 => ?_⟩
  have g2 : Grow w1 w2 := hF2.grow
  have g12 := g1.trans g2
  have s1 := g1.size
  have hlt := h.lt
  have hp2 := h.grow g12
  have hbl : b < w2.heap.size := by have := g2.size; have := heap_lt hbb; omega
  have hx' : PubAt N w2 { x with ex := fun k => k = b } := by
    refine ⟨hp2.blk, hp2.jrn, hp2.map, fun k v hr => ?_, hp2.has, hp2.com_le, hp2.last_le, hp2.room, hp2.each1, hp2.each2, hp2.lo, fun k hk => by have hk' : k = b := hk; omega, hp2.only, hp2.rep⟩
    exact (h.kept k v hr).keep g12 (fun _ _ e => e.elim) (fun k hk e => e.elim .inl fun e => by have e' : k = b := e; omega) (Nat.le_refl _)
  refine h1 w2 ⟨{ x with ex := fun k => k = b }, l2, b, List.replicate k rp0⟩ k rfl (by omega) (by omega) g12 ⟨?_, Grow.get g2 hbb, hx', by show N ≤ l2; omega, by show N ≤ b; omega, by rw [List.length_replicate]; omega, by rw [List.length_replicate]; omega, ⟨fun e => ?_, fun e => ?_⟩, rfl⟩ rfl rfl (by show w.heap.size ≤ l2; omega) (by show w.heap.size ≤ b; omega)
  · have := hF2.blk 0 rfl
    show w2.heap[l2]? = some (.cells #[.pointer (some ⟨x.p, 0, none⟩), .slice (some ⟨b, 0, none⟩) (List.replicate k rp0).length (List.replicate k rp0).length] T.act_Act (0, 0))
    rw [List.length_replicate]; exact this
  · have := hlt _ e; simp only [] at this; omega
  · have := hlt _ e; simp only [] at this; omega
/-- what is noted behind a message -/
def hearR (r : Rp) (kind ver : Int) : Rp :=
  if kind = 11 then ⟨ver, ver, ver, false, 0⟩
  else if kind = 9 then { r with ready := if ver > r.ready then ver else r.ready, prepared := if ver > r.prepared then ver else r.prepared, done := if ver > r.done then ver else r.done }
  else if kind = 7 then { r with ready := if ver > r.ready then ver else r.ready, prepared := if ver > r.prepared then ver else r.prepared }
  else if kind = 5 then { r with ready := if ver > r.ready then ver else r.ready }
  else r
def hears (kind : Int) : Bool := kind == 11 || kind == 9 || kind == 7 || kind == 5 || kind == 2
theorem flat_set {j i : Nat} {v : Value} {r' : Rp} : ∀ {reps : List Rp}, (hj : j < reps.length) → i < 5 → rpC r' = (rpC reps[j]).set i v → (reps.flatMap rpC).set (j * 5 + i) v = (reps.set j r').flatMap rpC := by
  induction j with
  | zero =>
    intro reps hj hi hr
    match reps, hj with
    | r :: l, _ =>
      rw [List.flatMap_cons, List.set_append_left _ _ (by rw [rpC_len]; omega), Nat.zero_mul, Nat.zero_add]
      show _ = rpC r' ++ l.flatMap rpC
      rw [hr]; rfl
  | succ j ih =>
    intro reps hj hi hr
    match reps, hj with
    | r :: l, hj =>
      have hj' : j < l.length := by simpa using hj
      have e : (j + 1) * 5 + i = 5 + (j * 5 + i) := by omega
      rw [List.flatMap_cons, e, List.set_append_right _ _ (by rw [rpC_len]; omega), rpC_len, Nat.add_sub_cancel_left, ih hj' hi hr]
      rfl
theorem stRep {w : World} {bn j i : Nat} {reps : List Rp} {r r' : Rp} {v : Value} (hb : w.heap[bn]? = some (.cells ((reps.set j r).flatMap rpC).toArray T.act_noted (0, 0))) (hj : j < reps.length) (hi : i < 5) (hr : rpC r' = (rpC r).set i v) (hv : oneC v = true) {K : World → Prop}
    (hK : ∀ w', w'.heap[bn]? = some (.cells ((reps.set j r').flatMap rpC).toArray T.act_noted (0, 0)) → Chg (· = bn) w w' → K w') : StC w ((⟨bn, j * 5, none⟩ : Addr).add i) v K := by
  rw [add_mk]
  have hjs : j < (reps.set j r).length := by rw [List.length_set]; exact hj
  have hlen : j * 5 + i < ((reps.set j r).flatMap rpC).length := by
    rw [flatK_size rpC_len]; omega
  have hs := flat_set (reps := reps.set j r) (r' := r') hjs hi (by rw [List.getElem_set_self]; exact hr)
  rw [List.set_set] at hs
  refine stC hb (by rw [List.size_toArray]; exact hlen) hv fun w' hw' _ g => hK w' ?_ g
  rw [hw', ← hs]
  simp
theorem repCell {w : World} {bn j i : Nat} {reps : List Rp} {r : Rp} {v : Value} (hb : w.heap[bn]? = some (.cells ((reps.set j r).flatMap rpC).toArray T.act_noted (0, 0))) (hj : j < reps.length) (hi : i < 5) (hv : (rpC r)[i]? = some v) : w.cell? ((⟨bn, j * 5, none⟩ : Addr).add i) = some v := by
  have hjs : j < (reps.set j r).length := by rw [List.length_set]; exact hj
  rw [add_mk, cell_blk hb, List.getElem?_toArray, flatK_at rpC_len hjs hi, List.getElem_set_self, hv]
theorem note_spec {w : World} {bn j : Nat} {reps : List Rp} {r : Rp} (hb : w.heap[bn]? = some (.cells ((reps.set j r).flatMap rpC).toArray T.act_noted (0, 0))) (hj : j < reps.length) {kind ver i : Int} {z : ByteArray} {y : Option Addr} {ly cy : Nat} {K : Value → World → Prop}
    (hK : ∀ w', w'.heap[bn]? = some (.cells ((reps.set j (hearR r kind ver)).flatMap rpC).toArray T.act_noted (0, 0)) → Chg (· = bn) w w' → K (.bool (hears kind)) w') :
    CallV PR F.p_act_noted_note ⟨[.pointer (some ⟨bn, j * 5, none⟩), .agg #[.int .i64 kind, .int .i64 ver, .int .i64 i, .string z, .slice y ly cy]]⟩ w K := by
  have hbl := heap_lt hb
  refine noted_note_g (some ⟨bn, j * 5, none⟩) kind ver i z y ly cy (· = bn) K w fun l0 hl0 => ?_
  have hne : ∀ x ∈ [(⟨l0, #[.int .i64 kind, .int .i64 ver, .int .i64 i, .string z, .slice y ly cy], T.msg_Msg, true⟩ : Blk)], ¬ x.b = bn := fun x hx e => by simp at hx; subst hx; simp only [] at e; omega
  refine ⟨fun h11 => Dr_some.2 fun w0 hF0 => Dr_some.2 ?_, fun h11 => ⟨fun h9 w0 hF0 => ?_, fun h9 => ⟨fun h7 w0 hF0 => ?_, fun h7 => ⟨fun h5 w0 hF0 => ?_, fun h5 => ⟨fun h2 w0 hF0 => ?_, fun h2 w0 hF0 => ?_⟩⟩⟩⟩⟩
  · have g0 : Grow w w0 := hF0.grow
    refine stRep (r' := ⟨ver, r.prepared, r.done, r.heard, r.at_⟩) (Grow.get g0 hb) hj (by decide) rfl rfl fun w1 b1 g1 => ?_
    refine stRep (r' := ⟨ver, ver, r.done, r.heard, r.at_⟩) b1 hj (by decide) rfl rfl fun w2 b2 g2 => ?_
    refine stRep (r' := ⟨ver, ver, ver, r.heard, r.at_⟩) b2 hj (by decide) rfl rfl fun w3 b3 g3 => ?_
    refine stRep (r' := ⟨ver, ver, ver, false, r.at_⟩) b3 hj (by decide) rfl rfl fun w4 b4 g4 => ?_
    refine stRep (r' := ⟨ver, ver, ver, false, 0⟩) b4 hj (by decide) rfl rfl fun w5 b5 g5 => ?_
    have hF5 := ((((hF0.step g1 hne fun _ _ e => e).step g2 hne fun _ _ e => e).step g3 hne fun _ _ e => e).step g4 hne fun _ _ e => e).step g5 hne fun _ _ e => e
    subst h11
    exact ⟨hF5, hK w5 (by rw [hearR, if_pos rfl]; exact b5) hF5.chg⟩
  · have g0 : Grow w w0 := hF0.grow
    have b0 := Grow.get g0 hb
    refine ⟨(· = w0), rfl, Dr_some.2 (Dr_some.2 (Dr_some.2 ⟨r.done, fun w' e => e ▸ repCell b0 hj (by decide) rfl, Dr_some.2 (Dr_some.2 (Dr_some.2 ?_))⟩))⟩
    refine stRep (r' := { r with done := if ver > r.done then ver else r.done }) b0 hj (by decide) rfl rfl fun w1 b1 g1 => ?_
    have hF1 := hF0.step g1 hne fun _ _ e => e
    refine ⟨hF1, fun w2 hF2 => ?_⟩
    have b2 := Grow.get hF2.grow b1
    refine ⟨(· = w2), rfl, Dr_some.2 (Dr_some.2 (Dr_some.2 ⟨r.prepared, fun w' e => e ▸ repCell b2 hj (by decide) rfl, Dr_some.2 (Dr_some.2 (Dr_some.2 ?_))⟩))⟩
    refine stRep (r' := { r with done := if ver > r.done then ver else r.done, prepared := if ver > r.prepared then ver else r.prepared }) b2 hj (by decide) rfl rfl fun w3 b3 g3 => ?_
    have hF3 := hF2.step g3 hne fun _ _ e => e
    refine ⟨hF3, fun w4 hF4 => ?_⟩
    have b4 := Grow.get hF4.grow b3
    refine ⟨(· = w4), rfl, Dr_some.2 (Dr_some.2 (Dr_some.2 ⟨r.ready, fun w' e => e ▸ repCell b4 hj (by decide) rfl, Dr_some.2 (Dr_some.2 (Dr_some.2 ?_))⟩))⟩
    refine stRep (r' := { r with done := if ver > r.done then ver else r.done, prepared := if ver > r.prepared then ver else r.prepared, ready := if ver > r.ready then ver else r.ready }) b4 hj (by decide) rfl rfl fun w5 b5 g5 => ?_
    have hF5 := hF4.step g5 hne fun _ _ e => e
    subst h9
    exact ⟨hF5, hK w5 (by rw [hearR, if_neg h11, if_pos rfl]; exact b5) hF5.chg⟩
  · have g0 : Grow w w0 := hF0.grow
    have b0 := Grow.get g0 hb
    refine ⟨(· = w0), rfl, Dr_some.2 (Dr_some.2 (Dr_some.2 ⟨r.prepared, fun w' e => e ▸ repCell b0 hj (by decide) rfl, Dr_some.2 (Dr_some.2 (Dr_some.2 ?_))⟩))⟩
    refine stRep (r' := { r with prepared := if ver > r.prepared then ver else r.prepared }) b0 hj (by decide) rfl rfl fun w3 b3 g3 => ?_
    have hF3 := hF0.step g3 hne fun _ _ e => e
    refine ⟨hF3, fun w4 hF4 => ?_⟩
    have b4 := Grow.get hF4.grow b3
    refine ⟨(· = w4), rfl, Dr_some.2 (Dr_some.2 (Dr_some.2 ⟨r.ready, fun w' e => e ▸ repCell b4 hj (by decide) rfl, Dr_some.2 (Dr_some.2 (Dr_some.2 ?_))⟩))⟩
    refine stRep (r' := { r with prepared := if ver > r.prepared then ver else r.prepared, ready := if ver > r.ready then ver else r.ready }) b4 hj (by decide) rfl rfl fun w5 b5 g5 => ?_
    have hF5 := hF4.step g5 hne fun _ _ e => e
    subst h7
    exact ⟨hF5, hK w5 (by rw [hearR, if_neg h11, if_neg h9, if_pos rfl]; exact b5) hF5.chg⟩
  · have g0 : Grow w w0 := hF0.grow
    have b0 := Grow.get g0 hb
    refine ⟨(· = w0), rfl, Dr_some.2 (Dr_some.2 (Dr_some.2 ⟨r.ready, fun w' e => e ▸ repCell b0 hj (by decide) rfl, Dr_some.2 (Dr_some.2 (Dr_some.2 ?_))⟩))⟩
    refine stRep (r' := { r with ready := if ver > r.ready then ver else r.ready }) b0 hj (by decide) rfl rfl fun w5 b5 g5 => ?_
    have hF5 := hF0.step g5 hne fun _ _ e => e
    subst h5
    exact ⟨hF5, hK w5 (by rw [hearR, if_neg h11, if_neg h9, if_neg h7, if_pos rfl]; exact b5) hF5.chg⟩
  · subst h2
    exact hK w0 (by rw [hearR, if_neg h11, if_neg h9, if_neg h7, if_neg h5]; exact Grow.get hF0.grow hb) hF0.chg
  · have e : hears kind = false := by simp [hears, h11, h9, h7, h5, h2]
    have := hK w0 (by rw [hearR, if_neg h11, if_neg h9, if_neg h7, if_neg h5]; exact Grow.get hF0.grow hb) hF0.chg
    rw [e] at this; exact this
end Go.Vc

/-! A part of the proof that two events of one line are one event: the calculus that follows known memory by computing, and its soundness. By an AI agent. -/

namespace Go.Vc
open Go Go.MapKept
/-! ## an act: hearing; the example -/
/-- what is noted of one that says something -/
def heardR (r : Rp) (kind ver now : Int) : Rp := if hears kind then { hearR r kind ver with heard := true, at_ := now } else hearR r kind ver
theorem Hear_spec {N : Nat} {w : World} {s : ActS} (h : ActAt N w s) {j : Nat} (hj : j < s.reps.length) {kind ver i now : Int} (h2 : kind ≠ 2) {z : ByteArray} {y : Option Addr} {ly cy : Nat} {K : Value → World → Prop}
    (hK : ∀ w' s', ActAt N w' s' → Chg (· = s.bn) w w' → s'.a = s.a → s'.bn = s.bn → s'.x = s.x → s'.reps = s.reps.set j (heardR s.reps[j] kind ver now) → K (.tuple #[.slice none 0 0, .nilIface]) w') :
    CallV PR F.p_act_Act_Hear ⟨[.pointer (some ⟨s.a, 0, none⟩), .int .i64 ((j + 1 : Nat) : Int), .agg #[.int .i64 kind, .int .i64 ver, .int .i64 i, .string z, .slice y ly cy], .int .i64 now]⟩ w K := by
  have h4 := h.n4
  have ha := heap_lt h.blk
  have hbl := heap_lt h.row
  have hab : s.a ≠ s.bn := cellsNe h.blk h.row (by decide)
  have h0 : Fs (fun k => k = s.a ∨ k = s.bn) w [⟨s.a, actC s, T.act_Act, true⟩] w := (Fr.init _ w).entry h.blk (fun x h => by cases h) fun _ => .inl rfl
  refine act_Act_Hear s.a _ _ _ _ ((j + 1 : Nat) : Int) kind ver i z y ly cy now (fun k => k = s.a ∨ k = s.bn) K w h0 ⟨.inl rfl, trivial⟩ fun l0 hl0 => ⟨fun h => by omega, fun _ => ⟨fun h => by omega, fun _ => ?_⟩⟩
  have ej : IntKind.wrap .i64 (((j + 1 : Nat) : Int) - 1) = (j : Int) := by rw [w64 (by omega) (by omega)]; omega
  rw [ej]
  refine Dr_some.2 ⟨by omega, by omega, fun w2 hF2 => ?_⟩
  have g2 : Grow w w2 := hF2.grow
  rw [add_mk, Int.toNat_natCast, Nat.zero_add]
  have hb0 : w2.heap[s.bn]? = some (.cells ((s.reps.set j s.reps[j]).flatMap rpC).toArray T.act_noted (0, 0)) := by
    rw [List.set_getElem_self]; exact Grow.get g2 h.row
  have hoff : ∀ x ∈ [(⟨s.a, actC s, T.act_Act, true⟩ : Blk), ⟨l0, #[.int .i64 kind, .int .i64 ver, .int .i64 i, .string z, .slice y ly cy], T.msg_Msg, true⟩], ¬ x.b = s.bn := fun x hx e => by
    simp at hx; rcases hx with rfl | rfl
    · exact hab e
    · simp only [] at e; omega
  -- the end
  have fin : ∀ {w' : World} {r' : Rp}, Chg (· = s.bn) w w' → w'.heap[s.bn]? = some (.cells ((s.reps.set j r').flatMap rpC).toArray T.act_noted (0, 0)) → ActAt N w' ⟨s.x, s.a, s.bn, s.reps.set j r'⟩ := fun {w' r'} g hb => by
    refine ⟨?_, hb, h.pub.keepEx g (fun k e => by subst e; exact h.ex) (fun k e => by subst e; exact h.off.2), h.la, h.ln, by rw [List.length_set]; exact h.n1, by rw [List.length_set]; exact h.n4, h.off, h.ex⟩
    have := g.get h.blk hab
    show w'.heap[s.a]? = some (.cells #[.pointer (some ⟨s.x.p, 0, none⟩), .slice (some ⟨s.bn, 0, none⟩) (s.reps.set j r').length (s.reps.set j r').length] T.act_Act (0, 0))
    rw [List.length_set]; exact this
  refine note_spec hb0 hj fun w3 hb3 g3 => ⟨_, rfl, fun hh => ?_, fun hh => ?_⟩
  · have hF3 := hF2.step g3 hoff fun k _ e => .inr e
    refine ⟨hF3, Dr_some.2 (Dr_some.2 (Dr_some.2 ?_))⟩
    refine stRep (r' := { hearR s.reps[j] kind ver with heard := true }) hb3 hj (by decide) rfl rfl fun w4 hb4 g4 => ?_
    have hF4 := hF3.step g4 hoff fun k _ e => .inr e
    refine ⟨hF4, Dr_some.2 (Dr_some.2 (Dr_some.2 ?_))⟩
    refine stRep (r' := { hearR s.reps[j] kind ver with heard := true, at_ := now }) hb4 hj (by decide) rfl rfl fun w5 hb5 g5 => ?_
    have hF5 := hF4.step g5 hoff fun k _ e => .inr e
    have g := ((g2.then g3).trans g4 fun _ _ e => e).trans g5 fun _ _ e => e
    exact ⟨hF5, fun e => absurd e h2, fun _ => hK w5 _ (fin g hb5) g rfl rfl rfl (by rw [heardR, if_pos hh])⟩
  · have hF3 := hF2.step g3 hoff fun k _ e => .inr e
    have g := g2.then g3
    exact ⟨hF3, hK w3 _ (fin g hb3) g rfl rfl rfl (by rw [heardR, if_neg (by rw [hh]; decide)])⟩
theorem begun_spec {w : World} {n : Int} {K : Value → World → Prop}
    (h1 : ∀ w' s (k : Nat), n = k → 1 ≤ k → k ≤ 4 → Grow w w' → ActAt w.heap.size w' s → s.x.each = 10 → s.x.last = 0 → s.x.com = 0 → s.x.room = 200000 → s.reps = List.replicate k rp0 → (∀ key v, ¬ s.x.R key v) → K (.tuple #[.pointer (some ⟨s.x.p, 0, none⟩), .pointer (some ⟨s.a, 0, none⟩), .bool true]) w')
    (hn : 1 ≤ n ∧ n ≤ 4) : CallV PR F.ladinglaw23_begun ⟨[.int .i64 n]⟩ w K := by
  have h0 : Fs S0 w [] w := Fr.init _ w
  refine ladinglaw23_begun n S0 K w ?_
  refine DNew_spec fun w1 bd g1 hbd hd => ⟨_, rfl, h0.after g1, ?_⟩
  refine Open0_spec (N := w.heap.size) (each := 10) hd hbd g1.size (by decide) (by decide) fun w2 x g2 hx e1 e2 e3 e4 e5 hp => ⟨_, _, rfl, h0.after (g1.trans g2), fun _ => ?_, (fun t x h => by cases h), .inl rfl⟩
  have g12 := g1.trans g2
  refine New_spec hx g12.size (fun w3 s k hk k1 k4 g3 hs ex er sa sb => ⟨_, _, rfl, h0.after (g12.trans g3), fun _ w4 hF4 => ?_, (fun t x h => by cases h), .inl rfl⟩) fun h => by omega
  have ep : x.p = s.x.p := by rw [ex]
  rw [ep]
  have g4 : Grow w3 w4 := hF4.grow
  refine h1 w4 s k hk k1 k4 ((g12.trans g3).trans g4) (hs.grow g4) (by rw [ex]; exact e2) (by rw [ex]; exact e3) (by rw [ex]; exact e4) (by rw [ex]; show 200000 - (logL x.recs).length = 200000; rw [e5]; rfl) er fun key v hv => ?_
  have hk := hs.pub.kept _ _ hv
  obtain ⟨i, _, _, _, _, a1, a2, _⟩ := hk
  rw [ex] at a2
  have : i ≤ x.last := a2
  omega
theorem ActAt.pubStep {N : Nat} {w w' : World} {s : ActS} (h : ActAt N w s) {x' : PubS} (hx : PubAt N w' x') (g : Chg s.x.reg w w') (hp : x'.p = s.x.p) (hex : x'.ex = s.x.ex) (hreg : ∀ k, x'.reg k → s.x.reg k ∨ w.heap.size ≤ k) : ActAt N w' ⟨x', s.a, s.bn, s.reps⟩ := by
  have ha := heap_lt h.blk
  have hbl := heap_lt h.row
  refine ⟨?_, g.get h.row h.off.2, hx, h.la, h.ln, h.n1, h.n4, ⟨fun e => ?_, fun e => ?_⟩, by show x'.ex s.bn; rw [hex]; exact h.ex⟩
  · have := g.get h.blk h.off.1
    show w'.heap[s.a]? = some (.cells #[.pointer (some ⟨x'.p, 0, none⟩), .slice (some ⟨s.bn, 0, none⟩) s.reps.length s.reps.length] T.act_Act (0, 0))
    rw [hp]; exact this
  · rcases hreg _ e with e | e
    · exact h.off.1 e
    · have e' : w.heap.size ≤ s.a := e; omega
  · rcases hreg _ e with e | e
    · exact h.off.2 e
    · have e' : w.heap.size ≤ s.bn := e; omega
theorem stepR {w wa wb : World} {x : PubS} {L : List Blk} (hF : Fs S0 w L wa) (hx : PubAt w.heap.size wa x) (g : Chg x.reg wa wb) (hL : ∀ y, y ∈ L → ¬ x.reg y.b) : Fs S0 w L wb := hF.step g hL fun k hk e => by have := hx.lo k e; omega
theorem stepB {w wa wb : World} {s : ActS} {L : List Blk} (hF : Fs S0 w L wa) (hs : ActAt w.heap.size wa s) (g : Chg (· = s.bn) wa wb) (hL : ∀ y, y ∈ L → y.b ≠ s.bn) : Fs S0 w L wb := hF.step g hL fun k hk e => by have := hs.ln; have e' : k = s.bn := e; omega
theorem awake23_spec {w : World} {K : Value → World → Prop} (hK : ∀ w', Grow w w' → K (.bool true) w') : CallV PR F.ladinglaw23_awake ⟨[]⟩ w K := by
  have h0 : Fs S0 w [] w := Fr.init _ w
  refine ladinglaw23_awake S0 K w ?_
  refine begun_spec (fun w1 s k hk k1 k4 g1 hs e1 e2 e3 e4 er _ => ⟨_, _, true, rfl, (fun _ => ⟨h0.after g1, ?_⟩), fun h => by cases h⟩) (by decide)
  have hF1 := h0.after g1
  obtain rfl : k = 1 := by omega
  have noL : ∀ {P : Blk → Prop}, ∀ y, y ∈ ([] : List Blk) → P y := fun y hy => by cases hy
  refine Publish_spec (l := []) hs.pub g1.size (.nil _ _) rfl (by decide) (fun w2 x2 hx2 g2 f1 f2 f3 f4 f5 f6 fr fx f7 f8 => ?_) fun w2 v g2 hx2 hv hno => ?_
  · have hs2 := hs.pubStep hx2 g2 f1 fx f7
    have hF2 := stepR hF1 hs.pub g2 noL
    rw [f4, e2]
    refine ⟨_, _, rfl, hF2, fun _ => ⟨fun _ => ?_, (fun t x h => by cases h), .inl rfl⟩, fun h => absurd rfl h⟩
    have hrl : s.reps.length = 1 := by rw [er]; rfl
    have hr0 : s.reps[0]'(by omega) = rp0 := by simp [er]
    refine Hear_spec hs2 (j := 0) (by show 0 < s.reps.length; omega) (by decide) fun w3 s3 hs3 g3 a1 a2 a3 a4 => ⟨_, _, _, _, rfl, stepB hF2 hs2 g3 noL, fun _ => ?_, (fun t x h => by cases h), .inl rfl⟩
    have hF3 := stepB hF2 hs2 g3 noL
    have a4' : s3.reps = [heardR rp0 7 1 0] := by
      rw [a4]
      show s.reps.set 0 (heardR (s.reps[0]'_) 7 1 0) = _
      rw [hr0, er]; rfl
    have hx3 : s3.x = x2 := a3
    have ea : s3.a = s.a := a1
    rw [← ea]
    have htg : s3.tgt = 1 := by unfold ActS.tgt; rw [hx3, f4, f5, e2, e3]; rfl
    have hag : agrees s3 0 := by
      refine ⟨by rw [htg]; decide, ⟨heardR rp0 7 1 0, by rw [a4']; exact List.mem_singleton.2 rfl, rfl, by decide⟩, fun r hr _ _ => ?_⟩
      rw [a4', List.mem_singleton] at hr
      subst hr
      rw [htg]; decide
    refine Tick_spec hs3 hF3.gr.size (by decide) (fun r hr => by rw [a4', List.mem_singleton] at hr; subst hr; decide) (fun w4 q c hna => absurd hag hna) (fun w4 s4 q c _ hs4 g4 b1 b2 b3 b4 b5 _ => ?_) fun w4 v _ hr => ?_
    · have hF4 := stepR hF3 hs3.pub g4 noL
      refine ⟨_, _, _, _, rfl, hF4, fun _ => ?_, (fun t x h => by cases h), .inl rfl⟩
      have ep : s.x.p = s4.x.p := by rw [b3, hx3, f1]
      rw [ep]
      have ec : s4.x.com = 1 := by rw [b5, hx3, f4, e2]
      refine Committed_spec hs4.pub ⟨_, rfl, hF4, fun _ => hK w4 hF4.gr, fun h => absurd (by rw [ec]; rfl) h⟩
    · have : (s.x.room : Int) ≤ x2.room + 2700 + 9 * 3 + 8 * (0 : Nat) := fr
      rw [hx3] at hr
      omega
  · refine absurd ⟨⟨⟨by decide, by decide, by decide, fun e he => by cases he⟩, by rw [e1]; decide, by decide⟩, by decide, ?_⟩ hno
    rw [e4]; decide
end Go.Vc

/-! A part of the proof that two events of one line are one event: the calculus that follows known memory by computing, and its soundness. By an AI agent. -/

namespace Go.Vc
open Go Go.MapKept
/-! ## the law of greetings -/
theorem Great18_spec {kind ver i : Int} {z : ByteArray} {y : Option Addr} {c : Nat} {xs : List ByteArray} {w : World} (hs : Sl w y (xs.map .string)) {K : Value → World → Prop} (hK : ∀ w' b, Grow w w' → K (.bool b) w') :
    CallV PR F.ladinglaw18_Great ⟨[.agg #[.int .i64 kind, .int .i64 ver, .int .i64 i, .string z, .slice y xs.length c]]⟩ w K := by
  refine ladinglaw18_Great kind ver i z y xs.length c S0 K w fun l0 hl0 => ⟨fun _ w0 hF0 => hK w0 _ hF0.gr, fun _ => ⟨fun _ w0 hF0 => hK w0 _ hF0.gr, fun h30 w2 hF2 => ?_⟩⟩
  refine ⟨fun i m w' => ∃ k : Nat, i = k ∧ k ≤ xs.length ∧ m = xs.length - k, ⟨_, 0, rfl, by omega, rfl⟩, ?_⟩
  rintro i D m w3 ⟨k, rfl, hk, rfl⟩ hF3
  refine ⟨fun hlt => ?_, fun _ => hK w3 _ hF3.gr⟩
  have hk' : k < xs.length := by omega
  refine (hs.grow hF3.gr).rd (v := .string xs[k]) (by simp) (by omega) (by simp [hk']) fun a ha => ⟨_, ha, fun _ => hK w3 _ hF3.gr, fun _ => ⟨xs.length - (k + 1), by omega, k + 1, by rw [w64 (by omega) (by omega)]; rfl, by omega, rfl⟩⟩
end Go.Vc

/-! A part of the proof that two events of one line are one event: the calculus that follows known memory by computing, and its soundness. By an AI agent. -/




namespace Go.Vc
open Go
/-! ## what neither reads nor writes cells, and asks nothing of the outside: its run tells its condition -/
end Go.Vc

/-! Closed facts on the model's entries for internal/reflectlite, at an api.Errno target. By an AI agent. -/







namespace Go.Vc
open Go Go.RowKit Go.Extern.Stop Go.Stop Go.Extern Go.Proofs
/-! ## errors.As at an api.Errno target: closed facts on the model's entries for internal/reflectlite -/
abbrev hd (t : Nat) : Value := .pointer (some ⟨G.count, t, none⟩)
theorem valueOfP (t : Addr) (w : World) : (ReflectliteValue.unpack (.iface 73 (.pointer (some t)))).run Tryz.prog w
    = .ok (.agg #[.pointer (some ⟨2, 73, none⟩), .pointer (some ⟨w.heap.size, 0, none⟩), .int .u64 150]) (w.alloc (.cells #[.pointer (some t)] 73)) := by kernel_rfl
theorem typeP (a : Addr) (w : World) : (ReflectliteValue.methodAny (ReflectliteValue.valueError "reflectlite.Value.Type" 0) (fun t _ _ _ => ReflectliteType.toType t) #[.agg #[.pointer (some ⟨2, 73, none⟩), .pointer (some a), .int .u64 150]]).run Tryz.prog w
    = .ok (.iface 164 (.agg #[.pointer (some ⟨2, 73, none⟩)])) w := by kernel_rfl
theorem methodKind (h : Value) (w : World) : (Go.method 421 164 (.agg #[h]) "Kind").run Tryz.prog w = .ok (198, h) w := by kernel_rfl
theorem kindP (w : World) : ((ReflectliteType.abiMethod fun t => (fun a : Nat => Value.int IntKind.u8 (a : Int)) <$> Rtype.kind t) #[.pointer (some ⟨2, 73, none⟩)]).run Tryz.prog w = .ok (.int .u8 22) w := by kernel_rfl
theorem kindE (w : World) : ((ReflectliteType.abiMethod fun t => (fun a : Nat => Value.int IntKind.u8 (a : Int)) <$> Rtype.kind t) #[.pointer (some ⟨2, 53, none⟩)]).run Tryz.prog w = .ok (.int .u8 2) w := by kernel_rfl
theorem rlm (z : Sem Value) (f : TypeId → Addr → Nat → Nat → Sem Value) (v : Value) :
    ReflectliteValue.method z f #[v] = (do match ← ReflectliteValue.parts v with | none => z | some (t, a, fl) => f t a fl (fl % 32)) := rfl
theorem partsP (a : Addr) (w : World) : (ReflectliteValue.parts (.agg #[.pointer (some ⟨2, 73, none⟩), .pointer (some a), .int .u64 150])).run Tryz.prog w = .ok (some (73, a, 150)) w := by kernel_rfl
theorem isNilP (a p : Addr) (W : World) (ha : W.cell? a = some (.pointer (some p))) :
    (ReflectliteValue.method (ReflectliteValue.valueError "reflectlite.Value.IsNil" 0) ReflectliteValue.isNil #[.agg #[.pointer (some ⟨2, 73, none⟩), .pointer (some a), .int .u64 150]]).run Tryz.prog W = .ok (.bool false) W := by
  rw [rlm]
  simp only [Sem.run_bind, partsP, Result.andThen]
  simp [ReflectliteValue.isNil, loadVar, isAgg, underlying, ha, Result.andThen]
theorem methodElem (h : Value) (w : World) : (Go.method 421 164 (.agg #[h]) "Elem").run Tryz.prog w = .ok (211, .agg #[h]) w := by kernel_rfl
theorem methodImplements (h : Value) (w : World) : (Go.method 421 164 (.agg #[h]) "Implements").run Tryz.prog w = .ok (212, .agg #[h]) w := by kernel_rfl
theorem methodAssignableTo (h : Value) (w : World) : (Go.method 421 164 (.agg #[h]) "AssignableTo").run Tryz.prog w = .ok (209, .agg #[h]) w := by kernel_rfl
theorem elemP (w : World) : (ReflectliteType.method ReflectliteType.elem #[.agg #[.pointer (some ⟨2, 73, none⟩)]]).run Tryz.prog w = .ok (.iface 164 (.agg #[.pointer (some ⟨2, 53, none⟩)])) w := by kernel_rfl
theorem implementsE (w : World) : (ReflectliteType.relation "Implements" ReflectliteType.implements_ #[.agg #[.pointer (some ⟨2, 53, none⟩)], .iface 164 (.agg #[.pointer (some ⟨2, 30, none⟩)])]).run Tryz.prog w = .ok (.bool true) w := by kernel_rfl
theorem typeOfE (v : Value) (w : World) : (ReflectliteType.typeOf #[.iface 53 v]).run Tryz.prog w = .ok (.iface 164 (.agg #[.pointer (some ⟨2, 53, none⟩)])) w := by kernel_rfl
theorem assignableE (w : World) : (ReflectliteType.relation "AssignableTo" ReflectliteType.assignableTo #[.agg #[.pointer (some ⟨2, 53, none⟩)], .iface 164 (.agg #[.pointer (some ⟨2, 53, none⟩)])]).run Tryz.prog w = .ok (.bool true) w := by kernel_rfl
theorem valueOfE (n : Int) (w : World) : (ReflectliteValue.unpack (.iface 53 (.int .i64 n))).run Tryz.prog w
    = .ok (.agg #[.pointer (some ⟨2, 53, none⟩), .pointer (some ⟨w.heap.size, 0, none⟩), .int .u64 130]) (w.alloc (.cells #[.int .i64 n] 53)) := by kernel_rfl
theorem elemOfP (w : World) : (Rtype.elem? 73).run Tryz.prog w = .ok (some 53) w := by kernel_rfl
theorem mkE (p : Addr) (w : World) : (ReflectliteValue.mk 53 p ReflectliteValue.flagAddr).run Tryz.prog w = .ok (.agg #[.pointer (some ⟨2, 53, none⟩), .pointer (some p), .int .u64 386]) w := by kernel_rfl
theorem elemVP (a p : Addr) (W : World) (ha : W.cell? a = some (.pointer (some p))) :
    (ReflectliteValue.method (ReflectliteValue.valueError "reflectlite.Value.Elem" 0) ReflectliteValue.elem #[.agg #[.pointer (some ⟨2, 73, none⟩), .pointer (some a), .int .u64 150]]).run Tryz.prog W
      = .ok (.agg #[.pointer (some ⟨2, 53, none⟩), .pointer (some p), .int .u64 386]) W := by
  rw [rlm]
  simp only [Sem.run_bind, partsP, Result.andThen]
  simp [ReflectliteValue.elem, loadVar, isAgg, underlying, ha, Result.andThen, elemOfP, mkE]
theorem rls (v x : Value) : ReflectliteValue.set #[v, x] = (do
    let (some (dst, a, fl), some (src, b, _)) := (← ReflectliteValue.parts v, ← ReflectliteValue.parts x)
      | unsupported (.noEntry "extern/(internal/reflectlite.Value).Set.zeroValue")
    if fl / ReflectliteValue.flagAddr % 2 == 0 then unsupported (.noEntry "extern/(internal/reflectlite.Value).Set.unaddressable")
    let val ← loadVar src b
    if ← Rtype.directlyAssignable dst src then storeVar dst a val
    else if ← Rtype.implements dst src then
      if (← Rtype.kind src) == 20 then
        match val with
        | .nilIface => unsupported (.noEntry "extern/reflectlite: a nil value of one interface type handed on as a value of another")
        | _ => storeVar dst a val
      else storeVar dst a (.iface src val)
    else panicString ("reflectlite.Set: value of type " ++ (← Rtype.spelt src) ++ " is not assignable to type " ++ (← Rtype.spelt dst))
    pure (.tuple #[])) := rfl
theorem partsEa (a : Addr) (w : World) : (ReflectliteValue.parts (.agg #[.pointer (some ⟨2, 53, none⟩), .pointer (some a), .int .u64 386])).run Tryz.prog w = .ok (some (53, a, 386)) w := by kernel_rfl
theorem partsE (a : Addr) (w : World) : (ReflectliteValue.parts (.agg #[.pointer (some ⟨2, 53, none⟩), .pointer (some a), .int .u64 130])).run Tryz.prog w = .ok (some (53, a, 130)) w := by kernel_rfl
theorem directE (w : World) : (Rtype.directlyAssignable 53 53).run Tryz.prog w = .ok true w := by kernel_rfl
theorem setE (ta b : Addr) (n : Int) (old : Value) (W : World) (hb : W.cell? b = some (.int .i64 n)) (ht : W.cell? ta = some old) (hf : W.frozen? ta = false) :
    (ReflectliteValue.set #[.agg #[.pointer (some ⟨2, 53, none⟩), .pointer (some ta), .int .u64 386], .agg #[.pointer (some ⟨2, 53, none⟩), .pointer (some b), .int .u64 130]]).run Tryz.prog W
      = .ok (.tuple #[]) (W.setCell ta (.int .i64 n)) := by
  rw [rls]
  simp only [Sem.run_bind, partsEa, partsE, Result.andThen]
  simp [ReflectliteValue.flagAddr, loadVar, isAgg, underlying, hb, Result.andThen, directE, storeVar, Value.cells, storeCells, Addr.add]
  rw [run_store Tryz.prog W ta _ _ (by rfl)]
  simp [ht, hf]
end Go.Vc

/-! errors.As of an api.Errno: it is set. By an AI agent. -/

namespace Go.Vc
open Go Go.RowKit Go.Extern.Stop Go.Stop Go.Extern Go.Proofs
set_option maxHeartbeats 4000000 in
theorem as_hit (n : Int) (t : Addr) (old : Value) (w : World) (hg : w.cell? ⟨0, 0, none⟩ = some (.iface 164 (.agg #[.pointer (some ⟨2, 30, none⟩)]))) (ht0 : w.cell? t = some old) (hf0 : w.frozen? t = false) :
    Calls Tryz.prog 22 #[.iface 53 (.int .i64 n), .iface 73 (.pointer (some t))] w fun ev w' => ev = .returned (.bool true) ∧ w' = ((((w.alloc (.cells #[.pointer (some t)] 73)).alloc (.cells #[.pointer (some ⟨2, 73, none⟩), .pointer (some ⟨w.heap.size, 0, none⟩), .int .u64 150] 117)).alloc (.cells #[.pointer (some ⟨2, 73, none⟩), .pointer (some ⟨w.heap.size, 0, none⟩), .int .u64 150] 117)).alloc (.cells #[.int .i64 n] 53)).setCell t (.int .i64 n) := by
  have h6 := @run_callFunc_extern Tryz.prog 47 _ (fun args => ReflectliteValue.unpack (args.getD 0 (.tuple #[]))) Tryz.func47 (by kernel_rfl) (by kernel_rfl) (by kernel_rfl) (by kernel_rfl)
  have h7 := @run_callFunc_extern Tryz.prog 48 _ (ReflectliteValue.methodAny (ReflectliteValue.valueError "reflectlite.Value.Type" 0) (fun t _ _ _ => ReflectliteType.toType t)) Tryz.func48 (by kernel_rfl) (by kernel_rfl) (by kernel_rfl) (by kernel_rfl)
  have h8 := @run_callFunc_extern Tryz.prog 49 _ (ReflectliteValue.method (ReflectliteValue.valueError "reflectlite.Value.IsNil" 0) ReflectliteValue.isNil) Tryz.func49 (by kernel_rfl) (by kernel_rfl) (by kernel_rfl) (by kernel_rfl)
  have h27 := @run_callFunc_extern Tryz.prog 198 _ (ReflectliteType.abiMethod fun t => do pure (.int .u8 (← Rtype.kind t))) Tryz.func198 (by kernel_rfl) (by kernel_rfl) (by kernel_rfl) (by kernel_rfl)
  have h37 := @run_callFunc_extern Tryz.prog 211 _ (ReflectliteType.method ReflectliteType.elem) Tryz.func211 (by kernel_rfl) (by kernel_rfl) (by kernel_rfl) (by kernel_rfl)
  have h38 := @run_callFunc_extern Tryz.prog 212 _ (ReflectliteType.relation "Implements" ReflectliteType.implements_) Tryz.func212 (by kernel_rfl) (by kernel_rfl) (by kernel_rfl) (by kernel_rfl)
  have h10 := @run_callFunc_extern Tryz.prog 81 _ ReflectliteType.typeOf Tryz.func81 (by kernel_rfl) (by kernel_rfl) (by kernel_rfl) (by kernel_rfl)
  have h35 := @run_callFunc_extern Tryz.prog 209 _ (ReflectliteType.relation "AssignableTo" ReflectliteType.assignableTo) Tryz.func209 (by kernel_rfl) (by kernel_rfl) (by kernel_rfl) (by kernel_rfl)
  have h11 := @run_callFunc_extern Tryz.prog 82 _ (ReflectliteValue.method (ReflectliteValue.valueError "reflectlite.Value.Elem" 0) ReflectliteValue.elem) Tryz.func82 (by kernel_rfl) (by kernel_rfl) (by kernel_rfl) (by kernel_rfl)
  have h12 := @run_callFunc_extern Tryz.prog 83 _ ReflectliteValue.set Tryz.func83 (by kernel_rfl) (by kernel_rfl) (by kernel_rfl) (by kernel_rfl)
  have tO := typeOfE
  have mA := methodAssignableTo
  have a25 := assignableE
  have v25 := valueOfE
  have f6 := valueOfP
  have f7 := typeP
  have mK := methodKind
  have mE := methodElem
  have mI := methodImplements
  have k27 := kindP
  have k25 := kindE
  have e27 := elemP
  have i25 := implementsE
  have n8 := isNilP ⟨w.heap.size, 0, none⟩ t ((w.alloc (.cells #[.pointer (some t)] 73)).alloc (.cells #[.pointer (some ⟨2, 73, none⟩), .pointer (some ⟨w.heap.size, 0, none⟩), .int .u64 150] 117)) (by simp)
  have hlt : 0 < w.heap.size := by
    rcases Nat.eq_zero_or_pos w.heap.size with h0 | h
    · simp [World.cell?, h0] at hg
    · exact h
  have hg2 : ((w.alloc (.cells #[.pointer (some t)] 73)).alloc (.cells #[.pointer (some ⟨2, 73, none⟩), .pointer (some ⟨w.heap.size, 0, none⟩), .int .u64 150] 117)).cell? ⟨0, 0, none⟩ = some (.iface 164 (.agg #[.pointer (some ⟨2, 30, none⟩)])) := by
    rw [World.cell?_alloc_lt _ _ ⟨0, 0, none⟩ (by simp), World.cell?_alloc_lt _ _ ⟨0, 0, none⟩ hlt]; exact hg
  have htl : t.block < w.heap.size := by
    rcases Nat.lt_or_ge t.block w.heap.size with h | h
    · exact h
    · simp [World.cell?, Array.getElem?_eq_none h] at ht0
  have el := elemVP ⟨w.heap.size, 0, none⟩ t (((w.alloc (.cells #[.pointer (some t)] 73)).alloc (.cells #[.pointer (some ⟨2, 73, none⟩), .pointer (some ⟨w.heap.size, 0, none⟩), .int .u64 150] 117)).alloc (.cells #[.pointer (some ⟨2, 73, none⟩), .pointer (some ⟨w.heap.size, 0, none⟩), .int .u64 150] 117)) (by rw [World.cell?_alloc_lt _ _ ⟨w.heap.size, 0, none⟩ (by simp; omega)]; simp)
  have st := setE t ⟨w.heap.size + 1 + 1 + 1, 0, none⟩ n old ((((w.alloc (.cells #[.pointer (some t)] 73)).alloc (.cells #[.pointer (some ⟨2, 73, none⟩), .pointer (some ⟨w.heap.size, 0, none⟩), .int .u64 150] 117)).alloc (.cells #[.pointer (some ⟨2, 73, none⟩), .pointer (some ⟨w.heap.size, 0, none⟩), .int .u64 150] 117)).alloc (.cells #[.int .i64 n] 53))
    (by rw [World.cell?_alloc_at _ _ _ _ (by simp)]; rfl)
    (by rw [World.cell?_alloc_lt _ _ t (by simp; omega), World.cell?_alloc_lt _ _ t (by simp; omega), World.cell?_alloc_lt _ _ t (by simp; omega), World.cell?_alloc_lt _ _ t htl]; exact ht0)
    (by rw [World.frozen?_alloc_old _ _ t (by simp; omega), World.frozen?_alloc_old _ _ t (by simp; omega), World.frozen?_alloc_old _ _ t (by simp; omega), World.frozen?_alloc_old _ _ t (Nat.ne_of_lt htl)]; exact hf0)
  go_enter Tryz.func22, Tryz.ntmps22
  go_wp2
  refine wp_loop_rounds 1 ?_
  rw [rounds_succ]
  go_wp2
  go_ret
  exact ⟨rfl, rfl⟩
end Go.Vc

/-! The number of an api.Errno. By an AI agent. -/

namespace Go.Vc
open Go Go.RowKit Go.Extern.Stop Go.Stop Go.Extern Go.Proofs
theorem grow_alloc {w w1 : World} (g : Grow w w1) (o : Obj) : Grow w (w1.alloc o) := g.trans (Chg.alloc w1 o)
theorem grow5 (w : World) (o1 o2 o3 o4 o5 : Obj) : Grow w (((((w.alloc o1).alloc o2).alloc o3).alloc o4).alloc o5) :=
  grow_alloc (grow_alloc (grow_alloc (grow_alloc (grow_alloc (.refl _ w) o1) o2) o3) o4) o5
set_option maxHeartbeats 4000000 in
theorem Code_errno (n : Int) (h0 : -9223372036854775808 ≤ n) (h1 : n ≤ 9223372036854775807) (w : World) (hg : w.cell? ⟨0, 0, none⟩ = some (.iface 164 (.agg #[.pointer (some ⟨2, 30, none⟩)]))) :
    Calls Tryz.prog 9 #[.iface 53 (.int .i64 n)] w fun ev w' => ev = .returned (.int .i64 n) ∧ Grow w w' := by
  have hlt : 0 < w.heap.size := by
    rcases Nat.eq_zero_or_pos w.heap.size with h0 | h
    · simp [World.cell?, h0] at hg
    · exact h
  have hgA : (w.alloc (.cells #[.int .i64 0] 53)).cell? ⟨0, 0, none⟩ = some (.iface 164 (.agg #[.pointer (some ⟨2, 30, none⟩)])) := by
    rw [World.cell?_alloc_lt _ _ ⟨0, 0, none⟩ hlt]; exact hg
  have htA : (w.alloc (.cells #[.int .i64 0] 53)).cell? ⟨w.heap.size, 0, none⟩ = some (.int .i64 0) := by simp
  have hfA : (w.alloc (.cells #[.int .i64 0] 53)).frozen? ⟨w.heap.size, 0, none⟩ = false := by simp
  have hw : IntKind.wrap .i64 n = n := wrap_id h0 h1
  go_enter Tryz.func9, Tryz.ntmps9
  go_wp2_with (first | (go_at_call 22; refine (as_hit n _ (.int .i64 0) _ hgA htA hfA).mono ?_; rintro e w' ⟨rfl, rfl⟩))
  go_ret
  refine ⟨by simp, grow5 _ _ _ _ _ _⟩
end Go.Vc

/-! An api.Fault has Unwrap and no As. By an AI agent. -/

namespace Go.Vc
open Go Go.RowKit Go.Extern.Stop Go.Stop Go.Extern Go.Proofs
end Go.Vc

/-! errors.As of an api.Fault around an api.Errno: it is set. By an AI agent. -/

namespace Go.Vc
open Go Go.RowKit Go.Extern.Stop Go.Stop Go.Extern Go.Proofs
end Go.Vc

/-! The number of an api.Fault. By an AI agent. -/

namespace Go.Vc
open Go Go.RowKit Go.Extern.Stop Go.Stop Go.Extern Go.Proofs
/-- errors.errorType, which the start lays -/
def ErrT (w : World) : Prop := w.cell? ⟨0, 0, none⟩ = some (.iface 164 (.agg #[.pointer (some ⟨2, 30, none⟩)]))
theorem Code_errno_spec {n : Int} {w : World} {K : Value → World → Prop} (h : ErrT w) (h0 : -9223372036854775808 ≤ n) (h1 : n ≤ 9223372036854775807) (hK : ∀ w', Grow w w' → K (.int .i64 n) w') : CallV PR F.api_Code #[.iface T.api_Errno (.int .i64 n)] w K :=
  callV_of (Code_errno n h0 h1 w h) fun e w' ⟨he, g⟩ => ⟨_, he, hK _ g⟩
end Go.Vc

/-! A part of the proof that two events of one line are one event: the calculus that follows known memory by computing, and its soundness. By an AI agent. -/


namespace Go.Vc
open Go
/-! Q1: conditions printed by a program of ours, checked by the kernel -/
/-- (*lading/act.Act).Tick -/
theorem act_Tick_any (p0 : Option Addr) (m1 : Int) (S : Nat → Prop) (K : Value → World → Prop) (w : World) (h : (p0 = none → K (.tuple (#[.slice none 0 0, .iface 53 (.int .i64 1)])) w) ∧ ∀ a0 : Addr, p0 = some a0 → CallV Proofs.Tryz.prog 23 (#[.pointer p0, .int .i64 m1]) w (fun v0 w0 => ∃ b0 : Bool, v0 = .bool b0 ∧ (b0 = true → Fs S w [] w0 ∧ ∀ w1 : World, Fr S w w0 [] [] w1 → ∃ I0 : World → Prop, I0 w1 ∧ Dr p0 (fun a1 => Dr (some a1) (fun a2 => Dr (some (Addr.add a2 0)) (fun a3 => ∃ q0 : Option Addr, (∀ w2 : World, I0 w2 → (World.cell? w2 a3 : Option Value) = some (.pointer q0)) ∧ CallV Proofs.Tryz.prog 13 (#[.pointer p0]) w1 (fun v1 w3 => ∃ n0 : Int, v1 = .int .i64 n0 ∧ Fs S w [] w3 ∧ I0 w3 ∧ CallV Proofs.Tryz.prog 24 (#[.pointer q0, .int .i64 n0]) w3 (fun v2 w4 => ∃ v3 : Value, v2 = v3 ∧ Fs S w [] w4 ∧ I0 w4 ∧ ((v3 : Value) = .nilIface → Dr p0 (fun a4 => Dr (some a4) (fun a5 => Dr (some (Addr.add a5 1)) (fun a6 => ∃ q1 : Option Addr, ∃ l0 : Nat, ∃ l1 : Nat, (World.cell? w4 a6 : Option Value) = some (.slice q1 l0 l1) ∧ ∃ I1 : (Option Addr) → Nat → Nat → Int → Nat → World → Prop, (∃ l2 : Nat, I1 none 0 0 0 l2 w4) ∧ ∀ q2 : Option Addr, ∀ l3 : Nat, ∀ l4 : Nat, ∀ n1 : Int, ∀ D0 : Nat → Value, ∀ l5 : Nat, ∀ w5 : World, I1 q2 l3 l4 n1 l5 w5 → Fs S w [] w5 → (n1 < ((l0 : Nat) : Int) → Dr q1 (fun a7 => (0 : Int) ≤ n1 ∧ n1 < ((l0 : Nat) : Int) ∧ Dr (some (Addr.add a7 ((Int.toNat n1 * 5)))) (fun a8 => ∃ n2 : Int, (World.cell? w5 (Addr.add a8 0) : Option Value) = some (.int .i64 n2) ∧ ∃ n3 : Int, (World.cell? w5 (Addr.add a8 1) : Option Value) = some (.int .i64 n3) ∧ ∃ n4 : Int, (World.cell? w5 (Addr.add a8 2) : Option Value) = some (.int .i64 n4) ∧ ∃ b1 : Bool, (World.cell? w5 (Addr.add a8 3) : Option Value) = some (.bool b1) ∧ ∃ n5 : Int, (World.cell? w5 (Addr.add a8 4) : Option Value) = some (.int .i64 n5) ∧ ∀ l6 : Nat, w5.heap.size ≤ l6 → ∀ w6 : World, Fr S w w5 [l6] ([⟨l6, #[.int .i64 n2, .int .i64 n3, .int .i64 n4, .bool b1, .int .i64 n5], 77, true⟩]) w6 → CallV Proofs.Tryz.prog 25 (#[.pointer p0, .agg (#[.int .i64 n2, .int .i64 n3, .int .i64 n4, .bool b1, .int .i64 n5]), .int .i64 m1]) w6 (fun v4 w7 => ∃ q3 : Option Addr, ∃ l7 : Nat, ∃ l8 : Nat, v4 = .slice q3 l7 l8 ∧ Fs S w ([⟨l6, #[.int .i64 n2, .int .i64 n3, .int .i64 n4, .bool b1, .int .i64 n5], 77, true⟩]) w7 ∧ ∃ I2 : (Option Addr) → Nat → Nat → Int → Nat → World → Prop, (∃ l9 : Nat, I2 q2 l3 l4 0 l9 w7) ∧ ∀ q4 : Option Addr, ∀ l10 : Nat, ∀ l11 : Nat, ∀ n6 : Int, ∀ D1 : Nat → Value, ∀ l12 : Nat, ∀ w8 : World, I2 q4 l10 l11 n6 l12 w8 → Fs S w [] w8 → (n6 < ((l7 : Nat) : Int) → Dr q3 (fun a9 => (0 : Int) ≤ n6 ∧ n6 < ((l7 : Nat) : Int) ∧ Dr (some (Addr.add a9 ((Int.toNat n6 * 5)))) (fun a10 => ∃ n7 : Int, (World.cell? w8 (Addr.add a10 0) : Option Value) = some (.int .i64 n7) ∧ ∃ n8 : Int, (World.cell? w8 (Addr.add a10 1) : Option Value) = some (.int .i64 n8) ∧ ∃ n9 : Int, (World.cell? w8 (Addr.add a10 2) : Option Value) = some (.int .i64 n9) ∧ ∃ s0 : ByteArray, (World.cell? w8 (Addr.add a10 3) : Option Value) = some (.string s0) ∧ ∃ q5 : Option Addr, ∃ l13 : Nat, ∃ l14 : Nat, (World.cell? w8 (Addr.add a10 4) : Option Value) = some (.slice q5 l13 l14) ∧ ∀ l15 : Nat, w8.heap.size ≤ l15 → ∀ l16 : Nat, w8.heap.size ≤ l16 → ∀ w9 : World, Fr S w w8 [l15] ([⟨l15, #[.int .i64 n7, .int .i64 n8, .int .i64 n9, .string s0, .slice q5 l13 l14], 25, true⟩, ⟨l16, #[.int .i64 (IntKind.wrap .i64 ((n1 + 1))), .int .i64 n7, .int .i64 n8, .int .i64 n9, .string s0, .slice q5 l13 l14], 81, true⟩]) w9 → rn Proofs.Tryz.prog (Builtin.append_ (#[39, 39]) 39 (#[.slice q4 l10 l11, .slice (some (⟨l16, 0, none⟩)) 1 1])) (fun v5 w10 => ∃ q6 : Option Addr, ∃ l17 : Nat, ∃ l18 : Nat, v5 = .slice q6 l17 l18 ∧ Fs S w ([⟨l15, #[.int .i64 n7, .int .i64 n8, .int .i64 n9, .string s0, .slice q5 l13 l14], 25, true⟩, ⟨l16, #[.int .i64 (IntKind.wrap .i64 ((n1 + 1))), .int .i64 n7, .int .i64 n8, .int .i64 n9, .string s0, .slice q5 l13 l14], 81, true⟩]) w10 ∧ ∃ l19 : Nat, l19 < l12 ∧ I2 q6 l17 l18 (IntKind.wrap .i64 ((n6 + 1))) l19 w10) w9))) ∧ (¬ (n6 < ((l7 : Nat) : Int)) → ∃ l20 : Nat, l20 < l5 ∧ I1 q4 l10 l11 (IntKind.wrap .i64 ((n1 + 1))) l20 w8))))) ∧ (¬ (n1 < ((l0 : Nat) : Int)) → K (.tuple (#[.slice q2 l3 l4, .nilIface])) w5))))) ∧ (∀ x0 : Nat, ∀ v6 : Value, (v3 : Value) = .iface x0 v6 → K (.tuple (#[.slice none 0 0, v3])) w4) ∧ ((v3 : Value) = .nilIface ∨ ∃ l21 : Nat, ∃ v7 : Value, (v3 : Value) = .iface l21 v7))))))) ∧ (b0 = false → Fs S w [] w0 ∧ Dr p0 (fun a11 => Dr (some a11) (fun a12 => Dr (some (Addr.add a12 1)) (fun a13 => ∃ q7 : Option Addr, ∃ l22 : Nat, ∃ l23 : Nat, (World.cell? w0 a13 : Option Value) = some (.slice q7 l22 l23) ∧ ∃ I3 : (Option Addr) → Nat → Nat → Int → Nat → World → Prop, (∃ l24 : Nat, I3 none 0 0 0 l24 w0) ∧ ∀ q8 : Option Addr, ∀ l25 : Nat, ∀ l26 : Nat, ∀ n10 : Int, ∀ D2 : Nat → Value, ∀ l27 : Nat, ∀ w11 : World, I3 q8 l25 l26 n10 l27 w11 → Fs S w [] w11 → (n10 < ((l22 : Nat) : Int) → Dr q7 (fun a14 => (0 : Int) ≤ n10 ∧ n10 < ((l22 : Nat) : Int) ∧ Dr (some (Addr.add a14 ((Int.toNat n10 * 5)))) (fun a15 => ∃ n11 : Int, (World.cell? w11 (Addr.add a15 0) : Option Value) = some (.int .i64 n11) ∧ ∃ n12 : Int, (World.cell? w11 (Addr.add a15 1) : Option Value) = some (.int .i64 n12) ∧ ∃ n13 : Int, (World.cell? w11 (Addr.add a15 2) : Option Value) = some (.int .i64 n13) ∧ ∃ b2 : Bool, (World.cell? w11 (Addr.add a15 3) : Option Value) = some (.bool b2) ∧ ∃ n14 : Int, (World.cell? w11 (Addr.add a15 4) : Option Value) = some (.int .i64 n14) ∧ ∀ l28 : Nat, w11.heap.size ≤ l28 → ∀ w12 : World, Fr S w w11 [l28] ([⟨l28, #[.int .i64 n11, .int .i64 n12, .int .i64 n13, .bool b2, .int .i64 n14], 77, true⟩]) w12 → CallV Proofs.Tryz.prog 25 (#[.pointer p0, .agg (#[.int .i64 n11, .int .i64 n12, .int .i64 n13, .bool b2, .int .i64 n14]), .int .i64 m1]) w12 (fun v8 w13 => ∃ q9 : Option Addr, ∃ l29 : Nat, ∃ l30 : Nat, v8 = .slice q9 l29 l30 ∧ Fs S w ([⟨l28, #[.int .i64 n11, .int .i64 n12, .int .i64 n13, .bool b2, .int .i64 n14], 77, true⟩]) w13 ∧ ∃ I4 : (Option Addr) → Nat → Nat → Int → Nat → World → Prop, (∃ l31 : Nat, I4 q8 l25 l26 0 l31 w13) ∧ ∀ q10 : Option Addr, ∀ l32 : Nat, ∀ l33 : Nat, ∀ n15 : Int, ∀ D3 : Nat → Value, ∀ l34 : Nat, ∀ w14 : World, I4 q10 l32 l33 n15 l34 w14 → Fs S w [] w14 → (n15 < ((l29 : Nat) : Int) → Dr q9 (fun a16 => (0 : Int) ≤ n15 ∧ n15 < ((l29 : Nat) : Int) ∧ Dr (some (Addr.add a16 ((Int.toNat n15 * 5)))) (fun a17 => ∃ n16 : Int, (World.cell? w14 (Addr.add a17 0) : Option Value) = some (.int .i64 n16) ∧ ∃ n17 : Int, (World.cell? w14 (Addr.add a17 1) : Option Value) = some (.int .i64 n17) ∧ ∃ n18 : Int, (World.cell? w14 (Addr.add a17 2) : Option Value) = some (.int .i64 n18) ∧ ∃ s1 : ByteArray, (World.cell? w14 (Addr.add a17 3) : Option Value) = some (.string s1) ∧ ∃ q11 : Option Addr, ∃ l35 : Nat, ∃ l36 : Nat, (World.cell? w14 (Addr.add a17 4) : Option Value) = some (.slice q11 l35 l36) ∧ ∀ l37 : Nat, w14.heap.size ≤ l37 → ∀ l38 : Nat, w14.heap.size ≤ l38 → ∀ w15 : World, Fr S w w14 [l37] ([⟨l37, #[.int .i64 n16, .int .i64 n17, .int .i64 n18, .string s1, .slice q11 l35 l36], 25, true⟩, ⟨l38, #[.int .i64 (IntKind.wrap .i64 ((n10 + 1))), .int .i64 n16, .int .i64 n17, .int .i64 n18, .string s1, .slice q11 l35 l36], 81, true⟩]) w15 → rn Proofs.Tryz.prog (Builtin.append_ (#[39, 39]) 39 (#[.slice q10 l32 l33, .slice (some (⟨l38, 0, none⟩)) 1 1])) (fun v9 w16 => ∃ q12 : Option Addr, ∃ l39 : Nat, ∃ l40 : Nat, v9 = .slice q12 l39 l40 ∧ Fs S w ([⟨l37, #[.int .i64 n16, .int .i64 n17, .int .i64 n18, .string s1, .slice q11 l35 l36], 25, true⟩, ⟨l38, #[.int .i64 (IntKind.wrap .i64 ((n10 + 1))), .int .i64 n16, .int .i64 n17, .int .i64 n18, .string s1, .slice q11 l35 l36], 81, true⟩]) w16 ∧ ∃ l41 : Nat, l41 < l34 ∧ I4 q12 l39 l40 (IntKind.wrap .i64 ((n15 + 1))) l41 w16) w15))) ∧ (¬ (n15 < ((l29 : Nat) : Int)) → ∃ l42 : Nat, l42 < l27 ∧ I3 q10 l32 l33 (IntKind.wrap .i64 ((n10 + 1))) l42 w14))))) ∧ (¬ (n10 < ((l22 : Nat) : Int)) → K (.tuple (#[.slice q8 l25 l26, .nilIface])) w11))))))) : CallV Go.Proofs.Tryz.prog 10 ⟨[.pointer p0, .int .i64 m1]⟩ w K :=
  call_of_vc3 (okf := ⟨okL, []⟩) okL_ok (args := [.c (.v (.pointer p0)), .c (.v (.int .i64 m1))]) (H := []) (.s .z (.s .z (.s (.s (.r ⟨(some []), true, [], []⟩) (.c (.s (.r ⟨(some []), true, [], [(6, [999])]⟩) .z) .z)) (.s .z (.s (.s .z (.b (.l (some []) (some []) [(7, .c (.sl)), (33, .c (.int .i64))] [] (.s .z (.s .z (.s (.b (.s (.r ⟨(some []), true, [], []⟩) (.s (.r ⟨(some [9]), true, [], []⟩) (.b (.l (some []) (some []) [(7, .c (.sl)), (43, .c (.int .i64))] [] (.s .z (.s .z (.s (.b (.s (.r ⟨(some []), true, [], []⟩) (.r ⟨(some [11]), true, [], []⟩))) .z)))))))) .z)))))) .z))))) Go.Proofs.Tryz.func10 rfl ⟨trivial, trivial, trivial⟩ trivial (Fr.init S w) trivial (cast_vc (by kernel_rfl) h)


/-- (*lading/act.Act).Hear -/
theorem act_Hear_any (p0 : Option Addr) (m1 : Int) (m2 : Int) (m3 : Int) (m4 : Int) (z5 : ByteArray) (y6 : Option Addr) (ly6 : Nat) (cy6 : Nat) (m7 : Int) (S : Nat → Prop) (K : Value → World → Prop) (w : World) (h : ∀ l0 : Nat, w.heap.size ≤ l0 → (p0 = none → ∀ w0 : World, Fr S w w [] [] w0 → K (.tuple (#[.slice none 0 0, .iface 53 (.int .i64 1)])) w0) ∧ ∀ a0 : Addr, p0 = some a0 → (m1 < 1 → ∀ w1 : World, Fr S w w [] [] w1 → K (.tuple (#[.slice none 0 0, .iface 53 (.int .i64 1)])) w1) ∧ (¬ (m1 < 1) → Dr p0 (fun a1 => Dr (some a1) (fun a2 => ∀ w2 : World, Fr S w w [] ([⟨l0, #[.int .i64 m2, .int .i64 m3, .int .i64 m4, .string z5, .slice y6 ly6 cy6], 25, true⟩]) w2 → Dr (some (Addr.add a2 1)) (fun a3 => ∃ q0 : Option Addr, ∃ l1 : Nat, ∃ l2 : Nat, (World.cell? w2 a3 : Option Value) = some (.slice q0 l1 l2) ∧ (m1 > ((l1 : Nat) : Int) → K (.tuple (#[.slice none 0 0, .iface 53 (.int .i64 1)])) w2) ∧ (¬ (m1 > ((l1 : Nat) : Int)) → Dr p0 (fun a4 => Dr (some a4) (fun a5 => Dr (some (Addr.add a5 1)) (fun a6 => ∃ q1 : Option Addr, ∃ l3 : Nat, ∃ l4 : Nat, (World.cell? w2 a6 : Option Value) = some (.slice q1 l3 l4) ∧ Dr q1 (fun a7 => (0 : Int) ≤ IntKind.wrap .i64 ((m1 - 1)) ∧ IntKind.wrap .i64 ((m1 - 1)) < ((l3 : Nat) : Int) ∧ CallV Proofs.Tryz.prog 26 (#[.pointer (some (Addr.add a7 ((Int.toNat (IntKind.wrap .i64 ((m1 - 1))) * 5)))), .agg (#[.int .i64 m2, .int .i64 m3, .int .i64 m4, .string z5, .slice y6 ly6 cy6])]) w2 (fun v0 w3 => ∃ b0 : Bool, v0 = .bool b0 ∧ (b0 = true → Fs S w ([⟨l0, #[.int .i64 m2, .int .i64 m3, .int .i64 m4, .string z5, .slice y6 ly6 cy6], 25, true⟩]) w3 ∧ Dr (some (Addr.add a7 ((Int.toNat (IntKind.wrap .i64 ((m1 - 1))) * 5)))) (fun a8 => Dr (some a8) (fun a9 => Dr (some (Addr.add a9 3)) (fun a10 => StC w3 a10 (.bool true) (fun w4 => Fs S w ([⟨l0, #[.int .i64 m2, .int .i64 m3, .int .i64 m4, .string z5, .slice y6 ly6 cy6], 25, true⟩]) w4 ∧ Dr (some (Addr.add a7 ((Int.toNat (IntKind.wrap .i64 ((m1 - 1))) * 5)))) (fun a11 => Dr (some a11) (fun a12 => Dr (some (Addr.add a12 4)) (fun a13 => StC w4 a13 (.int .i64 m7) (fun w5 => Fs S w ([⟨l0, #[.int .i64 m2, .int .i64 m3, .int .i64 m4, .string z5, .slice y6 ly6 cy6], 25, true⟩]) w5 ∧ (m2 = 2 → CallV Proofs.Tryz.prog 27 (#[.pointer p0, .agg (#[.int .i64 m2, .int .i64 m3, .int .i64 m4, .string z5, .slice y6 ly6 cy6])]) w5 (fun v1 w6 => ∃ n0 : Int, ∃ n1 : Int, ∃ n2 : Int, ∃ s0 : ByteArray, ∃ q2 : Option Addr, ∃ l5 : Nat, ∃ l6 : Nat, v1 = .agg (#[.int .i64 n0, .int .i64 n1, .int .i64 n2, .string s0, .slice q2 l5 l6]) ∧ Fs S w ([⟨l0, #[.int .i64 m2, .int .i64 m3, .int .i64 m4, .string z5, .slice y6 ly6 cy6], 25, true⟩]) w6 ∧ ∀ l7 : Nat, w6.heap.size ≤ l7 → ∀ w7 : World, Fr S w w6 [] [] w7 → K (.tuple (#[.slice (some (⟨l7, 0, none⟩)) 1 1, .nilIface])) w7)) ∧ (¬ (m2 = 2) → K (.tuple (#[.slice none 0 0, .nilIface])) w5)))))))))) ∧ (b0 = false → Fs S w ([⟨l0, #[.int .i64 m2, .int .i64 m3, .int .i64 m4, .string z5, .slice y6 ly6 cy6], 25, true⟩]) w3 ∧ K (.tuple (#[.slice none 0 0, .nilIface])) w3)))))))))))) : CallV Go.Proofs.Tryz.prog 11 ⟨[.pointer p0, .int .i64 m1, .agg #[.int .i64 m2, .int .i64 m3, .int .i64 m4, .string z5, .slice y6 ly6 cy6], .int .i64 m7]⟩ w K :=
  call_of_vc3 (okf := ⟨okL, []⟩) okL_ok (args := [.c (.v (.pointer p0)), .c (.v (.int .i64 m1)), .a [.v (.int .i64 m2), .v (.int .i64 m3), .v (.int .i64 m4), .v (.string z5), .v (.slice y6 ly6 cy6)], .c (.v (.int .i64 m7))]) (H := []) (.s (.r ⟨(some []), false, [], []⟩) (.s .z (.s .z (.s (.s (.r ⟨(some [6]), false, [], []⟩) .z) (.s (.r ⟨(some [6]), false, [], []⟩) (.s (.s .z (.c (.s (.r ⟨(some [6]), false, [], []⟩) .z) .z)) .z)))))) Go.Proofs.Tryz.func11 rfl ⟨trivial, trivial, ⟨trivial, trivial, trivial, trivial, trivial, trivial⟩, trivial, trivial⟩ trivial (Fr.init S w) trivial (cast_vc (by kernel_rfl) h)


/-- (*lading/act.Act).Noted -/
theorem act_Noted_any (p0 : Option Addr) (m1 : Int) (S : Nat → Prop) (K : Value → World → Prop) (w : World) (h : (p0 = none → K (.tuple (#[.int .i64 0, .int .i64 0, .int .i64 0])) w) ∧ ∀ a0 : Addr, p0 = some a0 → (m1 < 1 → K (.tuple (#[.int .i64 0, .int .i64 0, .int .i64 0])) w) ∧ (¬ (m1 < 1) → Dr p0 (fun a1 => Dr (some a1) (fun a2 => Dr (some (Addr.add a2 1)) (fun a3 => ∃ q0 : Option Addr, ∃ l0 : Nat, ∃ l1 : Nat, (World.cell? w a3 : Option Value) = some (.slice q0 l0 l1) ∧ (m1 > ((l0 : Nat) : Int) → K (.tuple (#[.int .i64 0, .int .i64 0, .int .i64 0])) w) ∧ (¬ (m1 > ((l0 : Nat) : Int)) → Dr p0 (fun a4 => Dr (some a4) (fun a5 => Dr (some (Addr.add a5 1)) (fun a6 => ∃ q1 : Option Addr, ∃ l2 : Nat, ∃ l3 : Nat, (World.cell? w a6 : Option Value) = some (.slice q1 l2 l3) ∧ Dr q1 (fun a7 => (0 : Int) ≤ IntKind.wrap .i64 ((m1 - 1)) ∧ IntKind.wrap .i64 ((m1 - 1)) < ((l2 : Nat) : Int) ∧ Dr (some (Addr.add a7 ((Int.toNat (IntKind.wrap .i64 ((m1 - 1))) * 5)))) (fun a8 => ∃ n0 : Int, (World.cell? w (Addr.add a8 0) : Option Value) = some (.int .i64 n0) ∧ ∃ n1 : Int, (World.cell? w (Addr.add a8 1) : Option Value) = some (.int .i64 n1) ∧ ∃ n2 : Int, (World.cell? w (Addr.add a8 2) : Option Value) = some (.int .i64 n2) ∧ ∃ b0 : Bool, (World.cell? w (Addr.add a8 3) : Option Value) = some (.bool b0) ∧ ∃ n3 : Int, (World.cell? w (Addr.add a8 4) : Option Value) = some (.int .i64 n3) ∧ ∀ l4 : Nat, w.heap.size ≤ l4 → ∀ w0 : World, Fr S w w [l4] [] w0 → K (.tuple (#[.int .i64 n0, .int .i64 n1, .int .i64 n2])) w0))))))))))) : CallV Go.Proofs.Tryz.prog 12 ⟨[.pointer p0, .int .i64 m1]⟩ w K :=
  call_of_vc3 (okf := ⟨okL, []⟩) okL_ok (args := [.c (.v (.pointer p0)), .c (.v (.int .i64 m1))]) (H := []) (.s .z (.s .z (.s (.r ⟨(some []), false, [], []⟩) (.s (.r ⟨(some [7]), false, [], []⟩) .z)))) Go.Proofs.Tryz.func12 rfl ⟨trivial, trivial, trivial⟩ trivial (Fr.init S w) trivial (cast_vc (by kernel_rfl) h)


/-- (*lading/act.Act).Target -/
theorem act_Target_any (p0 : Option Addr) (S : Nat → Prop) (K : Value → World → Prop) (w : World) (h : ∀ w0 : World, Fr S w w [] [] w0 → ∃ I0 : World → Prop, I0 w0 ∧ (p0 = none → K (.int .i64 0) w0) ∧ ∀ a0 : Addr, p0 = some a0 → Dr p0 (fun a1 => Dr (some a1) (fun a2 => Dr (some (Addr.add a2 0)) (fun a3 => ∃ q0 : Option Addr, (∀ w1 : World, I0 w1 → (World.cell? w1 a3 : Option Value) = some (.pointer q0)) ∧ Dr p0 (fun a4 => Dr (some a4) (fun a5 => Dr (some (Addr.add a5 0)) (fun a6 => ∃ q1 : Option Addr, (∀ w2 : World, I0 w2 → (World.cell? w2 a6 : Option Value) = some (.pointer q1)) ∧ CallV Proofs.Tryz.prog 28 (#[.pointer q0]) w0 (fun v0 w3 => ∃ n0 : Int, v0 = .int .i64 n0 ∧ Fs S w [] w3 ∧ I0 w3 ∧ CallV Proofs.Tryz.prog 18 (#[.pointer q1]) w3 (fun v1 w4 => ∃ n1 : Int, v1 = .int .i64 n1 ∧ Fs S w [] w4 ∧ I0 w4 ∧ (n0 ≤ n1 → K (.int .i64 0) w4) ∧ (¬ (n0 ≤ n1) → Dr p0 (fun a7 => Dr (some a7) (fun a8 => Dr (some (Addr.add a8 0)) (fun a9 => ∃ q2 : Option Addr, (World.cell? w4 a9 : Option Value) = some (.pointer q2) ∧ CallV Proofs.Tryz.prog 28 (#[.pointer q2]) w4 (fun v2 w5 => ∃ n2 : Int, v2 = .int .i64 n2 ∧ Fs S w [] w5 ∧ K (.int .i64 n2) w5)))))))))))))) : CallV Go.Proofs.Tryz.prog 13 ⟨[.pointer p0]⟩ w K :=
  call_of_vc3 (okf := ⟨okL, []⟩) okL_ok (args := [.c (.v (.pointer p0))]) (H := []) (.s .z (.s (.s (.r ⟨(some []), true, [], []⟩) .z) (.s (.r ⟨(some []), true, [], []⟩) .z))) Go.Proofs.Tryz.func13 rfl ⟨trivial, trivial⟩ trivial (Fr.init S w) trivial (cast_vc (by kernel_rfl) h)


/-- (*lading/act.Act).Live -/
theorem act_Live_any (p0 : Option Addr) (m1 : Int) (S : Nat → Prop) (K : Value → World → Prop) (w : World) (h : (p0 = none → K (.slice none 0 0) w) ∧ ∀ a0 : Addr, p0 = some a0 → Dr p0 (fun a1 => Dr (some a1) (fun a2 => Dr (some (Addr.add a2 1)) (fun a3 => ∃ q0 : Option Addr, ∃ l0 : Nat, ∃ l1 : Nat, (World.cell? w a3 : Option Value) = some (.slice q0 l0 l1) ∧ ∃ I0 : (Option Addr) → Nat → Nat → Int → Nat → World → Prop, (∃ l2 : Nat, I0 none 0 0 0 l2 w) ∧ ∀ q1 : Option Addr, ∀ l3 : Nat, ∀ l4 : Nat, ∀ n0 : Int, ∀ D0 : Nat → Value, ∀ l5 : Nat, ∀ w0 : World, I0 q1 l3 l4 n0 l5 w0 → Fs S w [] w0 → (n0 < ((l0 : Nat) : Int) → Dr q0 (fun a4 => (0 : Int) ≤ n0 ∧ n0 < ((l0 : Nat) : Int) ∧ Dr (some (Addr.add a4 ((Int.toNat n0 * 5)))) (fun a5 => ∃ n1 : Int, (World.cell? w0 (Addr.add a5 0) : Option Value) = some (.int .i64 n1) ∧ ∃ n2 : Int, (World.cell? w0 (Addr.add a5 1) : Option Value) = some (.int .i64 n2) ∧ ∃ n3 : Int, (World.cell? w0 (Addr.add a5 2) : Option Value) = some (.int .i64 n3) ∧ ∃ b0 : Bool, (World.cell? w0 (Addr.add a5 3) : Option Value) = some (.bool b0) ∧ ∃ n4 : Int, (World.cell? w0 (Addr.add a5 4) : Option Value) = some (.int .i64 n4) ∧ ∀ l6 : Nat, w0.heap.size ≤ l6 → (b0 = true → (n4 ≥ IntKind.wrap .i64 ((m1 - 12)) → ∀ l7 : Nat, w0.heap.size ≤ l7 → ∀ w1 : World, Fr S w w0 [l6] ([⟨l7, #[.int .i64 (IntKind.wrap .i64 ((n0 + 1)))], 3, true⟩]) w1 → rn Proofs.Tryz.prog (Builtin.append_ (#[46, 46]) 46 (#[.slice q1 l3 l4, .slice (some (⟨l7, 0, none⟩)) 1 1])) (fun v0 w2 => ∃ q2 : Option Addr, ∃ l8 : Nat, ∃ l9 : Nat, v0 = .slice q2 l8 l9 ∧ Fs S w ([⟨l7, #[.int .i64 (IntKind.wrap .i64 ((n0 + 1)))], 3, true⟩]) w2 ∧ ∃ l10 : Nat, l10 < l5 ∧ I0 q2 l8 l9 (IntKind.wrap .i64 ((n0 + 1))) l10 w2) w1) ∧ (¬ (n4 ≥ IntKind.wrap .i64 ((m1 - 12))) → ∀ w3 : World, Fr S w w0 [l6] ([⟨l6, #[.int .i64 n1, .int .i64 n2, .int .i64 n3, .bool b0, .int .i64 n4], 77, true⟩]) w3 → ∃ l11 : Nat, l11 < l5 ∧ I0 q1 l3 l4 (IntKind.wrap .i64 ((n0 + 1))) l11 w3)) ∧ (b0 = false → ∀ w4 : World, Fr S w w0 [l6] ([⟨l6, #[.int .i64 n1, .int .i64 n2, .int .i64 n3, .bool b0, .int .i64 n4], 77, true⟩]) w4 → ∃ l12 : Nat, l12 < l5 ∧ I0 q1 l3 l4 (IntKind.wrap .i64 ((n0 + 1))) l12 w4)))) ∧ (¬ (n0 < ((l0 : Nat) : Int)) → K (.slice q1 l3 l4) w0))))) : CallV Go.Proofs.Tryz.prog 14 ⟨[.pointer p0, .int .i64 m1]⟩ w K :=
  call_of_vc3 (okf := ⟨okL, []⟩) okL_ok (args := [.c (.v (.pointer p0)), .c (.v (.int .i64 m1))]) (H := []) (.s .z (.s .z (.s .z (.s (.s .z (.b (.l (some []) (some []) [(5, .c (.sl)), (15, .c (.int .i64))] [] (.s .z (.s .z (.s (.b (.s (.r ⟨(some []), false, [], []⟩) (.s .z (.c (.r ⟨(some []), false, [], []⟩) .z)))) .z)))))) .z)))) Go.Proofs.Tryz.func14 rfl ⟨trivial, trivial, trivial⟩ trivial (Fr.init S w) trivial (cast_vc (by kernel_rfl) h)


/-- (*lading/act.Act).All -/
theorem act_All_any (p0 : Option Addr) (S : Nat → Prop) (K : Value → World → Prop) (w : World) (h : (p0 = none → K (.bool false) w) ∧ ∀ a0 : Addr, p0 = some a0 → CallV Proofs.Tryz.prog 13 (#[.pointer p0]) w (fun v0 w0 => ∃ n0 : Int, v0 = .int .i64 n0 ∧ Fs S w [] w0 ∧ (n0 = 0 → Dr p0 (fun a1 => Dr (some a1) (fun a2 => Dr (some (Addr.add a2 1)) (fun a3 => ∃ q0 : Option Addr, ∃ l0 : Nat, ∃ l1 : Nat, (World.cell? w0 a3 : Option Value) = some (.slice q0 l0 l1) ∧ CallV Proofs.Tryz.prog 29 (#[.slice q0 l0 l1, .func (.func 30) (#[.pointer p0]) #[]]) w0 (fun v1 w1 => ∃ b0 : Bool, v1 = .bool b0 ∧ (b0 = true → Fs S w [] w1 ∧ K (.bool false) w1) ∧ (b0 = false → Fs S w [] w1 ∧ K (.bool true) w1)))))) ∧ (¬ (n0 = 0) → K (.bool false) w0))) : CallV Go.Proofs.Tryz.prog 15 ⟨[.pointer p0]⟩ w K :=
  call_of_vc3 (okf := ⟨okL, []⟩) okL_ok (args := [.c (.v (.pointer p0))]) (H := []) (.s .z (.s (.r ⟨(some []), false, [], []⟩) .z)) Go.Proofs.Tryz.func15 rfl ⟨trivial, trivial⟩ trivial (Fr.init S w) trivial (cast_vc (by kernel_rfl) h)


/-- lading/ladinglaw23.ActNone -/
theorem ladinglaw23_ActNone (m0 : Int) (m1 : Int) (m2 : Int) (m3 : Int) (m4 : Int) (m5 : Int) (z6 : ByteArray) (y7 : Option Addr) (ly7 : Nat) (cy7 : Nat) (S : Nat → Prop) (K : Value → World → Prop) (w : World) (h : ∀ l0 : Nat, w.heap.size ≤ l0 → ∀ l1 : Nat, w.heap.size ≤ l1 → ∀ w0 : World, Fr S w w [] ([⟨l0, #[.int .i64 m1, .int .i64 m2], 22, true⟩, ⟨l1, #[.int .i64 m3, .int .i64 m4, .int .i64 m5, .string z6, .slice y7 ly7 cy7], 25, true⟩]) w0 → CallV Proofs.Tryz.prog 4 #[] w0 (fun v0 w1 => ∃ b0 : Bool, v0 = .bool b0 ∧ (b0 = true → Fs S w ([⟨l0, #[.int .i64 m1, .int .i64 m2], 22, true⟩, ⟨l1, #[.int .i64 m3, .int .i64 m4, .int .i64 m5, .string z6, .slice y7 ly7 cy7], 25, true⟩]) w1 ∧ (0 : Int) ≤ 0 ∧ (0 : Int) < 2 ∧ (0 : Int) ≤ 1 ∧ (1 : Int) < 2 ∧ ∀ w2 : World, Fr S w w1 [] ([⟨l1, #[.int .i64 m3, .int .i64 m4, .int .i64 m5, .string z6, .slice y7 ly7 cy7], 25, true⟩]) w2 → CallV Proofs.Tryz.prog 5 (#[.agg (#[.int .i64 m3, .int .i64 m4, .int .i64 m5, .string z6, .slice y7 ly7 cy7])]) w2 (fun v1 w3 => ∃ b1 : Bool, v1 = .bool b1 ∧ (b1 = true → Fs S w ([⟨l1, #[.int .i64 m3, .int .i64 m4, .int .i64 m5, .string z6, .slice y7 ly7 cy7], 25, true⟩]) w3 ∧ K (.bool true) w3) ∧ (b1 = false → Fs S w ([⟨l1, #[.int .i64 m3, .int .i64 m4, .int .i64 m5, .string z6, .slice y7 ly7 cy7], 25, true⟩]) w3 ∧ CallV Proofs.Tryz.prog 7 (#[.int .i64 0]) w3 (fun v2 w4 => ∃ q0 : Option Addr, v2 = .pointer q0 ∧ Fs S w ([⟨l1, #[.int .i64 m3, .int .i64 m4, .int .i64 m5, .string z6, .slice y7 ly7 cy7], 25, true⟩]) w4 ∧ CallV Proofs.Tryz.prog 6 (#[.pointer q0, .int .i64 10]) w4 (fun v3 w5 => ∃ q1 : Option Addr, ∃ v4 : Value, v3 = .tuple (#[.pointer q1, v4]) ∧ Fs S w ([⟨l1, #[.int .i64 m3, .int .i64 m4, .int .i64 m5, .string z6, .slice y7 ly7 cy7], 25, true⟩]) w5 ∧ ((v4 : Value) = .nilIface → CallV Proofs.Tryz.prog 8 (#[.pointer q1, .int .i64 m0]) w5 (fun v5 w6 => ∃ q2 : Option Addr, ∃ v6 : Value, v5 = .tuple (#[.pointer q2, v6]) ∧ Fs S w ([⟨l1, #[.int .i64 m3, .int .i64 m4, .int .i64 m5, .string z6, .slice y7 ly7 cy7], 25, true⟩]) w6 ∧ CallV Proofs.Tryz.prog 8 (#[.pointer none, .int .i64 1]) w6 (fun v7 w7 => ∃ q3 : Option Addr, ∃ v8 : Value, v7 = .tuple (#[.pointer q3, v8]) ∧ Fs S w ([⟨l1, #[.int .i64 m3, .int .i64 m4, .int .i64 m5, .string z6, .slice y7 ly7 cy7], 25, true⟩]) w7 ∧ CallV Proofs.Tryz.prog 9 #[v8] w7 (fun v9 w8 => ∃ n0 : Int, v9 = .int .i64 n0 ∧ Fs S w ([⟨l1, #[.int .i64 m3, .int .i64 m4, .int .i64 m5, .string z6, .slice y7 ly7 cy7], 25, true⟩]) w8 ∧ (n0 = 1 → (m0 < 1 → ((v6 : Value) = .nilIface → K (.bool false) w8) ∧ (∀ x0 : Nat, ∀ v10 : Value, (v6 : Value) = .iface x0 v10 → ((v6 : Value) = .nilIface → CallV Proofs.Tryz.prog 10 (#[.pointer none, .int .i64 m2]) w8 (fun v11 w9 => ∃ q4 : Option Addr, ∃ l2 : Nat, ∃ l3 : Nat, ∃ v12 : Value, v11 = .tuple (#[.slice q4 l2 l3, v12]) ∧ Fs S w ([⟨l1, #[.int .i64 m3, .int .i64 m4, .int .i64 m5, .string z6, .slice y7 ly7 cy7], 25, true⟩]) w9 ∧ CallV Proofs.Tryz.prog 11 (#[.pointer none, .int .i64 m1, .agg (#[.int .i64 m3, .int .i64 m4, .int .i64 m5, .string z6, .slice y7 ly7 cy7]), .int .i64 m2]) w9 (fun v13 w10 => ∃ q5 : Option Addr, ∃ l4 : Nat, ∃ l5 : Nat, ∃ v14 : Value, v13 = .tuple (#[.slice q5 l4 l5, v14]) ∧ Fs S w ([⟨l1, #[.int .i64 m3, .int .i64 m4, .int .i64 m5, .string z6, .slice y7 ly7 cy7], 25, true⟩]) w10 ∧ CallV Proofs.Tryz.prog 12 (#[.pointer none, .int .i64 m1]) w10 (fun v15 w11 => ∃ n1 : Int, ∃ n2 : Int, ∃ n3 : Int, v15 = .tuple (#[.int .i64 n1, .int .i64 n2, .int .i64 n3]) ∧ Fs S w [] w11 ∧ (IntKind.wrap .i64 ((((l2 : Nat) : Int) + (((l4 : Nat) : Int)))) = 0 → CallV Proofs.Tryz.prog 9 #[v12] w11 (fun v16 w12 => ∃ n4 : Int, v16 = .int .i64 n4 ∧ Fs S w [] w12 ∧ (n4 = 1 → CallV Proofs.Tryz.prog 9 #[v14] w12 (fun v17 w13 => ∃ n5 : Int, v17 = .int .i64 n5 ∧ Fs S w [] w13 ∧ (n5 = 1 → (IntKind.wrap .i64 ((IntKind.wrap .i64 ((n1 + n2)) + n3)) = 0 → CallV Proofs.Tryz.prog 13 (#[.pointer none]) w13 (fun v18 w14 => ∃ n6 : Int, v18 = .int .i64 n6 ∧ Fs S w [] w14 ∧ CallV Proofs.Tryz.prog 14 (#[.pointer none, .int .i64 m2]) w14 (fun v19 w15 => ∃ q6 : Option Addr, ∃ l6 : Nat, ∃ l7 : Nat, v19 = .slice q6 l6 l7 ∧ Fs S w [] w15 ∧ (IntKind.wrap .i64 ((n6 + (((l6 : Nat) : Int)))) = 0 → CallV Proofs.Tryz.prog 15 (#[.pointer none]) w15 (fun v20 w16 => ∃ b2 : Bool, v20 = .bool b2 ∧ (b2 = true → Fs S w [] w16 ∧ K (.bool false) w16) ∧ (b2 = false → Fs S w [] w16 ∧ K (.bool true) w16))) ∧ (¬ (IntKind.wrap .i64 ((n6 + (((l6 : Nat) : Int)))) = 0) → K (.bool false) w15)))) ∧ (¬ (IntKind.wrap .i64 ((IntKind.wrap .i64 ((n1 + n2)) + n3)) = 0) → K (.bool false) w13)) ∧ (¬ (n5 = 1) → K (.bool false) w13))) ∧ (¬ (n4 = 1) → K (.bool false) w12))) ∧ (¬ (IntKind.wrap .i64 ((((l2 : Nat) : Int) + (((l4 : Nat) : Int)))) = 0) → K (.bool false) w11))))) ∧ (∀ x1 : Nat, ∀ v21 : Value, (v6 : Value) = .iface x1 v21 → (q2 = none → CallV Proofs.Tryz.prog 9 #[v6] w8 (fun v22 w17 => ∃ n7 : Int, v22 = .int .i64 n7 ∧ Fs S w ([⟨l1, #[.int .i64 m3, .int .i64 m4, .int .i64 m5, .string z6, .slice y7 ly7 cy7], 25, true⟩]) w17 ∧ (n7 = 1 → CallV Proofs.Tryz.prog 10 (#[.pointer none, .int .i64 m2]) w17 (fun v23 w18 => ∃ q7 : Option Addr, ∃ l8 : Nat, ∃ l9 : Nat, ∃ v24 : Value, v23 = .tuple (#[.slice q7 l8 l9, v24]) ∧ Fs S w ([⟨l1, #[.int .i64 m3, .int .i64 m4, .int .i64 m5, .string z6, .slice y7 ly7 cy7], 25, true⟩]) w18 ∧ CallV Proofs.Tryz.prog 11 (#[.pointer none, .int .i64 m1, .agg (#[.int .i64 m3, .int .i64 m4, .int .i64 m5, .string z6, .slice y7 ly7 cy7]), .int .i64 m2]) w18 (fun v25 w19 => ∃ q8 : Option Addr, ∃ l10 : Nat, ∃ l11 : Nat, ∃ v26 : Value, v25 = .tuple (#[.slice q8 l10 l11, v26]) ∧ Fs S w ([⟨l1, #[.int .i64 m3, .int .i64 m4, .int .i64 m5, .string z6, .slice y7 ly7 cy7], 25, true⟩]) w19 ∧ CallV Proofs.Tryz.prog 12 (#[.pointer none, .int .i64 m1]) w19 (fun v27 w20 => ∃ n8 : Int, ∃ n9 : Int, ∃ n10 : Int, v27 = .tuple (#[.int .i64 n8, .int .i64 n9, .int .i64 n10]) ∧ Fs S w [] w20 ∧ (IntKind.wrap .i64 ((((l8 : Nat) : Int) + (((l10 : Nat) : Int)))) = 0 → CallV Proofs.Tryz.prog 9 #[v24] w20 (fun v28 w21 => ∃ n11 : Int, v28 = .int .i64 n11 ∧ Fs S w [] w21 ∧ (n11 = 1 → CallV Proofs.Tryz.prog 9 #[v26] w21 (fun v29 w22 => ∃ n12 : Int, v29 = .int .i64 n12 ∧ Fs S w [] w22 ∧ (n12 = 1 → (IntKind.wrap .i64 ((IntKind.wrap .i64 ((n8 + n9)) + n10)) = 0 → CallV Proofs.Tryz.prog 13 (#[.pointer none]) w22 (fun v30 w23 => ∃ n13 : Int, v30 = .int .i64 n13 ∧ Fs S w [] w23 ∧ CallV Proofs.Tryz.prog 14 (#[.pointer none, .int .i64 m2]) w23 (fun v31 w24 => ∃ q9 : Option Addr, ∃ l12 : Nat, ∃ l13 : Nat, v31 = .slice q9 l12 l13 ∧ Fs S w [] w24 ∧ (IntKind.wrap .i64 ((n13 + (((l12 : Nat) : Int)))) = 0 → CallV Proofs.Tryz.prog 15 (#[.pointer none]) w24 (fun v32 w25 => ∃ b3 : Bool, v32 = .bool b3 ∧ (b3 = true → Fs S w [] w25 ∧ K (.bool false) w25) ∧ (b3 = false → Fs S w [] w25 ∧ K (.bool true) w25))) ∧ (¬ (IntKind.wrap .i64 ((n13 + (((l12 : Nat) : Int)))) = 0) → K (.bool false) w24)))) ∧ (¬ (IntKind.wrap .i64 ((IntKind.wrap .i64 ((n8 + n9)) + n10)) = 0) → K (.bool false) w22)) ∧ (¬ (n12 = 1) → K (.bool false) w22))) ∧ (¬ (n11 = 1) → K (.bool false) w21))) ∧ (¬ (IntKind.wrap .i64 ((((l8 : Nat) : Int) + (((l10 : Nat) : Int)))) = 0) → K (.bool false) w20))))) ∧ (¬ (n7 = 1) → K (.bool false) w17))) ∧ ∀ a0 : Addr, q2 = some a0 → K (.bool false) w8) ∧ ((v6 : Value) = .nilIface ∨ ∃ l14 : Nat, ∃ v33 : Value, (v6 : Value) = .iface l14 v33)) ∧ ((v6 : Value) = .nilIface ∨ ∃ l15 : Nat, ∃ v34 : Value, (v6 : Value) = .iface l15 v34)) ∧ (¬ (m0 < 1) → (m0 > 4 → ((v6 : Value) = .nilIface → K (.bool false) w8) ∧ (∀ x2 : Nat, ∀ v35 : Value, (v6 : Value) = .iface x2 v35 → ((v6 : Value) = .nilIface → CallV Proofs.Tryz.prog 10 (#[.pointer none, .int .i64 m2]) w8 (fun v36 w26 => ∃ q10 : Option Addr, ∃ l16 : Nat, ∃ l17 : Nat, ∃ v37 : Value, v36 = .tuple (#[.slice q10 l16 l17, v37]) ∧ Fs S w ([⟨l1, #[.int .i64 m3, .int .i64 m4, .int .i64 m5, .string z6, .slice y7 ly7 cy7], 25, true⟩]) w26 ∧ CallV Proofs.Tryz.prog 11 (#[.pointer none, .int .i64 m1, .agg (#[.int .i64 m3, .int .i64 m4, .int .i64 m5, .string z6, .slice y7 ly7 cy7]), .int .i64 m2]) w26 (fun v38 w27 => ∃ q11 : Option Addr, ∃ l18 : Nat, ∃ l19 : Nat, ∃ v39 : Value, v38 = .tuple (#[.slice q11 l18 l19, v39]) ∧ Fs S w ([⟨l1, #[.int .i64 m3, .int .i64 m4, .int .i64 m5, .string z6, .slice y7 ly7 cy7], 25, true⟩]) w27 ∧ CallV Proofs.Tryz.prog 12 (#[.pointer none, .int .i64 m1]) w27 (fun v40 w28 => ∃ n14 : Int, ∃ n15 : Int, ∃ n16 : Int, v40 = .tuple (#[.int .i64 n14, .int .i64 n15, .int .i64 n16]) ∧ Fs S w [] w28 ∧ (IntKind.wrap .i64 ((((l16 : Nat) : Int) + (((l18 : Nat) : Int)))) = 0 → CallV Proofs.Tryz.prog 9 #[v37] w28 (fun v41 w29 => ∃ n17 : Int, v41 = .int .i64 n17 ∧ Fs S w [] w29 ∧ (n17 = 1 → CallV Proofs.Tryz.prog 9 #[v39] w29 (fun v42 w30 => ∃ n18 : Int, v42 = .int .i64 n18 ∧ Fs S w [] w30 ∧ (n18 = 1 → (IntKind.wrap .i64 ((IntKind.wrap .i64 ((n14 + n15)) + n16)) = 0 → CallV Proofs.Tryz.prog 13 (#[.pointer none]) w30 (fun v43 w31 => ∃ n19 : Int, v43 = .int .i64 n19 ∧ Fs S w [] w31 ∧ CallV Proofs.Tryz.prog 14 (#[.pointer none, .int .i64 m2]) w31 (fun v44 w32 => ∃ q12 : Option Addr, ∃ l20 : Nat, ∃ l21 : Nat, v44 = .slice q12 l20 l21 ∧ Fs S w [] w32 ∧ (IntKind.wrap .i64 ((n19 + (((l20 : Nat) : Int)))) = 0 → CallV Proofs.Tryz.prog 15 (#[.pointer none]) w32 (fun v45 w33 => ∃ b4 : Bool, v45 = .bool b4 ∧ (b4 = true → Fs S w [] w33 ∧ K (.bool false) w33) ∧ (b4 = false → Fs S w [] w33 ∧ K (.bool true) w33))) ∧ (¬ (IntKind.wrap .i64 ((n19 + (((l20 : Nat) : Int)))) = 0) → K (.bool false) w32)))) ∧ (¬ (IntKind.wrap .i64 ((IntKind.wrap .i64 ((n14 + n15)) + n16)) = 0) → K (.bool false) w30)) ∧ (¬ (n18 = 1) → K (.bool false) w30))) ∧ (¬ (n17 = 1) → K (.bool false) w29))) ∧ (¬ (IntKind.wrap .i64 ((((l16 : Nat) : Int) + (((l18 : Nat) : Int)))) = 0) → K (.bool false) w28))))) ∧ (∀ x3 : Nat, ∀ v46 : Value, (v6 : Value) = .iface x3 v46 → (q2 = none → CallV Proofs.Tryz.prog 9 #[v6] w8 (fun v47 w34 => ∃ n20 : Int, v47 = .int .i64 n20 ∧ Fs S w ([⟨l1, #[.int .i64 m3, .int .i64 m4, .int .i64 m5, .string z6, .slice y7 ly7 cy7], 25, true⟩]) w34 ∧ (n20 = 1 → CallV Proofs.Tryz.prog 10 (#[.pointer none, .int .i64 m2]) w34 (fun v48 w35 => ∃ q13 : Option Addr, ∃ l22 : Nat, ∃ l23 : Nat, ∃ v49 : Value, v48 = .tuple (#[.slice q13 l22 l23, v49]) ∧ Fs S w ([⟨l1, #[.int .i64 m3, .int .i64 m4, .int .i64 m5, .string z6, .slice y7 ly7 cy7], 25, true⟩]) w35 ∧ CallV Proofs.Tryz.prog 11 (#[.pointer none, .int .i64 m1, .agg (#[.int .i64 m3, .int .i64 m4, .int .i64 m5, .string z6, .slice y7 ly7 cy7]), .int .i64 m2]) w35 (fun v50 w36 => ∃ q14 : Option Addr, ∃ l24 : Nat, ∃ l25 : Nat, ∃ v51 : Value, v50 = .tuple (#[.slice q14 l24 l25, v51]) ∧ Fs S w ([⟨l1, #[.int .i64 m3, .int .i64 m4, .int .i64 m5, .string z6, .slice y7 ly7 cy7], 25, true⟩]) w36 ∧ CallV Proofs.Tryz.prog 12 (#[.pointer none, .int .i64 m1]) w36 (fun v52 w37 => ∃ n21 : Int, ∃ n22 : Int, ∃ n23 : Int, v52 = .tuple (#[.int .i64 n21, .int .i64 n22, .int .i64 n23]) ∧ Fs S w [] w37 ∧ (IntKind.wrap .i64 ((((l22 : Nat) : Int) + (((l24 : Nat) : Int)))) = 0 → CallV Proofs.Tryz.prog 9 #[v49] w37 (fun v53 w38 => ∃ n24 : Int, v53 = .int .i64 n24 ∧ Fs S w [] w38 ∧ (n24 = 1 → CallV Proofs.Tryz.prog 9 #[v51] w38 (fun v54 w39 => ∃ n25 : Int, v54 = .int .i64 n25 ∧ Fs S w [] w39 ∧ (n25 = 1 → (IntKind.wrap .i64 ((IntKind.wrap .i64 ((n21 + n22)) + n23)) = 0 → CallV Proofs.Tryz.prog 13 (#[.pointer none]) w39 (fun v55 w40 => ∃ n26 : Int, v55 = .int .i64 n26 ∧ Fs S w [] w40 ∧ CallV Proofs.Tryz.prog 14 (#[.pointer none, .int .i64 m2]) w40 (fun v56 w41 => ∃ q15 : Option Addr, ∃ l26 : Nat, ∃ l27 : Nat, v56 = .slice q15 l26 l27 ∧ Fs S w [] w41 ∧ (IntKind.wrap .i64 ((n26 + (((l26 : Nat) : Int)))) = 0 → CallV Proofs.Tryz.prog 15 (#[.pointer none]) w41 (fun v57 w42 => ∃ b5 : Bool, v57 = .bool b5 ∧ (b5 = true → Fs S w [] w42 ∧ K (.bool false) w42) ∧ (b5 = false → Fs S w [] w42 ∧ K (.bool true) w42))) ∧ (¬ (IntKind.wrap .i64 ((n26 + (((l26 : Nat) : Int)))) = 0) → K (.bool false) w41)))) ∧ (¬ (IntKind.wrap .i64 ((IntKind.wrap .i64 ((n21 + n22)) + n23)) = 0) → K (.bool false) w39)) ∧ (¬ (n25 = 1) → K (.bool false) w39))) ∧ (¬ (n24 = 1) → K (.bool false) w38))) ∧ (¬ (IntKind.wrap .i64 ((((l22 : Nat) : Int) + (((l24 : Nat) : Int)))) = 0) → K (.bool false) w37))))) ∧ (¬ (n20 = 1) → K (.bool false) w34))) ∧ ∀ a1 : Addr, q2 = some a1 → K (.bool false) w8) ∧ ((v6 : Value) = .nilIface ∨ ∃ l28 : Nat, ∃ v58 : Value, (v6 : Value) = .iface l28 v58)) ∧ ((v6 : Value) = .nilIface ∨ ∃ l29 : Nat, ∃ v59 : Value, (v6 : Value) = .iface l29 v59)) ∧ (¬ (m0 > 4) → ((v6 : Value) = .nilIface → ((v6 : Value) = .nilIface → CallV Proofs.Tryz.prog 10 (#[.pointer none, .int .i64 m2]) w8 (fun v60 w43 => ∃ q16 : Option Addr, ∃ l30 : Nat, ∃ l31 : Nat, ∃ v61 : Value, v60 = .tuple (#[.slice q16 l30 l31, v61]) ∧ Fs S w ([⟨l1, #[.int .i64 m3, .int .i64 m4, .int .i64 m5, .string z6, .slice y7 ly7 cy7], 25, true⟩]) w43 ∧ CallV Proofs.Tryz.prog 11 (#[.pointer none, .int .i64 m1, .agg (#[.int .i64 m3, .int .i64 m4, .int .i64 m5, .string z6, .slice y7 ly7 cy7]), .int .i64 m2]) w43 (fun v62 w44 => ∃ q17 : Option Addr, ∃ l32 : Nat, ∃ l33 : Nat, ∃ v63 : Value, v62 = .tuple (#[.slice q17 l32 l33, v63]) ∧ Fs S w ([⟨l1, #[.int .i64 m3, .int .i64 m4, .int .i64 m5, .string z6, .slice y7 ly7 cy7], 25, true⟩]) w44 ∧ CallV Proofs.Tryz.prog 12 (#[.pointer none, .int .i64 m1]) w44 (fun v64 w45 => ∃ n27 : Int, ∃ n28 : Int, ∃ n29 : Int, v64 = .tuple (#[.int .i64 n27, .int .i64 n28, .int .i64 n29]) ∧ Fs S w [] w45 ∧ (IntKind.wrap .i64 ((((l30 : Nat) : Int) + (((l32 : Nat) : Int)))) = 0 → CallV Proofs.Tryz.prog 9 #[v61] w45 (fun v65 w46 => ∃ n30 : Int, v65 = .int .i64 n30 ∧ Fs S w [] w46 ∧ (n30 = 1 → CallV Proofs.Tryz.prog 9 #[v63] w46 (fun v66 w47 => ∃ n31 : Int, v66 = .int .i64 n31 ∧ Fs S w [] w47 ∧ (n31 = 1 → (IntKind.wrap .i64 ((IntKind.wrap .i64 ((n27 + n28)) + n29)) = 0 → CallV Proofs.Tryz.prog 13 (#[.pointer none]) w47 (fun v67 w48 => ∃ n32 : Int, v67 = .int .i64 n32 ∧ Fs S w [] w48 ∧ CallV Proofs.Tryz.prog 14 (#[.pointer none, .int .i64 m2]) w48 (fun v68 w49 => ∃ q18 : Option Addr, ∃ l34 : Nat, ∃ l35 : Nat, v68 = .slice q18 l34 l35 ∧ Fs S w [] w49 ∧ (IntKind.wrap .i64 ((n32 + (((l34 : Nat) : Int)))) = 0 → CallV Proofs.Tryz.prog 15 (#[.pointer none]) w49 (fun v69 w50 => ∃ b6 : Bool, v69 = .bool b6 ∧ (b6 = true → Fs S w [] w50 ∧ K (.bool false) w50) ∧ (b6 = false → Fs S w [] w50 ∧ K (.bool true) w50))) ∧ (¬ (IntKind.wrap .i64 ((n32 + (((l34 : Nat) : Int)))) = 0) → K (.bool false) w49)))) ∧ (¬ (IntKind.wrap .i64 ((IntKind.wrap .i64 ((n27 + n28)) + n29)) = 0) → K (.bool false) w47)) ∧ (¬ (n31 = 1) → K (.bool false) w47))) ∧ (¬ (n30 = 1) → K (.bool false) w46))) ∧ (¬ (IntKind.wrap .i64 ((((l30 : Nat) : Int) + (((l32 : Nat) : Int)))) = 0) → K (.bool false) w45))))) ∧ (∀ x4 : Nat, ∀ v70 : Value, (v6 : Value) = .iface x4 v70 → (q2 = none → CallV Proofs.Tryz.prog 9 #[v6] w8 (fun v71 w51 => ∃ n33 : Int, v71 = .int .i64 n33 ∧ Fs S w ([⟨l1, #[.int .i64 m3, .int .i64 m4, .int .i64 m5, .string z6, .slice y7 ly7 cy7], 25, true⟩]) w51 ∧ (n33 = 1 → CallV Proofs.Tryz.prog 10 (#[.pointer none, .int .i64 m2]) w51 (fun v72 w52 => ∃ q19 : Option Addr, ∃ l36 : Nat, ∃ l37 : Nat, ∃ v73 : Value, v72 = .tuple (#[.slice q19 l36 l37, v73]) ∧ Fs S w ([⟨l1, #[.int .i64 m3, .int .i64 m4, .int .i64 m5, .string z6, .slice y7 ly7 cy7], 25, true⟩]) w52 ∧ CallV Proofs.Tryz.prog 11 (#[.pointer none, .int .i64 m1, .agg (#[.int .i64 m3, .int .i64 m4, .int .i64 m5, .string z6, .slice y7 ly7 cy7]), .int .i64 m2]) w52 (fun v74 w53 => ∃ q20 : Option Addr, ∃ l38 : Nat, ∃ l39 : Nat, ∃ v75 : Value, v74 = .tuple (#[.slice q20 l38 l39, v75]) ∧ Fs S w ([⟨l1, #[.int .i64 m3, .int .i64 m4, .int .i64 m5, .string z6, .slice y7 ly7 cy7], 25, true⟩]) w53 ∧ CallV Proofs.Tryz.prog 12 (#[.pointer none, .int .i64 m1]) w53 (fun v76 w54 => ∃ n34 : Int, ∃ n35 : Int, ∃ n36 : Int, v76 = .tuple (#[.int .i64 n34, .int .i64 n35, .int .i64 n36]) ∧ Fs S w [] w54 ∧ (IntKind.wrap .i64 ((((l36 : Nat) : Int) + (((l38 : Nat) : Int)))) = 0 → CallV Proofs.Tryz.prog 9 #[v73] w54 (fun v77 w55 => ∃ n37 : Int, v77 = .int .i64 n37 ∧ Fs S w [] w55 ∧ (n37 = 1 → CallV Proofs.Tryz.prog 9 #[v75] w55 (fun v78 w56 => ∃ n38 : Int, v78 = .int .i64 n38 ∧ Fs S w [] w56 ∧ (n38 = 1 → (IntKind.wrap .i64 ((IntKind.wrap .i64 ((n34 + n35)) + n36)) = 0 → CallV Proofs.Tryz.prog 13 (#[.pointer none]) w56 (fun v79 w57 => ∃ n39 : Int, v79 = .int .i64 n39 ∧ Fs S w [] w57 ∧ CallV Proofs.Tryz.prog 14 (#[.pointer none, .int .i64 m2]) w57 (fun v80 w58 => ∃ q21 : Option Addr, ∃ l40 : Nat, ∃ l41 : Nat, v80 = .slice q21 l40 l41 ∧ Fs S w [] w58 ∧ (IntKind.wrap .i64 ((n39 + (((l40 : Nat) : Int)))) = 0 → CallV Proofs.Tryz.prog 15 (#[.pointer none]) w58 (fun v81 w59 => ∃ b7 : Bool, v81 = .bool b7 ∧ (b7 = true → Fs S w [] w59 ∧ K (.bool false) w59) ∧ (b7 = false → Fs S w [] w59 ∧ K (.bool true) w59))) ∧ (¬ (IntKind.wrap .i64 ((n39 + (((l40 : Nat) : Int)))) = 0) → K (.bool false) w58)))) ∧ (¬ (IntKind.wrap .i64 ((IntKind.wrap .i64 ((n34 + n35)) + n36)) = 0) → K (.bool false) w56)) ∧ (¬ (n38 = 1) → K (.bool false) w56))) ∧ (¬ (n37 = 1) → K (.bool false) w55))) ∧ (¬ (IntKind.wrap .i64 ((((l36 : Nat) : Int) + (((l38 : Nat) : Int)))) = 0) → K (.bool false) w54))))) ∧ (¬ (n33 = 1) → K (.bool false) w51))) ∧ ∀ a2 : Addr, q2 = some a2 → K (.bool false) w8) ∧ ((v6 : Value) = .nilIface ∨ ∃ l42 : Nat, ∃ v82 : Value, (v6 : Value) = .iface l42 v82)) ∧ (∀ x5 : Nat, ∀ v83 : Value, (v6 : Value) = .iface x5 v83 → K (.bool false) w8) ∧ ((v6 : Value) = .nilIface ∨ ∃ l43 : Nat, ∃ v84 : Value, (v6 : Value) = .iface l43 v84)))) ∧ (¬ (n0 = 1) → K (.bool false) w8))))) ∧ (∀ x6 : Nat, ∀ v85 : Value, (v4 : Value) = .iface x6 v85 → K (.bool false) w5) ∧ ((v4 : Value) = .nilIface ∨ ∃ l44 : Nat, ∃ v86 : Value, (v4 : Value) = .iface l44 v86)))))) ∧ (b0 = false → Fs S w ([⟨l0, #[.int .i64 m1, .int .i64 m2], 22, true⟩, ⟨l1, #[.int .i64 m3, .int .i64 m4, .int .i64 m5, .string z6, .slice y7 ly7 cy7], 25, true⟩]) w1 ∧ K (.bool false) w1))) : CallV Go.Proofs.Tryz.prog 3 ⟨[.int .i64 m0, .agg #[.int .i64 m1, .int .i64 m2], .agg #[.int .i64 m3, .int .i64 m4, .int .i64 m5, .string z6, .slice y7 ly7 cy7]]⟩ w K :=
  call_of_vc3 (okf := ⟨okL, []⟩) okL_ok (args := [.c (.v (.int .i64 m0)), .a [.v (.int .i64 m1), .v (.int .i64 m2)], .a [.v (.int .i64 m3), .v (.int .i64 m4), .v (.int .i64 m5), .v (.string z6), .v (.slice y7 ly7 cy7)]]) (H := []) (.s (.r ⟨(some []), false, [], []⟩) (.s (.s (.r ⟨(some [4, 5]), false, [], []⟩) .z) (.s (.r ⟨(some [4, 5]), false, [], []⟩) (.s (.s (.r ⟨(some [5, 7, 8]), false, [], []⟩) .z) (.s (.r ⟨(some [5, 7, 8]), false, [], []⟩) (.s .z (.s (.r ⟨(some [5, 7, 8]), false, [], []⟩) (.s (.r ⟨(some [5, 7, 8]), false, [], []⟩) (.s .z (.s (.s (.r ⟨(some [5, 7, 8]), false, [], []⟩) .z) (.s .z (.s (.r ⟨(some [5, 7, 8]), false, [], [(2, [999])]⟩) (.s (.r ⟨(some [5, 7, 8]), false, [], [(4, [999])]⟩) (.s (.r ⟨(some [7, 8]), false, [], []⟩) (.s (.r ⟨(some [8]), false, [], []⟩) .z))))))))))))))) Go.Proofs.Tryz.func3 rfl ⟨trivial, ⟨trivial, trivial, trivial⟩, ⟨trivial, trivial, trivial, trivial, trivial, trivial⟩, trivial⟩ trivial (Fr.init S w) trivial (cast_vc (by kernel_rfl) h)


end Go.Vc

/-! A part of the proof that two events of one line are one event: the calculus that follows known memory by computing, and its soundness. By an AI agent. -/



namespace Go.Vc
open Go
/-! ## an act that isn't there -/
theorem TickN {now : Int} {w : World} {K : Value → World → Prop} (hK : K (.tuple #[.slice none 0 0, .iface T.api_Errno (.int .i64 1)]) w) : CallV PR F.p_act_Act_Tick ⟨[.pointer none, .int .i64 now]⟩ w K := act_Tick_any none now S0 K w ⟨fun _ => hK, fun a h => by cases h⟩
theorem HearN {f k v i now : Int} {z : ByteArray} {y : Option Addr} {ly cy : Nat} {w : World} {K : Value → World → Prop} (hK : ∀ w', Grow w w' → K (.tuple #[.slice none 0 0, .iface T.api_Errno (.int .i64 1)]) w') : CallV PR F.p_act_Act_Hear ⟨[.pointer none, .int .i64 f, .agg #[.int .i64 k, .int .i64 v, .int .i64 i, .string z, .slice y ly cy], .int .i64 now]⟩ w K := act_Hear_any none f k v i z y ly cy now S0 K w fun l0 hl0 => ⟨fun _ w0 hF0 => hK w0 hF0.gr, fun a h => by cases h⟩
theorem NotedN {f : Int} {w : World} {K : Value → World → Prop} (hK : K (.tuple #[.int .i64 0, .int .i64 0, .int .i64 0]) w) : CallV PR F.p_act_Act_Noted ⟨[.pointer none, .int .i64 f]⟩ w K := act_Noted_any none f S0 K w ⟨fun _ => hK, fun a h => by cases h⟩
theorem TargetN {w : World} {K : Value → World → Prop} (hK : ∀ w', Grow w w' → K (.int .i64 0) w') : CallV PR F.p_act_Act_Target ⟨[.pointer none]⟩ w K := act_Target_any none S0 K w fun w0 hF0 => ⟨fun _ => True, trivial, fun _ => hK w0 hF0.gr, fun a h => by cases h⟩
theorem LiveN {now : Int} {w : World} {K : Value → World → Prop} (hK : K (.slice none 0 0) w) : CallV PR F.p_act_Act_Live ⟨[.pointer none, .int .i64 now]⟩ w K := act_Live_any none now S0 K w ⟨fun _ => hK, fun a h => by cases h⟩
theorem AllN {w : World} {K : Value → World → Prop} (hK : K (.bool false) w) : CallV PR F.p_act_Act_All ⟨[.pointer none]⟩ w K := act_All_any none S0 K w ⟨fun _ => hK, fun a h => by cases h⟩
theorem ErrT.grow {w w' : World} (h : ErrT w) (g : Grow w w') : ErrT w' := by
  unfold ErrT at h ⊢
  unfold World.cell? at h ⊢
  cases hb : w.heap[0]? with
  | none => simp [hb] at h
  | some o =>
    have := Grow.get g hb
    simp only [this]
    simp only [hb] at h
    exact h
theorem Code1 {w : World} {K : Value → World → Prop} (h : ErrT w) (hK : ∀ w', Grow w w' → K (.int .i64 1) w') : CallV PR F.api_Code #[.iface T.api_Errno (.int .i64 1)] w K := Code_errno_spec h (by decide) (by decide) hK
theorem ActNone_spec {w : World} (hE : ErrT w) {n f now k v i : Int} {z : ByteArray} {y : Option Addr} {c : Nat} {xs : List ByteArray} (hs : Sl w y (xs.map .string)) {K : Value → World → Prop} (hK : ∀ w', Grow w w' → K (.bool true) w') :
    CallV PR F.ladinglaw23_ActNone ⟨[.int .i64 n, .agg #[.int .i64 f, .int .i64 now], .agg #[.int .i64 k, .int .i64 v, .int .i64 i, .string z, .slice y xs.length c]]⟩ w K := by
  refine ladinglaw23_ActNone n f now k v i z y xs.length c S0 K w fun l0 hl0 l1 hl1 w0 hF0 => ?_
  refine awake23_spec fun w1 g1 => ⟨true, rfl, (fun _ => ⟨hF0.reset.after g1, by decide, by decide, by decide, by decide, fun w2 hF2 => ?_⟩), fun h => by cases h⟩
  refine Great18_spec (hs.grow hF2.gr) fun w3 b g3 => ⟨b, rfl, fun _ => ⟨hF2.reset.after g3, hK w3 (hF2.reset.after g3).gr⟩, fun _ => ⟨hF2.reset.after g3, ?_⟩⟩
  have hF3 := hF2.reset.after g3
  refine DNew_spec fun w4 bd g4 hbd hd => ⟨_, rfl, hF3.after g4, ?_⟩
  have hF4 := hF3.after g4
  refine Open0_spec (N := w3.heap.size) (each := 10) hd hbd g4.size (by decide) (by decide) fun w5 x g5 hx e1 e2 e3 e4 e5 hp => ⟨_, _, rfl, hF4.after g5, fun _ => ?_, (fun t x h => by cases h), .inl rfl⟩
  have hF5 := hF4.after g5
  have s35 := (g4.trans g5).size
  have rest : ∀ {wa : World} {L : List Blk}, Fs S0 w L wa → CallV PR F.p_act_Act_Tick #[.pointer none, .int .i64 now] wa (fun v11 w9 => ∃ q4 : Option Addr, ∃ l2 l3 : Nat, ∃ v12 : Value, v11 = .tuple #[.slice q4 l2 l3, v12] ∧ Fs S0 w L w9 ∧
      CallV PR F.p_act_Act_Hear #[.pointer none, .int .i64 f, .agg #[.int .i64 k, .int .i64 v, .int .i64 i, .string z, .slice y xs.length c], .int .i64 now] w9 (fun v13 w10 => ∃ q5 : Option Addr, ∃ l4 l5 : Nat, ∃ v14 : Value, v13 = .tuple #[.slice q5 l4 l5, v14] ∧ Fs S0 w L w10 ∧
        CallV PR F.p_act_Act_Noted #[.pointer none, .int .i64 f] w10 (fun v15 w11 => ∃ n1 n2 n3 : Int, v15 = .tuple #[.int .i64 n1, .int .i64 n2, .int .i64 n3] ∧ Fs S0 w [] w11 ∧ (IntKind.wrap .i64 ((l2 : Nat) + (l4 : Nat) : Int) = 0 →
          CallV PR F.api_Code #[v12] w11 (fun v16 w12 => ∃ n4 : Int, v16 = .int .i64 n4 ∧ Fs S0 w [] w12 ∧ (n4 = 1 → CallV PR F.api_Code #[v14] w12 (fun v17 w13 => ∃ n5 : Int, v17 = .int .i64 n5 ∧ Fs S0 w [] w13 ∧ (n5 = 1 → (IntKind.wrap .i64 (IntKind.wrap .i64 (n1 + n2) + n3) = 0 →
            CallV PR F.p_act_Act_Target #[.pointer none] w13 (fun v18 w14 => ∃ n6 : Int, v18 = .int .i64 n6 ∧ Fs S0 w [] w14 ∧ CallV PR F.p_act_Act_Live #[.pointer none, .int .i64 now] w14 (fun v19 w15 => ∃ q6 : Option Addr, ∃ l6 l7 : Nat, v19 = .slice q6 l6 l7 ∧ Fs S0 w [] w15 ∧ (IntKind.wrap .i64 (n6 + (l6 : Nat)) = 0 →
              CallV PR F.p_act_Act_All #[.pointer none] w15 (fun v20 w16 => ∃ b2 : Bool, v20 = .bool b2 ∧ (b2 = true → Fs S0 w [] w16 ∧ K (.bool false) w16) ∧ (b2 = false → Fs S0 w [] w16 ∧ K (.bool true) w16))) ∧ (¬ (IntKind.wrap .i64 (n6 + (l6 : Nat)) = 0) → K (.bool false) w15)))) ∧ (¬ (IntKind.wrap .i64 (IntKind.wrap .i64 (n1 + n2) + n3) = 0) → K (.bool false) w13)) ∧ (¬ (n5 = 1) → K (.bool false) w13))) ∧ (¬ (n4 = 1) → K (.bool false) w12))) ∧ (¬ (IntKind.wrap .i64 ((l2 : Nat) + (l4 : Nat) : Int) = 0) → K (.bool false) w11)))) := by
    intro wa L hF
    refine TickN ⟨_, _, _, _, rfl, hF, HearN fun w1 g1 => ⟨_, _, _, _, rfl, hF.after g1, NotedN ⟨_, _, _, rfl, (hF.after g1).sub (List.nil_sublist _), fun _ => ?_, fun h => absurd (by decide) h⟩⟩⟩
    have hF1 := (hF.after g1).sub (L' := []) (List.nil_sublist _)
    refine Code1 (hE.grow hF1.gr) fun w2 g2 => ⟨_, rfl, hF1.after g2, fun _ => Code1 (hE.grow (hF1.after g2).gr) fun w3 g3 => ⟨_, rfl, (hF1.after g2).after g3, fun _ => ⟨fun _ => ?_, fun h => absurd (by decide) h⟩, fun h => absurd rfl h⟩, fun h => absurd rfl h⟩
    have hF3 := (hF1.after g2).after g3
    refine TargetN fun w4 g4 => ⟨_, rfl, hF3.after g4, LiveN ⟨_, _, _, rfl, hF3.after g4, fun _ => AllN ⟨false, rfl, (fun h => by cases h), fun _ => ⟨hF3.after g4, hK w4 (hF3.after g4).gr⟩⟩, fun h => absurd (by decide) h⟩⟩
  have newN : ∀ {wa : World} {K' : Value → World → Prop}, K' (.tuple #[.pointer none, .iface T.api_Errno (.int .i64 1)]) wa → CallV PR F.act_New #[.pointer none, .int .i64 1] wa K' := fun h => act_New' none 1 S0 _ _ ⟨fun _ => h, fun a h => by cases h⟩
  refine New_spec hx s35 (fun w6 s kk hk k1 k4 g6 hs6 ex er sa sb => ⟨_, _, rfl, hF5.after g6, newN ⟨_, _, rfl, hF5.after g6, ?_⟩⟩) fun hbad => ⟨_, _, rfl, hF5, newN ⟨_, _, rfl, hF5, ?_⟩⟩
  · have hF6 := hF5.after g6
    refine Code1 (hE.grow hF6.gr) fun w7 g7 => ⟨_, rfl, hF6.after g7, fun _ => ⟨fun h => by omega, fun _ => ⟨fun h => by omega, fun _ => ⟨fun _ => ⟨fun _ => rest (hF6.after g7), (fun t x h => by cases h), .inl rfl⟩, (fun t x h => by cases h), .inl rfl⟩⟩⟩, fun h => absurd rfl h⟩
  · have fin : ∀ {wa : World} {J : Value → World → Prop}, Fs S0 w [] wa → True := fun _ => trivial
    refine Code1 (hE.grow hF5.gr) fun w7 g7 => ⟨_, rfl, hF5.after g7, fun _ => ⟨fun h1 => ⟨(fun h => by cases h), fun t x he => ⟨(fun h => by cases h), fun t x he => ⟨fun _ => Code1 (hE.grow (hF5.after g7).gr) fun w8 g8 => ⟨_, rfl, (hF5.after g7).after g8, fun _ => rest ((hF5.after g7).after g8), fun h => absurd rfl h⟩, fun a h => by cases h⟩, .inr ⟨_, _, rfl⟩⟩, .inr ⟨_, _, rfl⟩⟩,
      fun h1 => ⟨fun h4 => ⟨(fun h => by cases h), fun t x he => ⟨(fun h => by cases h), fun t x he => ⟨fun _ => Code1 (hE.grow (hF5.after g7).gr) fun w8 g8 => ⟨_, rfl, (hF5.after g7).after g8, fun _ => rest ((hF5.after g7).after g8), fun h => absurd rfl h⟩, fun a h => by cases h⟩, .inr ⟨_, _, rfl⟩⟩, .inr ⟨_, _, rfl⟩⟩, fun h4 => by omega⟩⟩, fun h => absurd rfl h⟩
end Go.Vc
