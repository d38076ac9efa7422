/-
  A part of the proof of the statement ActHelloSaid, in Lean: Ac3, Ac4, MirP14, Ac5, Ac6, He1, He2, Rw5. By an AI agent.
-/
import Derived.Test.YtjfpofjppjaofaaGreatP12
import Derived.Test.YtjfpofjppjaofaaGreatP03
import Derived.Test.YtjfpofjppjaofaaGreatP08
set_option linter.unusedSimpArgs false
set_option linter.unusedVariables false
set_option maxRecDepth 1000000
/-! A part of the proof that two events of one line are one event: the calculus that follows known memory by computing, and its soundness. By an AI agent. -/

namespace Go.Vc
open Go Go.MapKept
/-! ## an act: what is said -/
structure MsgV where
  kind : Int
  ver : Int
  i : Int
  text : ByteArray
def msgC (m : MsgV) : List Value := [.int .i64 m.kind, .int .i64 m.ver, .int .i64 m.i, .string m.text, .slice none 0 0]
theorem msgC_len (m : MsgV) : (msgC m).length = 5 := rfl
theorem u_msgs : PR.underlying T.sl_msg_Msg = some (.slice T.msg_Msg) := by kernel_rfl
theorem tyI_msg : ∃ i, PR.info? T.msg_Msg = some i ∧ i.size = 5 ∧ i.bytes = 64 ∧ i.zero = some (.agg #[.int .i64 0, .int .i64 0, .int .i64 0, .string ⟨#[]⟩, .slice none 0 0]) := by
  have h : (match PR.info? T.msg_Msg with | some i => i.size == 5 && i.bytes == 64 && (match i.zero with | some (.agg ⟨[.int .i64 0, .int .i64 0, .int .i64 0, .string ⟨⟨[]⟩⟩, .slice none 0 0]⟩) => true | _ => false) | none => false) = true := by kernel_rfl
  split at h
  · rename_i i hi
    simp only [Bool.and_eq_true, beq_iff_eq] at h
    refine ⟨i, hi, h.1.1, h.1.2, ?_⟩
    have h2 := h.2
    split at h2
    · assumption
    · cases h2
  · cases h
theorem app_msg {w : World} {q q2 : Option Addr} {l c l2 c2 : Nat} {xs ys : List MsgV} {K : Value → World → Prop}
    (ho : Own T.msg_Msg 5 w q c (xs.flatMap msgC)) (hl : l = xs.length) (hlc : l ≤ c) (hs : Sl w q2 (ys.flatMap msgC)) (hl2 : l2 = ys.length) (hroom : l + l2 ≤ 1000000)
    (hK : ∀ q' c' w', Own T.msg_Msg 5 w' q' c' ((xs ++ ys).flatMap msgC) → l + l2 ≤ c' → Chg (blkOf q) w w' → (∀ a, q' = some a → q = some a ∨ a = ⟨w.heap.size, 0, none⟩) → (c < l + l2 ∨ ys.flatMap msgC = [] → Grow w w') → K (.slice q' (l + l2) c') w') :
    rn PR (Builtin.append_ #[T.sl_msg_Msg, T.sl_msg_Msg] T.sl_msg_Msg #[.slice q l c, .slice q2 l2 c2]) K w := by
  obtain ⟨i, hi, hk, hb, hz⟩ := tyI_msg
  refine rn_sv <| sv_append_g (i := i) u_msgs u_msgs hi hz (by rw [hk]; rfl) (by rw [hb]; decide) (by rw [hk]; exact ho) (by rw [hk, flatK_size msgC_len, hl]) hlc hs (by rw [hk, flatK_size msgC_len, hl2]) (fun y hy => ?_) (by rw [hb]; omega) fun q' c' w' h => hK q' c' w' (by rw [hk] at h; rw [List.flatMap_append]; exact h)
  obtain ⟨m, _, hm⟩ := List.mem_flatMap.1 hy
  simp [msgC] at hm
  rcases hm with rfl | rfl | rfl | rfl | rfl <;> rfl
theorem word_spec {k t : Int} {w : World} {K : Value → World → Prop} (hK : ∀ w', Grow w w' → K (.agg #[.int .i64 k, .int .i64 t, .int .i64 0, .string ⟨#[]⟩, .slice none 0 0]) w') : CallV PR F.act_word ⟨[.int .i64 k, .int .i64 t]⟩ w K :=
  act_word k t S0 K w fun l0 hl0 w0 hF0 => hK w0 hF0.gr
def offerM (m : Man) : MsgV := ⟨1, 0, 0, str (putMan m)⟩
def wordM (k t : Int) : MsgV := ⟨k, t, 0, ⟨#[]⟩⟩
def beatM (t now : Int) : MsgV := ⟨10, t, now, ⟨#[]⟩⟩
def tellL (s : ActS) (r : Rp) : List MsgV := if 0 < s.tgt ∧ r.prepared < s.tgt then [offerM (s.x.man s.tgt)] ++ (if r.ready ≥ s.tgt then [wordM 6 s.tgt] else []) else []
def comL (s : ActS) (r : Rp) : List MsgV := if r.done < s.x.com then [offerM (s.x.man s.x.com), wordM 8 s.x.com] else []
/-- what is said to a replica -/
def saysL (s : ActS) (r : Rp) (now : Int) : List MsgV := [beatM s.x.com now] ++ tellL s r ++ comL s r
theorem behind_spec {N : Nat} {w : World} {s : ActS} (h : ActAt N w s) {r : Rp} {K : Value → World → Prop} (hK : ∀ w' t, Grow w w' → (t = true ↔ r.done < s.x.com) → K (.bool t) w') :
    CallV PR F.p_act_Act_behind ⟨[.pointer (some ⟨s.a, 0, none⟩), .agg #[.int .i64 r.ready, .int .i64 r.prepared, .int .i64 r.done, .bool r.heard, .int .i64 r.at_]]⟩ w K := by
  refine act_Act_behind s.a _ _ _ _ r.ready r.prepared r.done r.heard r.at_ (· = s.a) K w h.e ⟨rfl, trivial⟩ fun l0 hl0 w0 hF0 => ?_
  exact Committed_spec (h.pub.grow hF0.grow) ⟨_, rfl, hF0.reset, fun hlt => hK w0 true hF0.grow ⟨fun _ => hlt, fun _ => rfl⟩, fun hge => hK w0 false hF0.grow ⟨(fun h => by cases h), fun h => absurd h hge⟩⟩
theorem says_spec {N : Nat} {w : World} {s : ActS} (h : ActAt N w s) {r : Rp} {now : Int} (hd : 0 ≤ r.done) {K : Value → World → Prop}
    (hK : ∀ w' q c, Grow w w' → Sl w' q ((saysL s r now).flatMap msgC) → (∀ a, q = some a → w.heap.size ≤ a.block ∧ a.block < w'.heap.size) → K (.slice q (saysL s r now).length c) w') :
    CallV PR F.p_act_Act_says ⟨[.pointer (some ⟨s.a, 0, none⟩), .agg #[.int .i64 r.ready, .int .i64 r.prepared, .int .i64 r.done, .bool r.heard, .int .i64 r.at_], .int .i64 now]⟩ w K := by
  have ha := heap_lt h.blk
  have gr : ∀ {wp wi : World} {M : List Nat} {L : List Blk}, Fr (· = s.a) w wp M (⟨s.a, actC s, T.act_Act, true⟩ :: L) wi → Grow w wi := fun hF => hF.chg.same h.blk (hF.blk 0 rfl)
  have hp : ∀ {wi : World}, Grow w wi → PubAt N wi s.x := fun g => h.pub.grow g
  have hcl := h.pub.com_le
  refine act_Act_says s.a _ _ _ _ r.ready r.prepared r.done r.heard r.at_ now (· = s.a) K w h.e ⟨rfl, trivial⟩ fun l0 hl0 w1 hF1 => ?_
  refine Committed_spec (hp (gr hF1)) ⟨_, rfl, hF1.reset, fun l1 hl1 w2 hF2 => ?_⟩
  refine Target_spec (h.grow (gr hF2)) fun w3 g3 => ⟨_, rfl, hF2.reset.after g3, ?_⟩
  have hF3 := hF2.reset.after g3
  have hl0w : l0 < w1.heap.size := heap_lt (hF1.blk 1 rfl)
  have ho3 : Own T.msg_Msg 5 w3 (some ⟨l1, 0, none⟩) 1 ([beatM s.x.com now].flatMap msgC) := .inr ⟨l1, 0, _, rfl, hF3.blk 2 rfl, rfl, by omega, Nat.le_refl 5, fun i hi => by rw [Nat.zero_add]; simp [msgC, beatM]⟩
  have of3 : Off (fun j => j < w1.heap.size) (some ⟨l1, 0, none⟩) := fun a ha hlt => by cases ha; simp only [] at hlt; omega
  have s1 := (gr hF1).size
  -- the end: what is committed is told
  have fin : ∀ {wi : World} {q : Option Addr} {c : Nat} {ms : List MsgV}, Grow w wi → Sl wi q (ms.flatMap msgC) → ms = saysL s r now → (∀ a, q = some a → w.heap.size ≤ a.block ∧ a.block < wi.heap.size) → K (.slice q ms.length c) wi := fun g hs e hb => by subst e; exact hK _ _ _ g hs hb
  have htgt : s.tgt = 0 ∨ s.tgt = s.x.last := by unfold ActS.tgt; split <;> simp
  refine ⟨fun htg => ⟨fun hpr => ?_, fun hpr => ?_⟩, fun htg => ?_⟩
  · have htl : s.tgt = s.x.last := by omega
    refine Offer_spec (i := s.tgt) (hp (gr hF3)) (by omega) (by omega) (.inl (by omega)) fun w4 g4 => ⟨_, _, _, _, _, _, _, _, rfl, hF3.after g4, fun l4 hl4 l5 hl5 w5 hF5 => ?_⟩
    have g35 : Grow w3 w5 := g4.trans (hF5.unM hl4).grow
    refine app_msg (xs := [beatM s.x.com now]) (ys := [offerM (s.x.man s.tgt)]) (ho3.grow g35) rfl (Nat.le_refl _) (hF5.sl 4 rfl) rfl (by decide) fun q1 c1 w6 ho6 hc6 g6 hq6 hg6 => ?_
    have g56 := hg6 (.inl (by decide))
    have hF6 := (hF5.unM hl4).after g56
    have of6 : Off (fun j => j < w1.heap.size) q1 := of3.next hq6 (by have := g35.size; have := g3.size; have := hF2.grow.size; omega)
    have hlc : 1 + 1 ≤ c1 := hc6
    refine ⟨_, _, _, rfl, hF6, fun hrd => ?_, fun hrd => ?_⟩
    · have hms : tellL s r = [offerM (s.x.man s.tgt)] ++ [wordM 6 s.tgt] := by rw [tellL, if_pos ⟨by omega, hpr⟩, if_pos hrd]
      refine word_spec fun w7 g7 => ⟨_, _, _, _, _, _, _, rfl, (hF6.after g7).sub (by simp), fun l10 hl10 w8 hF8 => ?_⟩
      have g68 : Grow w6 w8 := g7.trans hF8.grow
      refine app_msg (ys := [wordM 6 s.tgt]) (ho6.grow g68) rfl hlc (hF8.sl 2 rfl) rfl (by decide) fun q3 c3 w9 ho9 hc9 g9 hq9 hg9 => ?_
      have hF9 := hF8.app2 g9 w1.heap.size w6.heap.size of6 (fun a ha => ho6.lt a ha) (fun x hx => by have := g7.size; simp at hx; rcases hx with rfl | rfl | rfl; exact .inl (by simp only []; omega); exact .inl hl0w; exact .inr (by simp only []; omega)) s1
      have of9 : Off (fun j => j < w1.heap.size) q3 := of6.next hq9 (by have := (gr hF8).size; have := g68.size; have := g56.size; have := g35.size; have := g3.size; have := hF2.grow.size; omega)
      have hlc : 1 + 1 + 1 ≤ c3 := hc9
      refine ⟨_, _, _, rfl, hF9, ?_⟩
      have w1O : w1.heap.size ≤ w9.heap.size := by have := g9.size; have := g68.size; have := g56.size; have := g35.size; have := g3.size; have := hF2.grow.size; omega
      refine behind_spec (h.grow (gr hF9)) fun w10 t g10 ht => ⟨t, rfl, fun htt => ?_, fun htf => ?_⟩
      · have hbe : r.done < s.x.com := ht.1 htt
        have htel : comL s r = [offerM (s.x.man s.x.com), wordM 8 s.x.com] := if_pos hbe
        have hF10 := hF9.reset.after g10
        have gO10 : Grow w9 w10 := g10
        refine ⟨hF10.sub (by simp), fun w11 hF11 => ?_, fun l29 hl29 w26 hF26 => ?_⟩
        · have gO11 := gO10.trans hF11.grow
          refine Committed_spec (hp (gr hF11)) ⟨_, rfl, hF11.reset, ?_, fun l21 hl21 w19 hF19 => ?_⟩
          · refine Offer_spec (hp (gr hF11)) (by omega) hcl (.inr rfl) fun w13 g13 => ⟨_, _, _, _, _, _, _, _, rfl, hF11.reset.after g13, fun l15 hl15 w14 hF14 => ?_⟩
            have b15 : w11.heap.size ≤ l15 := by have := g13.size; omega
            have bO := gO11.size
            have gO14 : Grow w9 _ := ((gO11.trans g13).trans (hF14.unM hl15).grow)
            refine Committed_spec (hp (gr hF14)) ⟨_, rfl, hF14.reset, ?_⟩
            refine word_spec fun w16 g16 => ⟨_, _, _, _, _, _, _, rfl, hF14.reset.after g16, fun l18 hl18 w17 hF17 => ?_⟩
            have gO17 : Grow w9 w17 := (gO14.trans g16).trans hF17.grow
            refine app_msg (ys := [offerM (s.x.man s.x.com), wordM 8 s.x.com]) (ho9.grow gO17) rfl hlc (hF17.sl 2 rfl) rfl (by decide) fun q6 c6 w18 ho18 hc18 g18 hq18 hg18 => ?_
            have hF18 := hF17.app2 g18 w1.heap.size w9.heap.size of9 (fun a ha => ho9.lt a ha) (fun x hx => by have := gO17.size; have := gO14.size; have := g16.size; simp at hx; rcases hx with rfl | rfl | rfl; exact .inl (by simp only []; omega); exact .inr (by simp only []; omega); exact .inr (by simp only []; omega)) s1
            exact ⟨_, _, _, rfl, hF18, fin (gr hF18) ho18.sl (by rw [saysL, hms, htel] <;> rfl) fun a ha => ⟨by have := (of9.next hq18 (by have := gO17.size; omega)).le a ha; omega, ho18.lt a ha⟩⟩
          · have gO19 := gO11.trans hF19.grow
            refine Offer_spec (hp (gr hF19)) (by omega) hcl (.inr rfl) fun w20 g20 => ⟨_, _, _, _, _, _, _, _, rfl, hF19.reset.after g20, fun w21 hF21 => ?_⟩
            have bO := gO11.size
            have gO14 : Grow w9 _ := (Chg.trans (gO19.trans g20) hF21.stp fun i hi hm => by simp at hm; omega)
            refine Committed_spec (hp (gr hF21)) ⟨_, rfl, hF21.reset, ?_⟩
            refine word_spec fun w16 g16 => ⟨_, _, _, _, _, _, _, rfl, hF21.reset.after g16, fun l18 hl18 w17 hF17 => ?_⟩
            have gO17 : Grow w9 w17 := (gO14.trans g16).trans hF17.grow
            refine app_msg (ys := [offerM (s.x.man s.x.com), wordM 8 s.x.com]) (ho9.grow gO17) rfl hlc (hF17.sl 2 rfl) rfl (by decide) fun q6 c6 w18 ho18 hc18 g18 hq18 hg18 => ?_
            have hF18 := hF17.app2 g18 w1.heap.size w9.heap.size of9 (fun a ha => ho9.lt a ha) (fun x hx => by have := gO17.size; have := gO14.size; have := g16.size; simp at hx; rcases hx with rfl | rfl | rfl; exact .inl (by simp only []; omega); exact .inr (by simp only []; omega); exact .inr (by simp only []; omega)) s1
            exact ⟨_, _, _, rfl, hF18, fin (gr hF18) ho18.sl (by rw [saysL, hms, htel] <;> rfl) fun a ha => ⟨by have := (of9.next hq18 (by have := gO17.size; omega)).le a ha; omega, ho18.lt a ha⟩⟩
        · have gO26 := gO10.trans hF26.grow
          refine Committed_spec (hp (gr hF26)) ⟨_, rfl, hF26.reset, ?_⟩
          refine Offer_spec (hp (gr hF26)) (by omega) hcl (.inr rfl) fun w28 g28 => ⟨_, _, _, _, _, _, _, _, rfl, hF26.reset.after g28, fun w29 hF29 => ?_⟩
          have bO := gO10.size
          have gO14 : Grow w9 _ := (Chg.trans (gO26.trans g28) hF29.stp fun i hi hm => by simp at hm; omega)
          refine Committed_spec (hp (gr hF29)) ⟨_, rfl, hF29.reset, ?_⟩
          refine word_spec fun w16 g16 => ⟨_, _, _, _, _, _, _, rfl, hF29.reset.after g16, fun l18 hl18 w17 hF17 => ?_⟩
          have gO17 : Grow w9 w17 := (gO14.trans g16).trans hF17.grow
          refine app_msg (ys := [offerM (s.x.man s.x.com), wordM 8 s.x.com]) (ho9.grow gO17) rfl hlc (hF17.sl 2 rfl) rfl (by decide) fun q6 c6 w18 ho18 hc18 g18 hq18 hg18 => ?_
          have hF18 := hF17.app2 g18 w1.heap.size w9.heap.size of9 (fun a ha => ho9.lt a ha) (fun x hx => by have := gO17.size; have := gO14.size; have := g16.size; simp at hx; rcases hx with rfl | rfl | rfl; exact .inl (by simp only []; omega); exact .inr (by simp only []; omega); exact .inr (by simp only []; omega)) s1
          exact ⟨_, _, _, rfl, hF18, fin (gr hF18) ho18.sl (by rw [saysL, hms, htel] <;> rfl) fun a ha => ⟨by have := (of9.next hq18 (by have := gO17.size; omega)).le a ha; omega, ho18.lt a ha⟩⟩
      · have hbe : ¬ r.done < s.x.com := fun hlt => by rw [ht.2 hlt] at htf; cases htf
        have htel : comL s r = [] := if_neg hbe
        have hF10 := hF9.reset.after g10
        have gO10 : Grow w9 w10 := g10
        exact ⟨hF10.sub (by simp), fin (gr hF10) (ho9.sl.grow gO10) (by rw [saysL, hms, htel] <;> rfl) fun a ha => ⟨by have := of9.le a ha; omega, by have := ho9.lt a ha; have := gO10.size; omega⟩⟩
    · have hms : tellL s r = [offerM (s.x.man s.tgt)] := by rw [tellL, if_pos ⟨by omega, hpr⟩, if_neg hrd, List.append_nil]
      have w1O : w1.heap.size ≤ w6.heap.size := by have := g56.size; have := g35.size; have := g3.size; have := hF2.grow.size; omega
      refine behind_spec (h.grow (gr hF6)) fun w10 t g10 ht => ⟨t, rfl, fun htt => ?_, fun htf => ?_⟩
      · have hbe : r.done < s.x.com := ht.1 htt
        have htel : comL s r = [offerM (s.x.man s.x.com), wordM 8 s.x.com] := if_pos hbe
        have hF10 := hF6.reset.after g10
        have gO10 : Grow w6 w10 := g10
        refine ⟨hF10.sub (by simp), fun w11 hF11 => ?_, fun l29 hl29 w26 hF26 => ?_⟩
        · have gO11 := gO10.trans hF11.grow
          refine Committed_spec (hp (gr hF11)) ⟨_, rfl, hF11.reset, ?_, fun l21 hl21 w19 hF19 => ?_⟩
          · refine Offer_spec (hp (gr hF11)) (by omega) hcl (.inr rfl) fun w13 g13 => ⟨_, _, _, _, _, _, _, _, rfl, hF11.reset.after g13, fun l15 hl15 w14 hF14 => ?_⟩
            have b15 : w11.heap.size ≤ l15 := by have := g13.size; omega
            have bO := gO11.size
            have gO14 : Grow w6 _ := ((gO11.trans g13).trans (hF14.unM hl15).grow)
            refine Committed_spec (hp (gr hF14)) ⟨_, rfl, hF14.reset, ?_⟩
            refine word_spec fun w16 g16 => ⟨_, _, _, _, _, _, _, rfl, hF14.reset.after g16, fun l18 hl18 w17 hF17 => ?_⟩
            have gO17 : Grow w6 w17 := (gO14.trans g16).trans hF17.grow
            refine app_msg (ys := [offerM (s.x.man s.x.com), wordM 8 s.x.com]) (ho6.grow gO17) rfl hlc (hF17.sl 2 rfl) rfl (by decide) fun q6 c6 w18 ho18 hc18 g18 hq18 hg18 => ?_
            have hF18 := hF17.app2 g18 w1.heap.size w6.heap.size of6 (fun a ha => ho6.lt a ha) (fun x hx => by have := gO17.size; have := gO14.size; have := g16.size; simp at hx; rcases hx with rfl | rfl | rfl; exact .inl (by simp only []; omega); exact .inr (by simp only []; omega); exact .inr (by simp only []; omega)) s1
            exact ⟨_, _, _, rfl, hF18, fin (gr hF18) ho18.sl (by rw [saysL, hms, htel] <;> rfl) fun a ha => ⟨by have := (of6.next hq18 (by have := gO17.size; omega)).le a ha; omega, ho18.lt a ha⟩⟩
          · have gO19 := gO11.trans hF19.grow
            refine Offer_spec (hp (gr hF19)) (by omega) hcl (.inr rfl) fun w20 g20 => ⟨_, _, _, _, _, _, _, _, rfl, hF19.reset.after g20, fun w21 hF21 => ?_⟩
            have bO := gO11.size
            have gO14 : Grow w6 _ := (Chg.trans (gO19.trans g20) hF21.stp fun i hi hm => by simp at hm; omega)
            refine Committed_spec (hp (gr hF21)) ⟨_, rfl, hF21.reset, ?_⟩
            refine word_spec fun w16 g16 => ⟨_, _, _, _, _, _, _, rfl, hF21.reset.after g16, fun l18 hl18 w17 hF17 => ?_⟩
            have gO17 : Grow w6 w17 := (gO14.trans g16).trans hF17.grow
            refine app_msg (ys := [offerM (s.x.man s.x.com), wordM 8 s.x.com]) (ho6.grow gO17) rfl hlc (hF17.sl 2 rfl) rfl (by decide) fun q6 c6 w18 ho18 hc18 g18 hq18 hg18 => ?_
            have hF18 := hF17.app2 g18 w1.heap.size w6.heap.size of6 (fun a ha => ho6.lt a ha) (fun x hx => by have := gO17.size; have := gO14.size; have := g16.size; simp at hx; rcases hx with rfl | rfl | rfl; exact .inl (by simp only []; omega); exact .inr (by simp only []; omega); exact .inr (by simp only []; omega)) s1
            exact ⟨_, _, _, rfl, hF18, fin (gr hF18) ho18.sl (by rw [saysL, hms, htel] <;> rfl) fun a ha => ⟨by have := (of6.next hq18 (by have := gO17.size; omega)).le a ha; omega, ho18.lt a ha⟩⟩
        · have gO26 := gO10.trans hF26.grow
          refine Committed_spec (hp (gr hF26)) ⟨_, rfl, hF26.reset, ?_⟩
          refine Offer_spec (hp (gr hF26)) (by omega) hcl (.inr rfl) fun w28 g28 => ⟨_, _, _, _, _, _, _, _, rfl, hF26.reset.after g28, fun w29 hF29 => ?_⟩
          have bO := gO10.size
          have gO14 : Grow w6 _ := (Chg.trans (gO26.trans g28) hF29.stp fun i hi hm => by simp at hm; omega)
          refine Committed_spec (hp (gr hF29)) ⟨_, rfl, hF29.reset, ?_⟩
          refine word_spec fun w16 g16 => ⟨_, _, _, _, _, _, _, rfl, hF29.reset.after g16, fun l18 hl18 w17 hF17 => ?_⟩
          have gO17 : Grow w6 w17 := (gO14.trans g16).trans hF17.grow
          refine app_msg (ys := [offerM (s.x.man s.x.com), wordM 8 s.x.com]) (ho6.grow gO17) rfl hlc (hF17.sl 2 rfl) rfl (by decide) fun q6 c6 w18 ho18 hc18 g18 hq18 hg18 => ?_
          have hF18 := hF17.app2 g18 w1.heap.size w6.heap.size of6 (fun a ha => ho6.lt a ha) (fun x hx => by have := gO17.size; have := gO14.size; have := g16.size; simp at hx; rcases hx with rfl | rfl | rfl; exact .inl (by simp only []; omega); exact .inr (by simp only []; omega); exact .inr (by simp only []; omega)) s1
          exact ⟨_, _, _, rfl, hF18, fin (gr hF18) ho18.sl (by rw [saysL, hms, htel] <;> rfl) fun a ha => ⟨by have := (of6.next hq18 (by have := gO17.size; omega)).le a ha; omega, ho18.lt a ha⟩⟩
      · have hbe : ¬ r.done < s.x.com := fun hlt => by rw [ht.2 hlt] at htf; cases htf
        have htel : comL s r = [] := if_neg hbe
        have hF10 := hF6.reset.after g10
        have gO10 : Grow w6 w10 := g10
        exact ⟨hF10.sub (by simp), fin (gr hF10) (ho6.sl.grow gO10) (by rw [saysL, hms, htel] <;> rfl) fun a ha => ⟨by have := of6.le a ha; omega, by have := ho6.lt a ha; have := gO10.size; omega⟩⟩
  · have hms : tellL s r = [] := if_neg fun hh => hpr hh.2
    have w1O : w1.heap.size ≤ w3.heap.size := by have := g3.size; have := hF2.grow.size; omega
    refine behind_spec (h.grow (gr hF3)) fun w10 t g10 ht => ⟨t, rfl, fun htt => ?_, fun htf => ?_⟩
    · have hbe : r.done < s.x.com := ht.1 htt
      have htel : comL s r = [offerM (s.x.man s.x.com), wordM 8 s.x.com] := if_pos hbe
      have hF10 := hF3.reset.after g10
      have gO10 : Grow w3 w10 := g10
      refine ⟨hF10.sub (by simp), fun w11 hF11 => ?_, fun l29 hl29 w26 hF26 => ?_⟩
      · have gO11 := gO10.trans hF11.grow
        refine Committed_spec (hp (gr hF11)) ⟨_, rfl, hF11.reset, ?_, fun l21 hl21 w19 hF19 => ?_⟩
        · refine Offer_spec (hp (gr hF11)) (by omega) hcl (.inr rfl) fun w13 g13 => ⟨_, _, _, _, _, _, _, _, rfl, hF11.reset.after g13, fun l15 hl15 w14 hF14 => ?_⟩
          have b15 : w11.heap.size ≤ l15 := by have := g13.size; omega
          have bO := gO11.size
          have gO14 : Grow w3 _ := ((gO11.trans g13).trans (hF14.unM hl15).grow)
          refine Committed_spec (hp (gr hF14)) ⟨_, rfl, hF14.reset, ?_⟩
          refine word_spec fun w16 g16 => ⟨_, _, _, _, _, _, _, rfl, hF14.reset.after g16, fun l18 hl18 w17 hF17 => ?_⟩
          have gO17 : Grow w3 w17 := (gO14.trans g16).trans hF17.grow
          refine app_msg (ys := [offerM (s.x.man s.x.com), wordM 8 s.x.com]) (ho3.grow gO17) rfl (Nat.le_refl _) (hF17.sl 3 rfl) rfl (by decide) fun q6 c6 w18 ho18 hc18 g18 hq18 hg18 => ?_
          have hF18 := hF17.reset.after (hg18 (.inl (by decide)))
          exact ⟨_, _, _, rfl, hF18, fin (gr hF18) ho18.sl (by rw [saysL, hms, htel] <;> rfl) fun a ha => ⟨by have := (of3.next hq18 (by have := gO17.size; omega)).le a ha; omega, ho18.lt a ha⟩⟩
        · have gO19 := gO11.trans hF19.grow
          refine Offer_spec (hp (gr hF19)) (by omega) hcl (.inr rfl) fun w20 g20 => ⟨_, _, _, _, _, _, _, _, rfl, hF19.reset.after g20, fun w21 hF21 => ?_⟩
          have bO := gO11.size
          have gO14 : Grow w3 _ := (Chg.trans (gO19.trans g20) hF21.stp fun i hi hm => by simp at hm; omega)
          refine Committed_spec (hp (gr hF21)) ⟨_, rfl, hF21.reset, ?_⟩
          refine word_spec fun w16 g16 => ⟨_, _, _, _, _, _, _, rfl, hF21.reset.after g16, fun l18 hl18 w17 hF17 => ?_⟩
          have gO17 : Grow w3 w17 := (gO14.trans g16).trans hF17.grow
          refine app_msg (ys := [offerM (s.x.man s.x.com), wordM 8 s.x.com]) (ho3.grow gO17) rfl (Nat.le_refl _) (hF17.sl 3 rfl) rfl (by decide) fun q6 c6 w18 ho18 hc18 g18 hq18 hg18 => ?_
          have hF18 := hF17.reset.after (hg18 (.inl (by decide)))
          exact ⟨_, _, _, rfl, hF18, fin (gr hF18) ho18.sl (by rw [saysL, hms, htel] <;> rfl) fun a ha => ⟨by have := (of3.next hq18 (by have := gO17.size; omega)).le a ha; omega, ho18.lt a ha⟩⟩
      · have gO26 := gO10.trans hF26.grow
        refine Committed_spec (hp (gr hF26)) ⟨_, rfl, hF26.reset, ?_⟩
        refine Offer_spec (hp (gr hF26)) (by omega) hcl (.inr rfl) fun w28 g28 => ⟨_, _, _, _, _, _, _, _, rfl, hF26.reset.after g28, fun w29 hF29 => ?_⟩
        have bO := gO10.size
        have gO14 : Grow w3 _ := (Chg.trans (gO26.trans g28) hF29.stp fun i hi hm => by simp at hm; omega)
        refine Committed_spec (hp (gr hF29)) ⟨_, rfl, hF29.reset, ?_⟩
        refine word_spec fun w16 g16 => ⟨_, _, _, _, _, _, _, rfl, hF29.reset.after g16, fun l18 hl18 w17 hF17 => ?_⟩
        have gO17 : Grow w3 w17 := (gO14.trans g16).trans hF17.grow
        refine app_msg (ys := [offerM (s.x.man s.x.com), wordM 8 s.x.com]) (ho3.grow gO17) rfl (Nat.le_refl _) (hF17.sl 3 rfl) rfl (by decide) fun q6 c6 w18 ho18 hc18 g18 hq18 hg18 => ?_
        have hF18 := hF17.reset.after (hg18 (.inl (by decide)))
        exact ⟨_, _, _, rfl, hF18, fin (gr hF18) ho18.sl (by rw [saysL, hms, htel] <;> rfl) fun a ha => ⟨by have := (of3.next hq18 (by have := gO17.size; omega)).le a ha; omega, ho18.lt a ha⟩⟩
    · have hbe : ¬ r.done < s.x.com := fun hlt => by rw [ht.2 hlt] at htf; cases htf
      have htel : comL s r = [] := if_neg hbe
      have hF10 := hF3.reset.after g10
      have gO10 : Grow w3 w10 := g10
      exact ⟨hF10.sub (by simp), fin (gr hF10) (ho3.sl.grow gO10) (by rw [saysL, hms, htel] <;> rfl) fun a ha => ⟨by have := of3.le a ha; omega, by have := ho3.lt a ha; have := gO10.size; omega⟩⟩
  · have hms : tellL s r = [] := if_neg fun hh => htg (by omega)
    have w1O : w1.heap.size ≤ w3.heap.size := by have := g3.size; have := hF2.grow.size; omega
    refine behind_spec (h.grow (gr hF3)) fun w10 t g10 ht => ⟨t, rfl, fun htt => ?_, fun htf => ?_⟩
    · have hbe : r.done < s.x.com := ht.1 htt
      have htel : comL s r = [offerM (s.x.man s.x.com), wordM 8 s.x.com] := if_pos hbe
      have hF10 := hF3.reset.after g10
      have gO10 : Grow w3 w10 := g10
      refine ⟨hF10.sub (by simp), fun w11 hF11 => ?_, fun l29 hl29 w26 hF26 => ?_⟩
      · have gO11 := gO10.trans hF11.grow
        refine Committed_spec (hp (gr hF11)) ⟨_, rfl, hF11.reset, ?_, fun l21 hl21 w19 hF19 => ?_⟩
        · refine Offer_spec (hp (gr hF11)) (by omega) hcl (.inr rfl) fun w13 g13 => ⟨_, _, _, _, _, _, _, _, rfl, hF11.reset.after g13, fun l15 hl15 w14 hF14 => ?_⟩
          have b15 : w11.heap.size ≤ l15 := by have := g13.size; omega
          have bO := gO11.size
          have gO14 : Grow w3 _ := ((gO11.trans g13).trans (hF14.unM hl15).grow)
          refine Committed_spec (hp (gr hF14)) ⟨_, rfl, hF14.reset, ?_⟩
          refine word_spec fun w16 g16 => ⟨_, _, _, _, _, _, _, rfl, hF14.reset.after g16, fun l18 hl18 w17 hF17 => ?_⟩
          have gO17 : Grow w3 w17 := (gO14.trans g16).trans hF17.grow
          refine app_msg (ys := [offerM (s.x.man s.x.com), wordM 8 s.x.com]) (ho3.grow gO17) rfl (Nat.le_refl _) (hF17.sl 3 rfl) rfl (by decide) fun q6 c6 w18 ho18 hc18 g18 hq18 hg18 => ?_
          have hF18 := hF17.reset.after (hg18 (.inl (by decide)))
          exact ⟨_, _, _, rfl, hF18, fin (gr hF18) ho18.sl (by rw [saysL, hms, htel] <;> rfl) fun a ha => ⟨by have := (of3.next hq18 (by have := gO17.size; omega)).le a ha; omega, ho18.lt a ha⟩⟩
        · have gO19 := gO11.trans hF19.grow
          refine Offer_spec (hp (gr hF19)) (by omega) hcl (.inr rfl) fun w20 g20 => ⟨_, _, _, _, _, _, _, _, rfl, hF19.reset.after g20, fun w21 hF21 => ?_⟩
          have bO := gO11.size
          have gO14 : Grow w3 _ := (Chg.trans (gO19.trans g20) hF21.stp fun i hi hm => by simp at hm; omega)
          refine Committed_spec (hp (gr hF21)) ⟨_, rfl, hF21.reset, ?_⟩
          refine word_spec fun w16 g16 => ⟨_, _, _, _, _, _, _, rfl, hF21.reset.after g16, fun l18 hl18 w17 hF17 => ?_⟩
          have gO17 : Grow w3 w17 := (gO14.trans g16).trans hF17.grow
          refine app_msg (ys := [offerM (s.x.man s.x.com), wordM 8 s.x.com]) (ho3.grow gO17) rfl (Nat.le_refl _) (hF17.sl 3 rfl) rfl (by decide) fun q6 c6 w18 ho18 hc18 g18 hq18 hg18 => ?_
          have hF18 := hF17.reset.after (hg18 (.inl (by decide)))
          exact ⟨_, _, _, rfl, hF18, fin (gr hF18) ho18.sl (by rw [saysL, hms, htel] <;> rfl) fun a ha => ⟨by have := (of3.next hq18 (by have := gO17.size; omega)).le a ha; omega, ho18.lt a ha⟩⟩
      · have gO26 := gO10.trans hF26.grow
        refine Committed_spec (hp (gr hF26)) ⟨_, rfl, hF26.reset, ?_⟩
        refine Offer_spec (hp (gr hF26)) (by omega) hcl (.inr rfl) fun w28 g28 => ⟨_, _, _, _, _, _, _, _, rfl, hF26.reset.after g28, fun w29 hF29 => ?_⟩
        have bO := gO10.size
        have gO14 : Grow w3 _ := (Chg.trans (gO26.trans g28) hF29.stp fun i hi hm => by simp at hm; omega)
        refine Committed_spec (hp (gr hF29)) ⟨_, rfl, hF29.reset, ?_⟩
        refine word_spec fun w16 g16 => ⟨_, _, _, _, _, _, _, rfl, hF29.reset.after g16, fun l18 hl18 w17 hF17 => ?_⟩
        have gO17 : Grow w3 w17 := (gO14.trans g16).trans hF17.grow
        refine app_msg (ys := [offerM (s.x.man s.x.com), wordM 8 s.x.com]) (ho3.grow gO17) rfl (Nat.le_refl _) (hF17.sl 3 rfl) rfl (by decide) fun q6 c6 w18 ho18 hc18 g18 hq18 hg18 => ?_
        have hF18 := hF17.reset.after (hg18 (.inl (by decide)))
        exact ⟨_, _, _, rfl, hF18, fin (gr hF18) ho18.sl (by rw [saysL, hms, htel] <;> rfl) fun a ha => ⟨by have := (of3.next hq18 (by have := gO17.size; omega)).le a ha; omega, ho18.lt a ha⟩⟩
    · have hbe : ¬ r.done < s.x.com := fun hlt => by rw [ht.2 hlt] at htf; cases htf
      have htel : comL s r = [] := if_neg hbe
      have hF10 := hF3.reset.after g10
      have gO10 : Grow w3 w10 := g10
      exact ⟨hF10.sub (by simp), fin (gr hF10) (ho3.sl.grow gO10) (by rw [saysL, hms, htel] <;> rfl) fun a ha => ⟨by have := of3.le a ha; omega, by have := ho3.lt a ha; have := gO10.size; omega⟩⟩
end Go.Vc

/-! A part of the proof that two events of one line are one event: the calculus that follows known memory by computing, and its soundness. By an AI agent. -/

namespace Go.Vc
open Go Go.MapKept
/-! ## an act: a tick -/
structure OutV where
  to : Int
  m : MsgV
def outC (o : OutV) : List Value := [.int .i64 o.to, .int .i64 o.m.kind, .int .i64 o.m.ver, .int .i64 o.m.i, .string o.m.text, .slice none 0 0]
theorem outC_len (o : OutV) : (outC o).length = 6 := rfl
theorem u_outs : PR.underlying T.sl_fetch_Out = some (.slice T.fetch_Out) := by kernel_rfl
theorem tyI_out : ∃ i z, PR.info? T.fetch_Out = some i ∧ i.size = 6 ∧ i.bytes = 72 ∧ i.zero = some z ∧ z.cells.size = 6 := by
  have h : (match PR.info? T.fetch_Out with | some i => i.size == 6 && i.bytes == 72 && (match i.zero with | some z => z.cells.size == 6 | _ => false) | none => false) = true := by kernel_rfl
  split at h
  · rename_i i hi
    simp only [Bool.and_eq_true, beq_iff_eq] at h
    have h2 := h.2
    split at h2
    · rename_i z hz
      exact ⟨i, z, hi, h.1.1, h.1.2, hz, by simpa using h2⟩
    · cases h2
  · cases h
theorem app_out {w : World} {q q2 : Option Addr} {l c l2 c2 : Nat} {xs ys : List OutV} {K : Value → World → Prop}
    (ho : Own T.fetch_Out 6 w q c (xs.flatMap outC)) (hl : l = xs.length) (hlc : l ≤ c) (hs : Sl w q2 (ys.flatMap outC)) (hl2 : l2 = ys.length) (hroom : l + l2 ≤ 1000000)
    (hK : ∀ q' c' w', Own T.fetch_Out 6 w' q' c' ((xs ++ ys).flatMap outC) → l + l2 ≤ c' → Chg (blkOf q) w w' → (∀ a, q' = some a → q = some a ∨ a = ⟨w.heap.size, 0, none⟩) → K (.slice q' (l + l2) c') w') :
    rn PR (Builtin.append_ #[T.sl_fetch_Out, T.sl_fetch_Out] T.sl_fetch_Out #[.slice q l c, .slice q2 l2 c2]) K w := by
  obtain ⟨i, z, hi, hk, hb, hz, hzs⟩ := tyI_out
  refine rn_sv <| sv_append' (i := i) (k := 6) (by_ := 72) u_outs u_outs hi hz hk hb hzs (by decide) ho (by rw [flatK_size outC_len, hl]) hlc hs (by rw [flatK_size outC_len, hl2]) (fun y hy => ?_) (by omega) fun q' c' w' h => hK q' c' w' (by rw [List.flatMap_append]; exact h)
  obtain ⟨m, _, hm⟩ := List.mem_flatMap.1 hy
  simp [outC] at hm
  rcases hm with rfl | rfl | rfl | rfl | rfl | rfl <;> rfl
/-- what is sent -/
def outN (s : ActS) (now : Int) : Nat → List OutV
  | 0 => []
  | k + 1 => outN s now k ++ (match s.reps[k]? with | some r => (saysL s r now).map fun m => ⟨((k + 1 : Nat) : Int), m⟩ | none => [])
theorem saysL_len (s : ActS) (r : Rp) (now : Int) : (saysL s r now).length ≤ 5 := by
  unfold saysL tellL comL
  rw [List.length_append, List.length_append]
  split <;> split <;> (try split) <;> simp
theorem outN_len (s : ActS) (now : Int) : ∀ k, (outN s now k).length ≤ 5 * k
  | 0 => Nat.le_refl _
  | k + 1 => by
    have := outN_len s now k
    rw [outN, List.length_append]
    split
    · rename_i r _
      have := saysL_len s r now
      rw [List.length_map]; omega
    · simp; omega
theorem Tick_spec {N : Nat} {w : World} {s : ActS} (h : ActAt N w s) (hN : N ≤ w.heap.size) {now : Int} (hn : 0 ≤ now ∧ now ≤ 1000000) (hd : ∀ r ∈ s.reps, 0 ≤ r.done) {K : Value → World → Prop}
    (h1 : ∀ w' q c, ¬ agrees s now → Grow w w' → Sl w' q ((outN s now s.reps.length).flatMap outC) → K (.tuple #[.slice q (outN s now s.reps.length).length c, .nilIface]) w')
    (h2 : ∀ w' s' q c, agrees s now → ActAt N w' s' → Chg s.x.reg w w' → s'.a = s.a → s'.reps = s.reps → s'.x.p = s.x.p → s'.x.last = s.x.last → s'.x.com = s.x.last → Sl w' q ((outN s' now s'.reps.length).flatMap outC) → K (.tuple #[.slice q (outN s' now s'.reps.length).length c, .nilIface]) w')
    (h3 : ∀ w' v, agrees s now → s.x.room < 20 → Grow w w' → isErr v → K (.tuple #[.slice none 0 0, v]) w') :
    CallV PR F.p_act_Act_Tick ⟨[.pointer (some ⟨s.a, 0, none⟩), .int .i64 now]⟩ w K := by
  have ha := heap_lt h.blk
  have h4 := h.n4
  obtain ⟨hsl, hsc, hsr⟩ := h.pub.small
  have h0 : Fs (fun k => k = s.a ∨ s.x.reg k) w [⟨s.a, actC s, T.act_Act, true⟩] w := (Fr.init _ w).entry h.blk (fun x h => by cases h) fun _ => .inl rfl
  refine act_Act_Tick s.a _ _ _ _ now (fun k => k = s.a ∨ s.x.reg k) K w h0 ⟨.inl rfl, trivial⟩ ?_
  refine agreed_spec h hn fun w0 t g0 ht => ⟨t, rfl, fun htt => ?_, fun htf => ?_⟩
  · have hag := ht.1 htt
    have htg := hag.1
    have hlt : s.x.com < s.x.last := by unfold ActS.tgt at htg; split at htg <;> omega
    have htl : s.tgt = s.x.last := by unfold ActS.tgt; rw [if_neg (by omega)]
    have hF0 := h0.after g0
    refine ⟨hF0, fun w1 hF1 => ?_⟩
    have g01 := g0.trans hF1.grow
    refine Target_spec (h.grow g01) fun w2 g2 => ⟨_, rfl, hF1.reset.after g2, ?_⟩
    have hF2 := hF1.reset.after g2
    have g02 := g01.trans g2
    have hp2 := h.pub.grow g02
    rw [htl]
    refine Commit_spec hp2 (by have := g02.size; omega) ⟨by omega, by omega⟩ (fun w3 x3 hx3 g3 f1 f2 f3 f4 f5 f6 f7 fr fm fl fx f8 => ?_) fun w3 v g3 hx3 hv hno => ?_
    · have hF3 := hF2.step g3 (fun y hy => by simp at hy; subst hy; exact h.off.1) (fun k _ e => .inr e)
      have h2' := h.grow g02
      have hlt2 := h.pub.lt
      have hbn := heap_lt h.row
      have s02 := g02.size
      have h3' : ActAt N w3 ⟨x3, s.a, s.bn, s.reps⟩ := by
        refine ⟨?_, g3.get h2'.row h.off.2, hx3, h.la, h.ln, h.n1, h.n4, ⟨fun e => ?_, fun e => ?_⟩, by show x3.ex s.bn; rw [fx]; exact h.ex⟩
        · have := g3.get h2'.blk h.off.1
          show w3.heap[s.a]? = some (.cells #[.pointer (some ⟨x3.p, 0, none⟩), .slice (some ⟨s.bn, 0, none⟩) s.reps.length s.reps.length] T.act_Act (0, 0))
          rw [f1]; exact this
        · rcases f8 _ e with e | e
          · exact h.off.1 e
          · have e' : w2.heap.size ≤ s.a := e; omega
        · rcases f8 _ e with e | e
          · exact h.off.2 e
          · have e' : w2.heap.size ≤ s.bn := e; omega
      refine ⟨_, rfl, hF3, fun _ => ?_, (fun t x h => by cases h), .inl rfl⟩
      have sz : w.heap.size ≤ w3.heap.size := by have := g3.size; omega
      have ha3 : s.a < w3.heap.size := by omega
      refine ⟨fun q l c i m w' => ∃ k : Nat, i = k ∧ k ≤ s.reps.length ∧ m = s.reps.length - k ∧ Own T.fetch_Out 6 w' q c ((outN (⟨x3, s.a, s.bn, s.reps⟩ : ActS) now k).flatMap outC) ∧ l = (outN (⟨x3, s.a, s.bn, s.reps⟩ : ActS) now k).length ∧ l ≤ c ∧ Off (fun j => j < w3.heap.size) q ∧ Grow w3 w', ⟨_, 0, rfl, by omega, rfl, .nil _ _ _, rfl, Nat.le_refl _, (fun a h => by cases h), .refl _ _⟩, ?_⟩
      rintro q l c i D m w4 ⟨k, rfl, hk, rfl, ho, rfl, hlc, of, gS⟩ hF4
      refine ⟨fun hlt => ?_, fun hge => ?_⟩
      · have hk' : k < s.reps.length := by omega
        refine (h3'.grow gS).sl.rdN rpC_len (by decide) rfl hk' hk' fun a hc => ?_
        have hkk : IntKind.wrap .i64 ((k : Int) + 1) = ((k + 1 : Nat) : Int) := by rw [w64 (by omega) (by omega)]; omega
        rw [hkk]
        refine ⟨_, hc 0 _ rfl, _, hc 1 _ rfl, _, hc 2 _ rfl, _, hc 3 _ rfl, _, hc 4 _ rfl, fun l4 hl4 w5 hF5 => ?_⟩
        have g45 : Grow w4 w5 := (hF5.unM hl4).grow
        have gS5 := gS.trans g45
        refine says_spec (h3'.grow gS5) (hd _ (List.getElem_mem hk')) fun w6 qs cs g6 hsay hqs => ⟨_, _, _, rfl, (hF5.unM hl4).after g6, ?_⟩
        have gS6 := gS5.trans g6
        have hnext : outN (⟨x3, s.a, s.bn, s.reps⟩ : ActS) now (k + 1) = outN (⟨x3, s.a, s.bn, s.reps⟩ : ActS) now k ++ (saysL (⟨x3, s.a, s.bn, s.reps⟩ : ActS) s.reps[k] now).map fun m => (⟨((k + 1 : Nat) : Int), m⟩ : OutV) := by
          show outN (⟨x3, s.a, s.bn, s.reps⟩ : ActS) now k ++ (match s.reps[k]? with | some r => (saysL (⟨x3, s.a, s.bn, s.reps⟩ : ActS) r now).map fun m => (⟨((k + 1 : Nat) : Int), m⟩ : OutV) | none => []) = _
          rw [List.getElem?_eq_getElem hk']
        have hsl5 := saysL_len (⟨x3, s.a, s.bn, s.reps⟩ : ActS) s.reps[k] now
        have hol := outN_len (⟨x3, s.a, s.bn, s.reps⟩ : ActS) now k
        generalize hM : saysL (⟨x3, s.a, s.bn, s.reps⟩ : ActS) s.reps[k] now = M at hsay hnext hsl5 ⊢
        refine ⟨fun q l c i m w' => ∃ j : Nat, i = j ∧ j ≤ M.length ∧ m = M.length - j ∧ Own T.fetch_Out 6 w' q c ((outN (⟨x3, s.a, s.bn, s.reps⟩ : ActS) now k ++ (M.take j).map fun m => (⟨((k + 1 : Nat) : Int), m⟩ : OutV)).flatMap outC) ∧ l = (outN (⟨x3, s.a, s.bn, s.reps⟩ : ActS) now k).length + j ∧ l ≤ c ∧ Off (fun j => j < w3.heap.size) q ∧ Grow w3 w' ∧ w6.heap.size ≤ w'.heap.size ∧ Sl w' qs (M.flatMap msgC) ∧ (∀ a b, q = some a → qs = some b → a.block ≠ b.block), ⟨_, 0, rfl, by omega, rfl, ?_, rfl, hlc, of, gS6, Nat.le_refl _, hsay, fun a b ha hb e => by have := ho.lt a ha; have := (hqs b hb).1; have := g45.size; omega⟩, ?_⟩
        · rw [List.take_zero, List.map_nil, List.append_nil]; exact ho.grow (g45.trans g6)
        · rintro q2 l2 c2 i D m w7 ⟨j, rfl, hj, rfl, ho7, rfl, hlc7, of7, gS7, s67, hsay7, hne7⟩ hF7
          refine ⟨fun hlt => ?_, fun hge => ?_⟩
          · have hj' : j < M.length := by omega
            refine hsay7.rdN msgC_len (by decide) rfl hj' hj' fun a hc => ?_
            refine ⟨_, hc 0 _ rfl, _, hc 1 _ rfl, _, hc 2 _ rfl, _, hc 3 _ rfl, _, _, _, hc 4 _ rfl, fun l13 hl13 l14 hl14 w8 hF8 => ?_⟩
            have hF8' := hF8.unM hl13
            refine app_out (ys := [(⟨((k + 1 : Nat) : Int), M[j]⟩ : OutV)]) (ho7.grow hF8'.grow) (by rw [List.length_append, List.length_map, List.length_take, Nat.min_eq_left hj]) hlc7 (hF8'.sl 2 rfl) rfl (by omega) fun q9 c9 w9 ho9 hc9 g9 hq9 => ?_
            have gS8 := gS7.trans hF8'.grow
            have gS9 : Grow w3 w9 := Chg.trans gS8 g9 fun i hi ⟨a, ha, e⟩ => by have := of7.le a ha; omega
            have sS := gS8.size
            have hF9 := hF8'.app2 g9 w3.heap.size w7.heap.size of7 (fun a ha => ho7.lt a ha) (fun x hx => by simp at hx; rcases hx with rfl | rfl | rfl; exact .inl (by simp only []; omega); exact .inr hl13; exact .inr hl14) sz
            have s78 := hF8'.grow.size
            have hsay9 := (hsay7.grow hF8'.grow).keep g9 (fun b hb ⟨a, ha, e⟩ => hne7 a b ha hb e.symm)
            have hne9 : ∀ a b, q9 = some a → qs = some b → a.block ≠ b.block := fun a b ha hb e => by
              rcases hq9 a ha with h' | h'
              · exact hne7 a b h' hb e
              · subst h'; have := (hqs b hb).2; simp only [] at e; omega
            refine ⟨_, _, _, rfl, hF9, M.length - (j + 1), by omega, j + 1, by rw [w64 (by omega) (by omega)]; rfl, by omega, rfl, ?_, by omega, hc9, of7.next hq9 sS, gS9, by have := g9.size; omega, hsay9, hne9⟩
            rw [List.take_succ_eq_append_getElem hj', List.map_append, ← List.append_assoc]; exact ho9
          · have : j = M.length := by omega
            subst this
            rw [List.take_length, ← hnext] at ho7
            exact ⟨s.reps.length - (k + 1), by omega, k + 1, rfl, by omega, rfl, ho7, by rw [hnext, List.length_append, List.length_map], hlc7, of7, gS7⟩
      · have : k = s.reps.length := by omega
        subst this
        exact h2 w4 ⟨x3, s.a, s.bn, s.reps⟩ q c hag (h3'.grow gS) ((g02.then g3).grow gS) rfl rfl f1 f4 (by show x3.com = s.x.last; omega) ho.sl
    · have hF3 := hF2.after g3
      obtain ⟨t, v, rfl⟩ := hv
      refine ⟨_, rfl, hF3, (fun h => by cases h), (fun t' v' he => h3 w3 _ hag ?_ (g02.trans g3) ⟨_, _, rfl⟩), .inr ⟨_, _, rfl⟩⟩
      rcases Nat.lt_or_ge s.x.room 20 with hr | hr
      · exact hr
      · exact absurd ⟨by omega, by omega, by omega, hr⟩ hno
  · have hna : ¬ agrees s now := fun hh => by rw [ht.2 hh] at htf; cases htf
    have hF0 := h0.after g0
    have h0' := h.grow g0
    have sz := g0.size
    have ha3 : s.a < w0.heap.size := by omega
    refine ⟨hF0, ?_⟩
    refine ⟨fun q l c i m w' => ∃ k : Nat, i = k ∧ k ≤ s.reps.length ∧ m = s.reps.length - k ∧ Own T.fetch_Out 6 w' q c ((outN s now k).flatMap outC) ∧ l = (outN s now k).length ∧ l ≤ c ∧ Off (fun j => j < w0.heap.size) q ∧ Grow w0 w', ⟨_, 0, rfl, by omega, rfl, .nil _ _ _, rfl, Nat.le_refl _, (fun a h => by cases h), .refl _ _⟩, ?_⟩
    rintro q l c i D m w4 ⟨k, rfl, hk, rfl, ho, rfl, hlc, of, gS⟩ hF4
    refine ⟨fun hlt => ?_, fun hge => ?_⟩
    · have hk' : k < s.reps.length := by omega
      refine (h0'.grow gS).sl.rdN rpC_len (by decide) rfl hk' hk' fun a hc => ?_
      have hkk : IntKind.wrap .i64 ((k : Int) + 1) = ((k + 1 : Nat) : Int) := by rw [w64 (by omega) (by omega)]; omega
      rw [hkk]
      refine ⟨_, hc 0 _ rfl, _, hc 1 _ rfl, _, hc 2 _ rfl, _, hc 3 _ rfl, _, hc 4 _ rfl, fun l4 hl4 w5 hF5 => ?_⟩
      have g45 : Grow w4 w5 := (hF5.unM hl4).grow
      have gS5 := gS.trans g45
      refine says_spec (h0'.grow gS5) (hd _ (List.getElem_mem hk')) fun w6 qs cs g6 hsay hqs => ⟨_, _, _, rfl, (hF5.unM hl4).after g6, ?_⟩
      have gS6 := gS5.trans g6
      have hnext : outN s now (k + 1) = outN s now k ++ (saysL s s.reps[k] now).map fun m => (⟨((k + 1 : Nat) : Int), m⟩ : OutV) := by
        show outN s now k ++ (match s.reps[k]? with | some r => (saysL s r now).map fun m => (⟨((k + 1 : Nat) : Int), m⟩ : OutV) | none => []) = _
        rw [List.getElem?_eq_getElem hk']
      have hsl5 := saysL_len s s.reps[k] now
      have hol := outN_len s now k
      generalize hM : saysL s s.reps[k] now = M at hsay hnext hsl5 ⊢
      refine ⟨fun q l c i m w' => ∃ j : Nat, i = j ∧ j ≤ M.length ∧ m = M.length - j ∧ Own T.fetch_Out 6 w' q c ((outN s now k ++ (M.take j).map fun m => (⟨((k + 1 : Nat) : Int), m⟩ : OutV)).flatMap outC) ∧ l = (outN s now k).length + j ∧ l ≤ c ∧ Off (fun j => j < w0.heap.size) q ∧ Grow w0 w' ∧ w6.heap.size ≤ w'.heap.size ∧ Sl w' qs (M.flatMap msgC) ∧ (∀ a b, q = some a → qs = some b → a.block ≠ b.block), ⟨_, 0, rfl, by omega, rfl, ?_, rfl, hlc, of, gS6, Nat.le_refl _, hsay, fun a b ha hb e => by have := ho.lt a ha; have := (hqs b hb).1; have := g45.size; omega⟩, ?_⟩
      · rw [List.take_zero, List.map_nil, List.append_nil]; exact ho.grow (g45.trans g6)
      · rintro q2 l2 c2 i D m w7 ⟨j, rfl, hj, rfl, ho7, rfl, hlc7, of7, gS7, s67, hsay7, hne7⟩ hF7
        refine ⟨fun hlt => ?_, fun hge => ?_⟩
        · have hj' : j < M.length := by omega
          refine hsay7.rdN msgC_len (by decide) rfl hj' hj' fun a hc => ?_
          refine ⟨_, hc 0 _ rfl, _, hc 1 _ rfl, _, hc 2 _ rfl, _, hc 3 _ rfl, _, _, _, hc 4 _ rfl, fun l13 hl13 l14 hl14 w8 hF8 => ?_⟩
          have hF8' := hF8.unM hl13
          refine app_out (ys := [(⟨((k + 1 : Nat) : Int), M[j]⟩ : OutV)]) (ho7.grow hF8'.grow) (by rw [List.length_append, List.length_map, List.length_take, Nat.min_eq_left hj]) hlc7 (hF8'.sl 2 rfl) rfl (by omega) fun q9 c9 w9 ho9 hc9 g9 hq9 => ?_
          have gS8 := gS7.trans hF8'.grow
          have gS9 : Grow w0 w9 := Chg.trans gS8 g9 fun i hi ⟨a, ha, e⟩ => by have := of7.le a ha; omega
          have sS := gS8.size
          have hF9 := hF8'.app2 g9 w0.heap.size w7.heap.size of7 (fun a ha => ho7.lt a ha) (fun x hx => by simp at hx; rcases hx with rfl | rfl | rfl; exact .inl (by simp only []; omega); exact .inr hl13; exact .inr hl14) sz
          have s78 := hF8'.grow.size
          have hsay9 := (hsay7.grow hF8'.grow).keep g9 (fun b hb ⟨a, ha, e⟩ => hne7 a b ha hb e.symm)
          have hne9 : ∀ a b, q9 = some a → qs = some b → a.block ≠ b.block := fun a b ha hb e => by
            rcases hq9 a ha with h' | h'
            · exact hne7 a b h' hb e
            · subst h'; have := (hqs b hb).2; simp only [] at e; omega
          refine ⟨_, _, _, rfl, hF9, M.length - (j + 1), by omega, j + 1, by rw [w64 (by omega) (by omega)]; rfl, by omega, rfl, ?_, by omega, hc9, of7.next hq9 sS, gS9, by have := g9.size; omega, hsay9, hne9⟩
          rw [List.take_succ_eq_append_getElem hj', List.map_append, ← List.append_assoc]; exact ho9
        · have : j = M.length := by omega
          subst this
          rw [List.take_length, ← hnext] at ho7
          exact ⟨s.reps.length - (k + 1), by omega, k + 1, rfl, by omega, rfl, ho7, by rw [hnext, List.length_append, List.length_map], hlc7, of7, gS7⟩
    · have : k = s.reps.length := by omega
      subst this
      exact h1 w4 q c hna (g0.trans gS) ho.sl
end Go.Vc

/-! A part of the proof that two events of one line are one event: the calculus that follows known memory by computing, and its soundness. By an AI agent. -/


namespace Go.Vc
open Go
/-! P14: conditions printed by a program of ours, checked by the kernel -/
/-- (*lading/act.noted).note -/
theorem noted_note_g (p0 : Option Addr) (m1 : Int) (m2 : Int) (m3 : Int) (z4 : ByteArray) (y5 : Option Addr) (ly5 : Nat) (cy5 : Nat) (S : Nat → Prop) (K : Value → World → Prop) (w : World) (h : ∀ l0 : Nat, w.heap.size ≤ l0 → (m1 = 11 → Dr p0 (fun a0 => ∀ w0 : World, Fr S w w [] ([⟨l0, #[.int .i64 m1, .int .i64 m2, .int .i64 m3, .string z4, .slice y5 ly5 cy5], 54, true⟩]) w0 → Dr (some a0) (fun a1 => StC w0 (Addr.add a1 0) (.int .i64 m2) (fun w1 => StC w1 (Addr.add a1 1) (.int .i64 m2) (fun w2 => StC w2 (Addr.add a1 2) (.int .i64 m2) (fun w3 => StC w3 (Addr.add a1 3) (.bool false) (fun w4 => StC w4 (Addr.add a1 4) (.int .i64 0) (fun w5 => Fs S w ([⟨l0, #[.int .i64 m1, .int .i64 m2, .int .i64 m3, .string z4, .slice y5 ly5 cy5], 54, true⟩]) w5 ∧ K (.bool true) w5)))))))) ∧ (¬ (m1 = 11) → (m1 = 9 → ∀ w6 : World, Fr S w w [] ([⟨l0, #[.int .i64 m1, .int .i64 m2, .int .i64 m3, .string z4, .slice y5 ly5 cy5], 54, true⟩]) w6 → ∃ I0 : World → Prop, I0 w6 ∧ Dr p0 (fun a2 => Dr (some a2) (fun a3 => Dr (some (Addr.add a3 2)) (fun a4 => ∃ n0 : Int, (∀ w7 : World, I0 w7 → (World.cell? w7 a4 : Option Value) = some (.int .i64 n0)) ∧ Dr p0 (fun a5 => Dr (some a5) (fun a6 => Dr (some (Addr.add a6 2)) (fun a7 => StC w6 a7 (.int .i64 ((if m2 > n0 then m2 else n0))) (fun w8 => Fs S w ([⟨l0, #[.int .i64 m1, .int .i64 m2, .int .i64 m3, .string z4, .slice y5 ly5 cy5], 54, true⟩]) w8 ∧ ∀ w9 : World, Fr S w w8 [] ([⟨l0, #[.int .i64 m1, .int .i64 m2, .int .i64 m3, .string z4, .slice y5 ly5 cy5], 54, true⟩]) w9 → ∃ I1 : World → Prop, I1 w9 ∧ Dr p0 (fun a8 => Dr (some a8) (fun a9 => Dr (some (Addr.add a9 1)) (fun a10 => ∃ n1 : Int, (∀ w10 : World, I1 w10 → (World.cell? w10 a10 : Option Value) = some (.int .i64 n1)) ∧ Dr p0 (fun a11 => Dr (some a11) (fun a12 => Dr (some (Addr.add a12 1)) (fun a13 => StC w9 a13 (.int .i64 ((if m2 > n1 then m2 else n1))) (fun w11 => Fs S w ([⟨l0, #[.int .i64 m1, .int .i64 m2, .int .i64 m3, .string z4, .slice y5 ly5 cy5], 54, true⟩]) w11 ∧ ∀ w12 : World, Fr S w w11 [] ([⟨l0, #[.int .i64 m1, .int .i64 m2, .int .i64 m3, .string z4, .slice y5 ly5 cy5], 54, true⟩]) w12 → ∃ I2 : World → Prop, I2 w12 ∧ Dr p0 (fun a14 => Dr (some a14) (fun a15 => Dr (some (Addr.add a15 0)) (fun a16 => ∃ n2 : Int, (∀ w13 : World, I2 w13 → (World.cell? w13 a16 : Option Value) = some (.int .i64 n2)) ∧ Dr p0 (fun a17 => Dr (some a17) (fun a18 => Dr (some (Addr.add a18 0)) (fun a19 => StC w12 a19 (.int .i64 ((if m2 > n2 then m2 else n2))) (fun w14 => Fs S w ([⟨l0, #[.int .i64 m1, .int .i64 m2, .int .i64 m3, .string z4, .slice y5 ly5 cy5], 54, true⟩]) w14 ∧ K (.bool true) w14)))))))))))))))))))))) ∧ (¬ (m1 = 9) → (m1 = 7 → ∀ w15 : World, Fr S w w [] ([⟨l0, #[.int .i64 m1, .int .i64 m2, .int .i64 m3, .string z4, .slice y5 ly5 cy5], 54, true⟩]) w15 → ∃ I3 : World → Prop, I3 w15 ∧ Dr p0 (fun a20 => Dr (some a20) (fun a21 => Dr (some (Addr.add a21 1)) (fun a22 => ∃ n3 : Int, (∀ w16 : World, I3 w16 → (World.cell? w16 a22 : Option Value) = some (.int .i64 n3)) ∧ Dr p0 (fun a23 => Dr (some a23) (fun a24 => Dr (some (Addr.add a24 1)) (fun a25 => StC w15 a25 (.int .i64 ((if m2 > n3 then m2 else n3))) (fun w17 => Fs S w ([⟨l0, #[.int .i64 m1, .int .i64 m2, .int .i64 m3, .string z4, .slice y5 ly5 cy5], 54, true⟩]) w17 ∧ ∀ w18 : World, Fr S w w17 [] ([⟨l0, #[.int .i64 m1, .int .i64 m2, .int .i64 m3, .string z4, .slice y5 ly5 cy5], 54, true⟩]) w18 → ∃ I4 : World → Prop, I4 w18 ∧ Dr p0 (fun a26 => Dr (some a26) (fun a27 => Dr (some (Addr.add a27 0)) (fun a28 => ∃ n4 : Int, (∀ w19 : World, I4 w19 → (World.cell? w19 a28 : Option Value) = some (.int .i64 n4)) ∧ Dr p0 (fun a29 => Dr (some a29) (fun a30 => Dr (some (Addr.add a30 0)) (fun a31 => StC w18 a31 (.int .i64 ((if m2 > n4 then m2 else n4))) (fun w20 => Fs S w ([⟨l0, #[.int .i64 m1, .int .i64 m2, .int .i64 m3, .string z4, .slice y5 ly5 cy5], 54, true⟩]) w20 ∧ K (.bool true) w20))))))))))))))) ∧ (¬ (m1 = 7) → (m1 = 5 → ∀ w21 : World, Fr S w w [] ([⟨l0, #[.int .i64 m1, .int .i64 m2, .int .i64 m3, .string z4, .slice y5 ly5 cy5], 54, true⟩]) w21 → ∃ I5 : World → Prop, I5 w21 ∧ Dr p0 (fun a32 => Dr (some a32) (fun a33 => Dr (some (Addr.add a33 0)) (fun a34 => ∃ n5 : Int, (∀ w22 : World, I5 w22 → (World.cell? w22 a34 : Option Value) = some (.int .i64 n5)) ∧ Dr p0 (fun a35 => Dr (some a35) (fun a36 => Dr (some (Addr.add a36 0)) (fun a37 => StC w21 a37 (.int .i64 ((if m2 > n5 then m2 else n5))) (fun w23 => Fs S w ([⟨l0, #[.int .i64 m1, .int .i64 m2, .int .i64 m3, .string z4, .slice y5 ly5 cy5], 54, true⟩]) w23 ∧ K (.bool true) w23)))))))) ∧ (¬ (m1 = 5) → (m1 = 2 → ∀ w24 : World, Fr S w w [] [] w24 → K (.bool true) w24) ∧ (¬ (m1 = 2) → ∀ w25 : World, Fr S w w [] [] w25 → K (.bool false) w25)))))) : CallV Go.Proofs.Tryz.prog 43 ⟨[.pointer p0, .agg #[.int .i64 m1, .int .i64 m2, .int .i64 m3, .string z4, .slice y5 ly5 cy5]]⟩ w K :=
  call_of_vc3 (okf := ⟨okL, []⟩) okL_ok (args := [.c (.v (.pointer p0)), .a [.v (.int .i64 m1), .v (.int .i64 m2), .v (.int .i64 m3), .v (.string z4), .v (.slice y5 ly5 cy5)]]) (H := []) (.s (.r ⟨(some []), true, [], []⟩) (.s (.s .z (.b (.s (.b (.s (.b (.s (.b (.s (.b (.s (.b (.s .z (.s (.r ⟨(some [3]), true, [], []⟩) .z))) (.r ⟨(some [3]), true, [], []⟩))) (.r ⟨(some [3]), true, [], []⟩))) (.s (.r ⟨(some [3]), true, [], []⟩) .z))) .z)) .z))) .z)) Go.Proofs.Tryz.func43 rfl ⟨trivial, ⟨trivial, trivial, trivial, trivial, trivial, trivial⟩, trivial⟩ trivial (Fr.init S w) trivial (cast_vc (by kernel_rfl) h)


end Go.Vc

/-! A part of the proof that two events of one line are one event: the calculus that follows known memory by computing, and its soundness. By an AI agent. -/


namespace Go.Vc
open Go Go.MapKept
/-! ## an act: it is made; what is heard -/
def rp0 : Rp := ⟨0, 0, 0, false, 0⟩
theorem u_noteds : PR.underlying T.sl_act_noted = some (.slice T.act_noted) := by kernel_rfl
theorem tyI_noted : ∃ i, PR.info? T.act_noted = some i ∧ i.size = 5 ∧ i.bytes = 40 ∧ i.zero = some (.agg #[.int .i64 0, .int .i64 0, .int .i64 0, .bool false, .int .i64 0]) := by
  have h : (match PR.info? T.act_noted with | some i => i.size == 5 && i.bytes == 40 && (match i.zero with | some (.agg ⟨[.int .i64 0, .int .i64 0, .int .i64 0, .bool false, .int .i64 0]⟩) => true | _ => false) | none => false) = true := by kernel_rfl
  split at h
  · rename_i i hi
    simp only [Bool.and_eq_true, beq_iff_eq] at h
    refine ⟨i, hi, h.1.1, h.1.2, ?_⟩
    have h2 := h.2
    split at h2
    · assumption
    · cases h2
  · cases h
theorem makeNoted {n : Nat} (h1 : 1 ≤ n) (h4 : n ≤ 4) {w : World} {K : Value → World → Prop}
    (hK : ∀ b w', b = w.heap.size → Grow w w' → w'.heap[b]? = some (.cells ((List.replicate n rp0).flatMap rpC).toArray T.act_noted (0, 0)) → K (.slice (some ⟨b, 0, none⟩) n n) w') :
    rn PR (Instr.makeSlice T.sl_act_noted (.int .i64 (n : Int)) (.int .i64 (n : Int))) K w := by
  obtain ⟨i, hi, hk, hb, hz⟩ := tyI_noted
  refine rn_sv ?_
  have hw := wrap_id (n := (n : Int)) (by omega) (by omega)
  have hlt : ¬ ((i.bytes : Int) * n > 2 ^ 48) := by
    have : (2 : Int) ^ 48 = 281474976710656 := by decide
    rw [hb]; omega
  unfold Instr.makeSlice
  simp only [sv_bind, sv_underlying u_noteds, asInt, asIntOf, sv_pure, sv_typeInfo hi, hw, sv_ite, sv_askRoom, sv_sizeOf hi, hk]
  have e1 : ¬ (n : Int) < 0 := by omega
  have e2 : ¬ (n : Int) > n := by omega
  simp only [e1, e2, hlt, decide_false, Bool.or_self, Bool.false_eq_true, if_false, Int.toNat_natCast]
  have key : ∀ (cs : Array Value), cs = ((List.replicate n rp0).flatMap rpC).toArray → sv PR (newRow T.act_noted cs) (fun a w => K (.slice (some a) n n) w) w := by
    intro cs hcs
    subst hcs
    unfold newRow
    rw [sv_bind, sv_newObj]
    exact newV fun b w' hb hb' hs g => hK b w' hb g hb'
  rw [if_neg (by omega), sv_zeroValue hi hz]
  refine key _ ?_
  have : n = 1 ∨ n = 2 ∨ n = 3 ∨ n = 4 := by omega
  rcases this with rfl | rfl | rfl | rfl <;> (apply Array.toList_inj.1; rw [Array.toList_map, Array.toList_range]; rfl)
theorem New_spec {N : Nat} {w : World} {x : PubS} (h : PubAt N w x) (hN : N ≤ w.heap.size) {n : Int} {K : Value → World → Prop}
    (h1 : ∀ w' s (k : Nat), n = k → 1 ≤ k → k ≤ 4 → Grow w w' → ActAt N w' s → s.x = { x with ex := fun k => k = s.bn } → s.reps = List.replicate k rp0 → w.heap.size ≤ s.a → w.heap.size ≤ s.bn → K (.tuple #[.pointer (some ⟨s.a, 0, none⟩), .nilIface]) w')
    (h2 : n < 1 ∨ 4 < n → K (.tuple #[.pointer none, .iface 77 (.int .i64 1)]) w) : CallV PR F.act_New ⟨[.pointer (some ⟨x.p, 0, none⟩), .int .i64 n]⟩ w K := by
  refine act_New' (some ⟨x.p, 0, none⟩) n S0 K w ⟨(fun h => by cases h), fun a ha => ⟨fun h => h2 (.inl h), fun hge => ⟨fun h => h2 (.inr (by omega)), fun hle => ?_⟩⟩⟩
  obtain ⟨k, rfl⟩ := Int.eq_ofNat_of_zero_le (a := n) (by omega)
  refine makeNoted (by omega) (by omega) fun b w1 hb g1 hbb => ⟨_, _, _, rfl, (Fr.init _ w).after g1, fun l2 hl2 w2 hF2 => ?_⟩
  have g2 : Grow w1 w2 := hF2.grow
  have g12 := g1.trans g2
  have s1 := g1.size
  have hlt := h.lt
  have hp2 := h.grow g12
  have hbl : b < w2.heap.size := by have := g2.size; have := heap_lt hbb; omega
  have hx' : PubAt N w2 { x with ex := fun k => k = b } := by
    refine ⟨hp2.blk, hp2.jrn, hp2.map, fun k v hr => ?_, hp2.has, hp2.com_le, hp2.last_le, hp2.room, hp2.each1, hp2.each2, hp2.lo, fun k hk => by have hk' : k = b := hk; omega⟩
    exact (h.kept k v hr).keep g12 (fun _ _ e => e.elim) (fun k hk e => e.elim .inl fun e => by have e' : k = b := e; omega) (Nat.le_refl _)
  refine h1 w2 ⟨{ x with ex := fun k => k = b }, l2, b, List.replicate k rp0⟩ k rfl (by omega) (by omega) g12 ⟨?_, Grow.get g2 hbb, hx', by show N ≤ l2; omega, by show N ≤ b; omega, by rw [List.length_replicate]; omega, by rw [List.length_replicate]; omega, ⟨fun e => ?_, fun e => ?_⟩, rfl⟩ rfl rfl (by show w.heap.size ≤ l2; omega) (by show w.heap.size ≤ b; omega)
  · have := hF2.blk 0 rfl
    show w2.heap[l2]? = some (.cells #[.pointer (some ⟨x.p, 0, none⟩), .slice (some ⟨b, 0, none⟩) (List.replicate k rp0).length (List.replicate k rp0).length] T.act_Act (0, 0))
    rw [List.length_replicate]; exact this
  · have := hlt _ e; simp only [] at this; omega
  · have := hlt _ e; simp only [] at this; omega
/-- what is noted behind a message -/
def hearR (r : Rp) (kind ver : Int) : Rp :=
  if kind = 11 then ⟨ver, ver, ver, false, 0⟩
  else if kind = 9 then { r with ready := if ver > r.ready then ver else r.ready, prepared := if ver > r.prepared then ver else r.prepared, done := if ver > r.done then ver else r.done }
  else if kind = 7 then { r with ready := if ver > r.ready then ver else r.ready, prepared := if ver > r.prepared then ver else r.prepared }
  else if kind = 5 then { r with ready := if ver > r.ready then ver else r.ready }
  else r
def hears (kind : Int) : Bool := kind == 11 || kind == 9 || kind == 7 || kind == 5 || kind == 2
theorem flat_set {j i : Nat} {v : Value} {r' : Rp} : ∀ {reps : List Rp}, (hj : j < reps.length) → i < 5 → rpC r' = (rpC reps[j]).set i v → (reps.flatMap rpC).set (j * 5 + i) v = (reps.set j r').flatMap rpC := by
  induction j with
  | zero =>
    intro reps hj hi hr
    match reps, hj with
    | r :: l, _ =>
      rw [List.flatMap_cons, List.set_append_left _ _ (by rw [rpC_len]; omega), Nat.zero_mul, Nat.zero_add]
      show _ = rpC r' ++ l.flatMap rpC
      rw [hr]; rfl
  | succ j ih =>
    intro reps hj hi hr
    match reps, hj with
    | r :: l, hj =>
      have hj' : j < l.length := by simpa using hj
      have e : (j + 1) * 5 + i = 5 + (j * 5 + i) := by omega
      rw [List.flatMap_cons, e, List.set_append_right _ _ (by rw [rpC_len]; omega), rpC_len, Nat.add_sub_cancel_left, ih hj' hi hr]
      rfl
theorem stRep {w : World} {bn j i : Nat} {reps : List Rp} {r r' : Rp} {v : Value} (hb : w.heap[bn]? = some (.cells ((reps.set j r).flatMap rpC).toArray T.act_noted (0, 0))) (hj : j < reps.length) (hi : i < 5) (hr : rpC r' = (rpC r).set i v) (hv : oneC v = true) {K : World → Prop}
    (hK : ∀ w', w'.heap[bn]? = some (.cells ((reps.set j r').flatMap rpC).toArray T.act_noted (0, 0)) → Chg (· = bn) w w' → K w') : StC w ((⟨bn, j * 5, none⟩ : Addr).add i) v K := by
  rw [add_mk]
  have hjs : j < (reps.set j r).length := by rw [List.length_set]; exact hj
  have hlen : j * 5 + i < ((reps.set j r).flatMap rpC).length := by
    rw [flatK_size rpC_len]; omega
  have hs := flat_set (reps := reps.set j r) (r' := r') hjs hi (by rw [List.getElem_set_self]; exact hr)
  rw [List.set_set] at hs
  refine stC hb (by rw [List.size_toArray]; exact hlen) hv fun w' hw' _ g => hK w' ?_ g
  rw [hw', ← hs]
  simp
theorem repCell {w : World} {bn j i : Nat} {reps : List Rp} {r : Rp} {v : Value} (hb : w.heap[bn]? = some (.cells ((reps.set j r).flatMap rpC).toArray T.act_noted (0, 0))) (hj : j < reps.length) (hi : i < 5) (hv : (rpC r)[i]? = some v) : w.cell? ((⟨bn, j * 5, none⟩ : Addr).add i) = some v := by
  have hjs : j < (reps.set j r).length := by rw [List.length_set]; exact hj
  rw [add_mk, cell_blk hb, List.getElem?_toArray, flatK_at rpC_len hjs hi, List.getElem_set_self, hv]
theorem note_spec {w : World} {bn j : Nat} {reps : List Rp} {r : Rp} (hb : w.heap[bn]? = some (.cells ((reps.set j r).flatMap rpC).toArray T.act_noted (0, 0))) (hj : j < reps.length) {kind ver i : Int} {z : ByteArray} {y : Option Addr} {ly cy : Nat} {K : Value → World → Prop}
    (hK : ∀ w', w'.heap[bn]? = some (.cells ((reps.set j (hearR r kind ver)).flatMap rpC).toArray T.act_noted (0, 0)) → Chg (· = bn) w w' → K (.bool (hears kind)) w') :
    CallV PR F.p_act_noted_note ⟨[.pointer (some ⟨bn, j * 5, none⟩), .agg #[.int .i64 kind, .int .i64 ver, .int .i64 i, .string z, .slice y ly cy]]⟩ w K := by
  have hbl := heap_lt hb
  refine noted_note_g (some ⟨bn, j * 5, none⟩) kind ver i z y ly cy (· = bn) K w fun l0 hl0 => ?_
  have hne : ∀ x ∈ [(⟨l0, #[.int .i64 kind, .int .i64 ver, .int .i64 i, .string z, .slice y ly cy], 54, true⟩ : Blk)], ¬ x.b = bn := fun x hx e => by simp at hx; subst hx; simp only [] at e; omega
  refine ⟨fun h11 => Dr_some.2 fun w0 hF0 => Dr_some.2 ?_, fun h11 => ⟨fun h9 w0 hF0 => ?_, fun h9 => ⟨fun h7 w0 hF0 => ?_, fun h7 => ⟨fun h5 w0 hF0 => ?_, fun h5 => ⟨fun h2 w0 hF0 => ?_, fun h2 w0 hF0 => ?_⟩⟩⟩⟩⟩
  · have g0 : Grow w w0 := hF0.grow
    refine stRep (r' := ⟨ver, r.prepared, r.done, r.heard, r.at_⟩) (Grow.get g0 hb) hj (by decide) rfl rfl fun w1 b1 g1 => ?_
    refine stRep (r' := ⟨ver, ver, r.done, r.heard, r.at_⟩) b1 hj (by decide) rfl rfl fun w2 b2 g2 => ?_
    refine stRep (r' := ⟨ver, ver, ver, r.heard, r.at_⟩) b2 hj (by decide) rfl rfl fun w3 b3 g3 => ?_
    refine stRep (r' := ⟨ver, ver, ver, false, r.at_⟩) b3 hj (by decide) rfl rfl fun w4 b4 g4 => ?_
    refine stRep (r' := ⟨ver, ver, ver, false, 0⟩) b4 hj (by decide) rfl rfl fun w5 b5 g5 => ?_
    have hF5 := ((((hF0.step g1 hne fun _ _ e => e).step g2 hne fun _ _ e => e).step g3 hne fun _ _ e => e).step g4 hne fun _ _ e => e).step g5 hne fun _ _ e => e
    subst h11
    exact ⟨hF5, hK w5 (by rw [hearR, if_pos rfl]; exact b5) hF5.chg⟩
  · have g0 : Grow w w0 := hF0.grow
    have b0 := Grow.get g0 hb
    refine ⟨(· = w0), rfl, Dr_some.2 (Dr_some.2 (Dr_some.2 ⟨r.done, fun w' e => e ▸ repCell b0 hj (by decide) rfl, Dr_some.2 (Dr_some.2 (Dr_some.2 ?_))⟩))⟩
    refine stRep (r' := { r with done := if ver > r.done then ver else r.done }) b0 hj (by decide) rfl rfl fun w1 b1 g1 => ?_
    have hF1 := hF0.step g1 hne fun _ _ e => e
    refine ⟨hF1, fun w2 hF2 => ?_⟩
    have b2 := Grow.get hF2.grow b1
    refine ⟨(· = w2), rfl, Dr_some.2 (Dr_some.2 (Dr_some.2 ⟨r.prepared, fun w' e => e ▸ repCell b2 hj (by decide) rfl, Dr_some.2 (Dr_some.2 (Dr_some.2 ?_))⟩))⟩
    refine stRep (r' := { r with done := if ver > r.done then ver else r.done, prepared := if ver > r.prepared then ver else r.prepared }) b2 hj (by decide) rfl rfl fun w3 b3 g3 => ?_
    have hF3 := hF2.step g3 hne fun _ _ e => e
    refine ⟨hF3, fun w4 hF4 => ?_⟩
    have b4 := Grow.get hF4.grow b3
    refine ⟨(· = w4), rfl, Dr_some.2 (Dr_some.2 (Dr_some.2 ⟨r.ready, fun w' e => e ▸ repCell b4 hj (by decide) rfl, Dr_some.2 (Dr_some.2 (Dr_some.2 ?_))⟩))⟩
    refine stRep (r' := { r with done := if ver > r.done then ver else r.done, prepared := if ver > r.prepared then ver else r.prepared, ready := if ver > r.ready then ver else r.ready }) b4 hj (by decide) rfl rfl fun w5 b5 g5 => ?_
    have hF5 := hF4.step g5 hne fun _ _ e => e
    subst h9
    exact ⟨hF5, hK w5 (by rw [hearR, if_neg h11, if_pos rfl]; exact b5) hF5.chg⟩
  · have g0 : Grow w w0 := hF0.grow
    have b0 := Grow.get g0 hb
    refine ⟨(· = w0), rfl, Dr_some.2 (Dr_some.2 (Dr_some.2 ⟨r.prepared, fun w' e => e ▸ repCell b0 hj (by decide) rfl, Dr_some.2 (Dr_some.2 (Dr_some.2 ?_))⟩))⟩
    refine stRep (r' := { r with prepared := if ver > r.prepared then ver else r.prepared }) b0 hj (by decide) rfl rfl fun w3 b3 g3 => ?_
    have hF3 := hF0.step g3 hne fun _ _ e => e
    refine ⟨hF3, fun w4 hF4 => ?_⟩
    have b4 := Grow.get hF4.grow b3
    refine ⟨(· = w4), rfl, Dr_some.2 (Dr_some.2 (Dr_some.2 ⟨r.ready, fun w' e => e ▸ repCell b4 hj (by decide) rfl, Dr_some.2 (Dr_some.2 (Dr_some.2 ?_))⟩))⟩
    refine stRep (r' := { r with prepared := if ver > r.prepared then ver else r.prepared, ready := if ver > r.ready then ver else r.ready }) b4 hj (by decide) rfl rfl fun w5 b5 g5 => ?_
    have hF5 := hF4.step g5 hne fun _ _ e => e
    subst h7
    exact ⟨hF5, hK w5 (by rw [hearR, if_neg h11, if_neg h9, if_pos rfl]; exact b5) hF5.chg⟩
  · have g0 : Grow w w0 := hF0.grow
    have b0 := Grow.get g0 hb
    refine ⟨(· = w0), rfl, Dr_some.2 (Dr_some.2 (Dr_some.2 ⟨r.ready, fun w' e => e ▸ repCell b0 hj (by decide) rfl, Dr_some.2 (Dr_some.2 (Dr_some.2 ?_))⟩))⟩
    refine stRep (r' := { r with ready := if ver > r.ready then ver else r.ready }) b0 hj (by decide) rfl rfl fun w5 b5 g5 => ?_
    have hF5 := hF0.step g5 hne fun _ _ e => e
    subst h5
    exact ⟨hF5, hK w5 (by rw [hearR, if_neg h11, if_neg h9, if_neg h7, if_pos rfl]; exact b5) hF5.chg⟩
  · subst h2
    exact hK w0 (by rw [hearR, if_neg h11, if_neg h9, if_neg h7, if_neg h5]; exact Grow.get hF0.grow hb) hF0.chg
  · have e : hears kind = false := by simp [hears, h11, h9, h7, h5, h2]
    have := hK w0 (by rw [hearR, if_neg h11, if_neg h9, if_neg h7, if_neg h5]; exact Grow.get hF0.grow hb) hF0.chg
    rw [e] at this; exact this
end Go.Vc

/-! A part of the proof that two events of one line are one event: the calculus that follows known memory by computing, and its soundness. By an AI agent. -/

namespace Go.Vc
open Go Go.MapKept
/-! ## an act: hearing; the example -/
/-- what is noted of one that says something -/
def heardR (r : Rp) (kind ver now : Int) : Rp := if hears kind then { hearR r kind ver with heard := true, at_ := now } else hearR r kind ver
theorem Hear_spec {N : Nat} {w : World} {s : ActS} (h : ActAt N w s) {j : Nat} (hj : j < s.reps.length) {kind ver i now : Int} (h2 : kind ≠ 2) {z : ByteArray} {y : Option Addr} {ly cy : Nat} {K : Value → World → Prop}
    (hK : ∀ w' s', ActAt N w' s' → Chg (· = s.bn) w w' → s'.a = s.a → s'.bn = s.bn → s'.x = s.x → s'.reps = s.reps.set j (heardR s.reps[j] kind ver now) → K (.tuple #[.slice none 0 0, .nilIface]) w') :
    CallV PR F.p_act_Act_Hear ⟨[.pointer (some ⟨s.a, 0, none⟩), .int .i64 ((j + 1 : Nat) : Int), .agg #[.int .i64 kind, .int .i64 ver, .int .i64 i, .string z, .slice y ly cy], .int .i64 now]⟩ w K := by
  have h4 := h.n4
  have ha := heap_lt h.blk
  have hbl := heap_lt h.row
  have hab : s.a ≠ s.bn := cellsNe h.blk h.row (by decide)
  have h0 : Fs (fun k => k = s.a ∨ k = s.bn) w [⟨s.a, actC s, T.act_Act, true⟩] w := (Fr.init _ w).entry h.blk (fun x h => by cases h) fun _ => .inl rfl
  refine act_Act_Hear s.a _ _ _ _ ((j + 1 : Nat) : Int) kind ver i z y ly cy now (fun k => k = s.a ∨ k = s.bn) K w h0 ⟨.inl rfl, trivial⟩ fun l0 hl0 => ⟨fun h => by omega, fun _ => ⟨fun h => by omega, fun _ => ?_⟩⟩
  have ej : IntKind.wrap .i64 (((j + 1 : Nat) : Int) - 1) = (j : Int) := by rw [w64 (by omega) (by omega)]; omega
  rw [ej]
  refine Dr_some.2 ⟨by omega, by omega, fun w2 hF2 => ?_⟩
  have g2 : Grow w w2 := hF2.grow
  rw [add_mk, Int.toNat_natCast, Nat.zero_add]
  have hb0 : w2.heap[s.bn]? = some (.cells ((s.reps.set j s.reps[j]).flatMap rpC).toArray T.act_noted (0, 0)) := by
    rw [List.set_getElem_self]; exact Grow.get g2 h.row
  have hoff : ∀ x ∈ [(⟨s.a, actC s, T.act_Act, true⟩ : Blk), ⟨l0, #[.int .i64 kind, .int .i64 ver, .int .i64 i, .string z, .slice y ly cy], 54, true⟩], ¬ x.b = s.bn := fun x hx e => by
    simp at hx; rcases hx with rfl | rfl
    · exact hab e
    · simp only [] at e; omega
  -- the end
  have fin : ∀ {w' : World} {r' : Rp}, Chg (· = s.bn) w w' → w'.heap[s.bn]? = some (.cells ((s.reps.set j r').flatMap rpC).toArray T.act_noted (0, 0)) → ActAt N w' ⟨s.x, s.a, s.bn, s.reps.set j r'⟩ := fun {w' r'} g hb => by
    refine ⟨?_, hb, h.pub.keepEx g (fun k e => by subst e; exact h.ex) (fun k e => by subst e; exact h.off.2), h.la, h.ln, by rw [List.length_set]; exact h.n1, by rw [List.length_set]; exact h.n4, h.off, h.ex⟩
    have := g.get h.blk hab
    show w'.heap[s.a]? = some (.cells #[.pointer (some ⟨s.x.p, 0, none⟩), .slice (some ⟨s.bn, 0, none⟩) (s.reps.set j r').length (s.reps.set j r').length] T.act_Act (0, 0))
    rw [List.length_set]; exact this
  refine note_spec hb0 hj fun w3 hb3 g3 => ⟨_, rfl, fun hh => ?_, fun hh => ?_⟩
  · have hF3 := hF2.step g3 hoff fun k _ e => .inr e
    refine ⟨hF3, Dr_some.2 (Dr_some.2 (Dr_some.2 ?_))⟩
    refine stRep (r' := { hearR s.reps[j] kind ver with heard := true }) hb3 hj (by decide) rfl rfl fun w4 hb4 g4 => ?_
    have hF4 := hF3.step g4 hoff fun k _ e => .inr e
    refine ⟨hF4, Dr_some.2 (Dr_some.2 (Dr_some.2 ?_))⟩
    refine stRep (r' := { hearR s.reps[j] kind ver with heard := true, at_ := now }) hb4 hj (by decide) rfl rfl fun w5 hb5 g5 => ?_
    have hF5 := hF4.step g5 hoff fun k _ e => .inr e
    have g := ((g2.then g3).trans g4 fun _ _ e => e).trans g5 fun _ _ e => e
    exact ⟨hF5, fun e => absurd e h2, fun _ => hK w5 _ (fin g hb5) g rfl rfl rfl (by rw [heardR, if_pos hh])⟩
  · have hF3 := hF2.step g3 hoff fun k _ e => .inr e
    have g := g2.then g3
    exact ⟨hF3, hK w3 _ (fin g hb3) g rfl rfl rfl (by rw [heardR, if_neg (by rw [hh]; decide)])⟩
theorem begun_spec {w : World} {n : Int} {K : Value → World → Prop}
    (h1 : ∀ w' s (k : Nat), n = k → 1 ≤ k → k ≤ 4 → Grow w w' → ActAt w.heap.size w' s → s.x.each = 10 → s.x.last = 0 → s.x.com = 0 → s.x.room = 200000 → s.reps = List.replicate k rp0 → (∀ key v, ¬ s.x.R key v) → K (.tuple #[.pointer (some ⟨s.x.p, 0, none⟩), .pointer (some ⟨s.a, 0, none⟩), .bool true]) w')
    (hn : 1 ≤ n ∧ n ≤ 4) : CallV PR F.ladinglaw23_begun ⟨[.int .i64 n]⟩ w K := by
  have h0 : Fs S0 w [] w := Fr.init _ w
  refine ladinglaw23_begun n S0 K w ?_
  refine DNew_spec fun w1 bd g1 hbd hd => ⟨_, rfl, h0.after g1, ?_⟩
  refine Open0_spec (N := w.heap.size) (each := 10) hd hbd g1.size (by decide) (by decide) fun w2 x g2 hx e1 e2 e3 e4 e5 hp => ⟨_, _, rfl, h0.after (g1.trans g2), fun _ => ?_, (fun t x h => by cases h), .inl rfl⟩
  have g12 := g1.trans g2
  refine New_spec hx g12.size (fun w3 s k hk k1 k4 g3 hs ex er sa sb => ⟨_, _, rfl, h0.after (g12.trans g3), fun _ w4 hF4 => ?_, (fun t x h => by cases h), .inl rfl⟩) fun h => by omega
  have ep : x.p = s.x.p := by rw [ex]
  rw [ep]
  have g4 : Grow w3 w4 := hF4.grow
  refine h1 w4 s k hk k1 k4 ((g12.trans g3).trans g4) (hs.grow g4) (by rw [ex]; exact e2) (by rw [ex]; exact e3) (by rw [ex]; exact e4) (by rw [ex]; show 200000 - (logL x.recs).length = 200000; rw [e5]; rfl) er fun key v hv => ?_
  have hk := hs.pub.kept _ _ hv
  obtain ⟨i, _, _, _, _, a1, a2, _⟩ := hk
  rw [ex] at a2
  have : i ≤ x.last := a2
  omega
theorem ActAt.pubStep {N : Nat} {w w' : World} {s : ActS} (h : ActAt N w s) {x' : PubS} (hx : PubAt N w' x') (g : Chg s.x.reg w w') (hp : x'.p = s.x.p) (hex : x'.ex = s.x.ex) (hreg : ∀ k, x'.reg k → s.x.reg k ∨ w.heap.size ≤ k) : ActAt N w' ⟨x', s.a, s.bn, s.reps⟩ := by
  have ha := heap_lt h.blk
  have hbl := heap_lt h.row
  refine ⟨?_, g.get h.row h.off.2, hx, h.la, h.ln, h.n1, h.n4, ⟨fun e => ?_, fun e => ?_⟩, by show x'.ex s.bn; rw [hex]; exact h.ex⟩
  · have := g.get h.blk h.off.1
    show w'.heap[s.a]? = some (.cells #[.pointer (some ⟨x'.p, 0, none⟩), .slice (some ⟨s.bn, 0, none⟩) s.reps.length s.reps.length] T.act_Act (0, 0))
    rw [hp]; exact this
  · rcases hreg _ e with e | e
    · exact h.off.1 e
    · have e' : w.heap.size ≤ s.a := e; omega
  · rcases hreg _ e with e | e
    · exact h.off.2 e
    · have e' : w.heap.size ≤ s.bn := e; omega
theorem stepR {w wa wb : World} {x : PubS} {L : List Blk} (hF : Fs S0 w L wa) (hx : PubAt w.heap.size wa x) (g : Chg x.reg wa wb) (hL : ∀ y, y ∈ L → ¬ x.reg y.b) : Fs S0 w L wb := hF.step g hL fun k hk e => by have := hx.lo k e; omega
theorem stepB {w wa wb : World} {s : ActS} {L : List Blk} (hF : Fs S0 w L wa) (hs : ActAt w.heap.size wa s) (g : Chg (· = s.bn) wa wb) (hL : ∀ y, y ∈ L → y.b ≠ s.bn) : Fs S0 w L wb := hF.step g hL fun k hk e => by have := hs.ln; have e' : k = s.bn := e; omega
theorem awake23_spec {w : World} {K : Value → World → Prop} (hK : ∀ w', Grow w w' → K (.bool true) w') : CallV PR F.ladinglaw23_awake ⟨[]⟩ w K := by
  have h0 : Fs S0 w [] w := Fr.init _ w
  refine ladinglaw23_awake S0 K w ?_
  refine begun_spec (fun w1 s k hk k1 k4 g1 hs e1 e2 e3 e4 er _ => ⟨_, _, true, rfl, (fun _ => ⟨h0.after g1, ?_⟩), fun h => by cases h⟩) (by decide)
  have hF1 := h0.after g1
  obtain rfl : k = 1 := by omega
  have noL : ∀ {P : Blk → Prop}, ∀ y, y ∈ ([] : List Blk) → P y := fun y hy => by cases hy
  refine Publish_spec (l := []) hs.pub g1.size (.nil _ _) rfl (by decide) (fun w2 x2 hx2 g2 f1 f2 f3 f4 f5 f6 fr fx f7 f8 => ?_) fun w2 v g2 hx2 hv hno => ?_
  · have hs2 := hs.pubStep hx2 g2 f1 fx f7
    have hF2 := stepR hF1 hs.pub g2 noL
    rw [f4, e2]
    refine ⟨_, _, rfl, hF2, fun _ => ⟨fun _ => ?_, (fun t x h => by cases h), .inl rfl⟩, fun h => absurd rfl h⟩
    have hrl : s.reps.length = 1 := by rw [er]; rfl
    have hr0 : s.reps[0]'(by omega) = rp0 := by simp [er]
    refine Hear_spec hs2 (j := 0) (by show 0 < s.reps.length; omega) (by decide) fun w3 s3 hs3 g3 a1 a2 a3 a4 => ⟨_, _, _, _, rfl, stepB hF2 hs2 g3 noL, fun _ => ?_, (fun t x h => by cases h), .inl rfl⟩
    have hF3 := stepB hF2 hs2 g3 noL
    have a4' : s3.reps = [heardR rp0 7 1 0] := by
      rw [a4]
      show s.reps.set 0 (heardR (s.reps[0]'_) 7 1 0) = _
      rw [hr0, er]; rfl
    have hx3 : s3.x = x2 := a3
    have ea : s3.a = s.a := a1
    rw [← ea]
    have htg : s3.tgt = 1 := by unfold ActS.tgt; rw [hx3, f4, f5, e2, e3]; rfl
    have hag : agrees s3 0 := by
      refine ⟨by rw [htg]; decide, ⟨heardR rp0 7 1 0, by rw [a4']; exact List.mem_singleton.2 rfl, rfl, by decide⟩, fun r hr _ _ => ?_⟩
      rw [a4', List.mem_singleton] at hr
      subst hr
      rw [htg]; decide
    refine Tick_spec hs3 hF3.gr.size (by decide) (fun r hr => by rw [a4', List.mem_singleton] at hr; subst hr; decide) (fun w4 q c hna => absurd hag hna) (fun w4 s4 q c _ hs4 g4 b1 b2 b3 b4 b5 _ => ?_) fun w4 v _ hr => ?_
    · have hF4 := stepR hF3 hs3.pub g4 noL
      refine ⟨_, _, _, _, rfl, hF4, fun _ => ?_, (fun t x h => by cases h), .inl rfl⟩
      have ep : s.x.p = s4.x.p := by rw [b3, hx3, f1]
      rw [ep]
      have ec : s4.x.com = 1 := by rw [b5, hx3, f4, e2]
      refine Committed_spec hs4.pub ⟨_, rfl, hF4, fun _ => hK w4 hF4.gr, fun h => absurd (by rw [ec]; rfl) h⟩
    · have : (s.x.room : Int) ≤ x2.room + 2700 + 9 * 3 + 8 * (0 : Nat) := fr
      rw [hx3] at hr
      omega
  · refine absurd ⟨⟨⟨by decide, by decide, by decide, fun e he => by cases he⟩, by rw [e1]; decide, by decide⟩, by decide, ?_⟩ hno
    rw [e4]; decide
theorem HearS_spec {N : Nat} {w : World} {x : PubS} {a bn : Nat} {reps : List Rp} (h : ActAt N w ⟨x, a, bn, reps⟩) {j : Nat} (hj : j < reps.length) {kind ver i now : Int} (h2 : kind ≠ 2) {z : ByteArray} {y : Option Addr} {ly cy : Nat} {K : Value → World → Prop}
    (hK : ∀ w', ActAt N w' ⟨x, a, bn, reps.set j (heardR reps[j] kind ver now)⟩ → Chg (· = bn) w w' → K (.tuple #[.slice none 0 0, .nilIface]) w') :
    CallV PR F.p_act_Act_Hear ⟨[.pointer (some ⟨a, 0, none⟩), .int .i64 ((j + 1 : Nat) : Int), .agg #[.int .i64 kind, .int .i64 ver, .int .i64 i, .string z, .slice y ly cy], .int .i64 now]⟩ w K :=
  Hear_spec h hj h2 fun w' s' hs' g a1 a2 a3 a4 => hK w' (by
    obtain ⟨sx, sa, sb, sr⟩ := s'
    simp only [] at a1 a2 a3 a4
    subst a1 a2 a3 a4
    exact hs') g
end Go.Vc

/-! A part of the proof that two events of one line are one event: the calculus that follows known memory by computing, and its soundness. By an AI agent. -/

namespace Go.Vc
open Go Go.MapKept
/-! ## the law of greetings -/
theorem BlockNone_spec {N : Nat} {w : World} {x : PubS} (h : PubAt N w x) (hE : ∀ key v, ¬ x.R key v) {ver i : Int} (hi : -9223372036854775808 ≤ ver ∧ ver ≤ 9223372036854775807) {K : Value → World → Prop}
    (hK : ∀ w' v, Grow w w' → isErr v → K (.tuple #[.agg #[.int .i64 0, .int .i64 0, .int .i64 0, .string ⟨#[]⟩, .slice none 0 0], v]) w') : CallV PR F.p_pub_Pub_Block ⟨[.pointer (some ⟨x.p, 0, none⟩), .int .i64 ver, .int .i64 i]⟩ w K := by
  have h0 : Fs (· = x.p) w [⟨x.p, pubC x.bj x.each x.last x.com x.m, T.pub_Pub, true⟩] w := (Fr.init _ w).entry h.blk (fun x h => by cases h) fun _ => rfl
  refine pub_Pub_Block x.p (some ⟨x.bj, 0, none⟩) x.each x.last x.com (some x.m) ver i (· = x.p) K w h0 ⟨rfl, trivial⟩ fun l0 hl0 w0 hF0 => ?_
  have g0 : Grow w w0 := hF0.grow
  refine Of_spec (h.grow g0) hi (fun w1 j b c list g1 e k1 k2 hv hL => ?_) fun w1 g1 hno => ?_
  · exfalso
    obtain ⟨v, hv⟩ := h.has x.last (by omega) (Nat.le_refl _) (.inl (by omega))
    exact hE _ _ hv
  · exact ⟨_, _, _, rfl, hF0.reset.after g1, fun l1 hl1 => ⟨(fun h => by cases h), (fun t v he w5 hF5 => hK w5 _ (hF5.chg.same h.blk (hF5.blk 0 rfl)) ⟨_, _, rfl⟩), .inr ⟨_, _, rfl⟩⟩⟩
theorem answerNone_spec {N : Nat} {w : World} {s : ActS} (h : ActAt N w s) (hE : ∀ key v, ¬ s.x.R key v) {kind ver i : Int} {z : ByteArray} {y : Option Addr} {ly cy : Nat} (hi : -9223372036854775808 ≤ ver ∧ ver ≤ 9223372036854775807) {K : Value → World → Prop}
    (hK : ∀ w', Grow w w' → K (.agg #[.int .i64 4, .int .i64 ver, .int .i64 i, .string ⟨#[]⟩, .slice none 0 0]) w') : CallV PR F.p_act_Act_answer ⟨[.pointer (some ⟨s.a, 0, none⟩), .agg #[.int .i64 kind, .int .i64 ver, .int .i64 i, .string z, .slice y ly cy]]⟩ w K := by
  refine act_Act_answer s.a _ _ _ _ kind ver i z y ly cy (· = s.a) K w h.e ⟨rfl, trivial⟩ fun l0 hl0 l1 hl1 => ⟨fun w0 hF0 => ?_, fun l6 hl6 w0 hF0 => ?_⟩
  · refine BlockNone_spec (h.pub.grow hF0.grow) hE hi fun w1 v g1 hv => ?_
    obtain ⟨t, v, rfl⟩ := hv
    exact ⟨_, _, _, _, _, _, _, _, rfl, hF0.reset.after g1, fun l4 hl4 => ⟨(fun h => by cases h), (fun t' v' he w3 hF3 => hK w3 (hF3.chg.same h.blk (hF3.blk 0 rfl))), .inr ⟨_, _, rfl⟩⟩⟩
  · refine BlockNone_spec (h.pub.grow hF0.grow) hE hi fun w1 v g1 hv => ?_
    obtain ⟨t, v, rfl⟩ := hv
    exact ⟨_, _, _, _, _, _, _, _, rfl, hF0.reset.after g1, (fun h => by cases h), (fun t' v' he w3 hF3 => hK w3 (hF3.chg.same h.blk (hF3.blk 0 rfl))), .inr ⟨_, _, rfl⟩⟩
/-- hearing, where nothing was published -/
theorem HearE_spec {N : Nat} {w : World} {x : PubS} {a bn : Nat} {reps : List Rp} (h : ActAt N w ⟨x, a, bn, reps⟩) (hE : ∀ key v, ¬ x.R key v) {j : Nat} (hj : j < reps.length) {kind ver i now : Int} (hi : -9223372036854775808 ≤ ver ∧ ver ≤ 9223372036854775807) {z : ByteArray} {y : Option Addr} {ly cy : Nat} {K : Value → World → Prop}
    (hK : ∀ w' q l c, ActAt N w' ⟨x, a, bn, reps.set j (heardR reps[j] kind ver now)⟩ → Chg (· = bn) w w' → K (.tuple #[.slice q l c, .nilIface]) w') :
    CallV PR F.p_act_Act_Hear ⟨[.pointer (some ⟨a, 0, none⟩), .int .i64 ((j + 1 : Nat) : Int), .agg #[.int .i64 kind, .int .i64 ver, .int .i64 i, .string z, .slice y ly cy], .int .i64 now]⟩ w K := by
  by_cases h2 : kind ≠ 2
  · exact HearS_spec h hj h2 fun w' h' g => hK w' _ _ _ h' g
  have h2 : kind = 2 := Classical.byContradiction h2
  have h4 : reps.length ≤ 4 := h.n4
  have ha := heap_lt h.blk
  have hbl := heap_lt h.row
  simp only [] at ha hbl
  have hab : a ≠ bn := cellsNe h.blk h.row (by decide)
  have h0 : Fs (fun k => k = a ∨ k = bn) w [⟨a, actC ⟨x, a, bn, reps⟩, T.act_Act, true⟩] w := (Fr.init _ w).entry h.blk (fun x h => by cases h) fun _ => .inl rfl
  refine act_Act_Hear a _ _ _ _ ((j + 1 : Nat) : Int) kind ver i z y ly cy now (fun k => k = a ∨ k = bn) K w h0 ⟨.inl rfl, trivial⟩ fun l0 hl0 => ⟨fun h => by omega, fun _ => ⟨fun h => by have h' : ((j + 1 : Nat) : Int) > (reps.length : Nat) := h; omega, fun _ => ?_⟩⟩
  have ej : IntKind.wrap .i64 (((j + 1 : Nat) : Int) - 1) = (j : Int) := by rw [w64 (by omega) (by omega)]; omega
  rw [ej]
  refine Dr_some.2 ⟨by omega, by show (j : Int) < (reps.length : Nat); omega, fun w2 hF2 => ?_⟩
  have g2 : Grow w w2 := hF2.grow
  rw [add_mk, Int.toNat_natCast, Nat.zero_add]
  have hb0 : w2.heap[bn]? = some (.cells ((reps.set j reps[j]).flatMap rpC).toArray T.act_noted (0, 0)) := by
    rw [List.set_getElem_self]; exact Grow.get g2 h.row
  have hoff : ∀ x' ∈ [(⟨a, actC ⟨x, a, bn, reps⟩, T.act_Act, true⟩ : Blk), ⟨l0, #[.int .i64 kind, .int .i64 ver, .int .i64 i, .string z, .slice y ly cy], 54, true⟩], ¬ x'.b = bn := fun x' hx e => by
    simp at hx; rcases hx with rfl | rfl
    · exact hab e
    · simp only [] at e; omega
  have fin : ∀ {w' : World} {r' : Rp}, Chg (· = bn) w w' → w'.heap[bn]? = some (.cells ((reps.set j r').flatMap rpC).toArray T.act_noted (0, 0)) → ActAt N w' ⟨x, a, bn, reps.set j r'⟩ := fun {w' r'} g hb => by
    refine ⟨?_, hb, h.pub.keepEx g (fun k e => by subst e; exact h.ex) (fun k e => by subst e; exact h.off.2), h.la, h.ln, by show 1 ≤ (reps.set j r').length; rw [List.length_set]; exact h.n1, by show (reps.set j r').length ≤ 4; rw [List.length_set]; exact h.n4, h.off, h.ex⟩
    have := g.get h.blk hab
    show w'.heap[a]? = some (.cells #[.pointer (some ⟨x.p, 0, none⟩), .slice (some ⟨bn, 0, none⟩) (reps.set j r').length (reps.set j r').length] T.act_Act (0, 0))
    rw [List.length_set]; exact this
  have hh2 : hears kind = true := by subst h2; rfl
  refine note_spec hb0 hj fun w3 hb3 g3 => ⟨_, rfl, fun hh => ?_, fun hh => by rw [hh2] at hh; cases hh⟩
  have hF3 := hF2.step g3 hoff fun k _ e => .inr e
  refine ⟨hF3, Dr_some.2 (Dr_some.2 (Dr_some.2 ?_))⟩
  refine stRep (r' := { hearR reps[j] kind ver with heard := true }) hb3 hj (by decide) rfl rfl fun w4 hb4 g4 => ?_
  have hF4 := hF3.step g4 hoff fun k _ e => .inr e
  refine ⟨hF4, Dr_some.2 (Dr_some.2 (Dr_some.2 ?_))⟩
  refine stRep (r' := { hearR reps[j] kind ver with heard := true, at_ := now }) hb4 hj (by decide) rfl rfl fun w5 hb5 g5 => ?_
  have hF5 := hF4.step g5 hoff fun k _ e => .inr e
  have g := ((g2.then g3).trans g4 fun _ _ e => e).trans g5 fun _ _ e => e
  have h5 := fin g hb5
  have e5 : heardR reps[j] kind ver now = { hearR reps[j] kind ver with heard := true, at_ := now } := by rw [heardR, if_pos hh2]
  refine ⟨hF5, fun _ => ?_, fun e => absurd h2 e⟩
  refine answerNone_spec h5 hE hi fun w6 g6 => ⟨_, _, _, _, _, _, _, rfl, hF5.after g6, fun l3 hl3 w7 hF7 => ?_⟩
  have g7 : Grow w6 w7 := hF7.grow
  exact hK w7 _ _ _ (by rw [e5]; exact (h5.grow g6).grow g7) ((g.grow g6).grow g7)
theorem Noted_spec {N : Nat} {w : World} {x : PubS} {a bn : Nat} {reps : List Rp} (h : ActAt N w ⟨x, a, bn, reps⟩) {j : Nat} (hj : j < reps.length) {K : Value → World → Prop}
    (hK : ∀ w', Grow w w' → K (.tuple #[.int .i64 reps[j].ready, .int .i64 reps[j].prepared, .int .i64 reps[j].done]) w') : CallV PR F.p_act_Act_Noted ⟨[.pointer (some ⟨a, 0, none⟩), .int .i64 ((j + 1 : Nat) : Int)]⟩ w K := by
  have h4 : reps.length ≤ 4 := h.n4
  have h0 : Fs (· = a) w [⟨a, actC ⟨x, a, bn, reps⟩, T.act_Act, true⟩] w := h.e
  refine act_Act_Noted a _ _ _ _ ((j + 1 : Nat) : Int) (· = a) K w h0 ⟨rfl, trivial⟩ ⟨fun h => by omega, fun _ => ⟨fun h => by have h' : ((j + 1 : Nat) : Int) > (reps.length : Nat) := h; omega, fun _ => ?_⟩⟩
  have ej : IntKind.wrap .i64 (((j + 1 : Nat) : Int) - 1) = (j : Int) := by rw [w64 (by omega) (by omega)]; omega
  rw [ej]
  refine h.sl.rdN rpC_len (by decide) rfl hj hj fun a5 hc => ?_
  exact ⟨_, hc 0 _ rfl, _, hc 1 _ rfl, _, hc 2 _ rfl, _, hc 3 _ rfl, _, hc 4 _ rfl, fun l0 hl0 w0 hF0 => hK w0 (hF0.unM hl0).grow⟩
theorem Great18_spec {kind ver i : Int} {z : ByteArray} {y : Option Addr} {c : Nat} {xs : List ByteArray} {w : World} (hs : Sl w y (xs.map .string)) {K : Value → World → Prop} (hK : ∀ w' b, Grow w w' → K (.bool b) w') :
    CallV PR F.ladinglaw18_Great ⟨[.agg #[.int .i64 kind, .int .i64 ver, .int .i64 i, .string z, .slice y xs.length c]]⟩ w K := by
  refine ladinglaw18_Great kind ver i z y xs.length c S0 K w fun l0 hl0 => ⟨fun _ w0 hF0 => hK w0 _ hF0.gr, fun _ => ⟨fun _ w0 hF0 => hK w0 _ hF0.gr, fun h30 w2 hF2 => ?_⟩⟩
  refine ⟨fun i m w' => ∃ k : Nat, i = k ∧ k ≤ xs.length ∧ m = xs.length - k, ⟨_, 0, rfl, by omega, rfl⟩, ?_⟩
  rintro i D m w3 ⟨k, rfl, hk, rfl⟩ hF3
  refine ⟨fun hlt => ?_, fun _ => hK w3 _ hF3.gr⟩
  have hk' : k < xs.length := by omega
  refine (hs.grow hF3.gr).rd (v := .string xs[k]) (by simp) (by omega) (by simp [hk']) fun a ha => ⟨_, ha, fun _ => hK w3 _ hF3.gr, fun _ => ⟨xs.length - (k + 1), by omega, k + 1, by rw [w64 (by omega) (by omega)]; rfl, by omega, rfl⟩⟩
end Go.Vc

/-! A part of the proof that two events of one line are one event: the calculus that follows known memory by computing, and its soundness. By an AI agent. -/

namespace Go.Vc
open Go Go.MapKept
/-! ## the law of greetings: the walk -/
structure MsgA where
  kind : Int
  ver : Int
  i : Int
  text : ByteArray
  q : Option Addr
  pf : List ByteArray
  c : Nat
def msgAC (m : MsgA) : List Value := [.int .i64 m.kind, .int .i64 m.ver, .int .i64 m.i, .string m.text, .slice m.q m.pf.length m.c]
theorem msgAC_len (m : MsgA) : (msgAC m).length = 5 := rfl
structure MsgsAt (w : World) (y : Option Addr) (l : List MsgA) : Prop where
  row : Sl w y (l.flatMap msgAC)
  pf : ∀ m ∈ l, Sl w m.q (m.pf.map .string)
  ver : ∀ m ∈ l, -9223372036854775808 ≤ m.ver ∧ m.ver ≤ 9223372036854775807
theorem MsgsAt.grow {w w' : World} {y : Option Addr} {l : List MsgA} (h : MsgsAt w y l) (g : Grow w w') : MsgsAt w' y l := ⟨h.row.grow g, fun m hm => (h.pf m hm).grow g, h.ver⟩
theorem hear_ge (r : Rp) {kind : Int} (h : kind ≠ 11) (ver now : Int) : r.ready ≤ (heardR r kind ver now).ready ∧ r.prepared ≤ (heardR r kind ver now).prepared ∧ r.done ≤ (heardR r kind ver now).done := by
  have key : r.ready ≤ (hearR r kind ver).ready ∧ r.prepared ≤ (hearR r kind ver).prepared ∧ r.done ≤ (hearR r kind ver).done := by
    unfold hearR
    rw [if_neg h]
    split
    · refine ⟨?_, ?_, ?_⟩ <;> simp only [] <;> split <;> omega
    · split
      · refine ⟨?_, ?_, Int.le_refl _⟩ <;> simp only [] <;> split <;> omega
      · split
        · refine ⟨?_, Int.le_refl _, Int.le_refl _⟩; simp only []; split <;> omega
        · exact ⟨Int.le_refl _, Int.le_refl _, Int.le_refl _⟩
  unfold heardR
  split
  · exact key
  · exact key
theorem ActHello_spec {w : World} {y : Option Addr} {c : Nat} {l : List MsgA} {m1 : Int} (hl : MsgsAt w y l) (hm1 : 0 ≤ m1 ∧ m1 ≤ 255) {K : Value → World → Prop} (hK : ∀ w', Grow w w' → K (.bool true) w') :
    CallV PR F.ladinglaw23_ActHello ⟨[.slice y l.length c, .int .u8 m1]⟩ w K := by
  have h0 : Fs S0 w [] w := Fr.init _ w
  have em : IntKind.wrap .i64 m1 = m1 := w64 (by omega) (by omega)
  have noL : ∀ {P : Blk → Prop}, ∀ y, y ∈ ([] : List Blk) → P y := fun y hy => by cases hy
  refine ladinglaw23_ActHello y l.length c m1 S0 K w ?_
  rw [em]
  refine awake23_spec fun w1 g1 => ⟨true, rfl, (fun _ => ⟨h0.after g1, fun _ => hK w1 g1, fun h40 => ?_⟩), fun h => by cases h⟩
  refine begun_spec (fun w2 s k hk k1 k4 g2 hs e1 e2 e3 e4 er hE => ?_) ⟨by decide, by decide⟩
  obtain rfl : k = 2 := by omega
  obtain ⟨x, a, b, reps⟩ := s
  simp only [] at e1 e2 e3 e4 er hE
  subst er
  have hF2 : Fs S0 w [] w2 := (h0.after g1).after g2
  refine ⟨_, _, true, rfl, (fun _ => ⟨hF2, ?_⟩), fun h => by cases h⟩
  refine ⟨fun i m w' => ∃ (k : Nat) (r : Rp), i = k ∧ k ≤ l.length ∧ m = l.length - k ∧ ActAt w1.heap.size w' ⟨x, a, b, [r, rp0]⟩, ⟨_, 0, rp0, rfl, by omega, rfl, hs⟩, ?_⟩
  rintro i D m w3 ⟨k, r, rfl, hk, rfl, h3⟩ hF3
  refine ⟨fun hlt => ?_, fun hge => ?_⟩
  · have hk' : k < l.length := by omega
    have hl3 := hl.grow hF3.gr
    have hpf := hl3.pf _ (List.getElem_mem hk')
    have hver := hl.ver _ (List.getElem_mem hk')
    refine hl3.row.rdN msgAC_len (by decide) rfl hk' hk' fun a5 hc => ?_
    have ek : IntKind.wrap .i64 ((k : Int) + 1) = ((k + 1 : Nat) : Int) := by rw [w64 (by omega) (by omega)]; omega
    generalize l[k] = o at hc hpf hver
    refine ⟨_, hc 0 _ rfl, _, hc 1 _ rfl, _, hc 2 _ rfl, _, hc 3 _ rfl, _, _, _, hc 4 _ rfl, fun l4 hl4 w4 hF4 => ?_⟩
    have hF4' := (hF4.unM hl4).reset
    have g4 : Grow w3 w4 := (hF4.unM hl4).grow
    refine Great18_spec (hpf.grow g4) fun w5 bb g5 => ⟨bb, rfl, fun hb => ⟨hF4'.after g5, hK w5 (hF4'.after g5).gr⟩, fun hb => ⟨hF4'.after g5, ?_⟩⟩
    have hF5 := hF4'.after g5
    have h5 := h3.grow (g4.trans g5)
    refine Noted_spec h5 (j := 0) (by simp) fun w6 g6 => ⟨_, _, _, rfl, hF5.after g6, ?_⟩
    have h6 := h5.grow g6
    have hF6 := hF5.after g6
    refine HearE_spec h6 hE (j := 0) (by simp) hver fun w7 q7 l7 c7 h7 g7 => ?_
    have hbn : ∀ y, y ∈ [(⟨l4, #[.int .i64 o.kind, .int .i64 o.ver, .int .i64 o.i, .string o.text, .slice o.q o.pf.length o.c], 54, true⟩ : Blk)] → ¬ y.b = b := fun y hy e => by
      simp at hy; subst hy
      have := heap_lt h3.row
      simp only [] at e this; omega
    have hF7 := hF6.step g7 hbn fun i hi e => by have := hs.ln; have e' : i = b := e; have := g1.size; simp only [] at *; omega
    have h7' : ActAt w1.heap.size w7 ⟨x, a, b, [heardR r o.kind o.ver 3, rp0]⟩ := h7
    refine ⟨_, _, _, _, rfl, hF7, fun _ => ?_, (fun t x h => by cases h), .inl rfl⟩
    refine Noted_spec h7' (j := 0) (by simp) fun w8 g8 => ⟨_, _, _, rfl, hF7.after g8, ?_⟩
    have nx : ∃ l8 : Nat, l8 < l.length - k ∧ ∃ (k' : Nat) (r' : Rp), IntKind.wrap .i64 ((k : Int) + 1) = k' ∧ k' ≤ l.length ∧ l8 = l.length - k' ∧ ActAt w1.heap.size w8 ⟨x, a, b, [r', rp0]⟩ := ⟨l.length - (k + 1), by omega, k + 1, _, ek, by omega, rfl, h7'.grow g8⟩
    refine ⟨fun _ => nx, fun hne => ?_⟩
    have hge := hear_ge r hne o.ver 3
    exact ⟨fun hlt => absurd hge.1 (by have h' : (heardR r o.kind o.ver 3).ready < r.ready := hlt; omega), fun _ => ⟨fun hlt => absurd hge.2.1 (by have h' : (heardR r o.kind o.ver 3).prepared < r.prepared := hlt; omega), fun _ => ⟨fun hlt => absurd hge.2.2 (by have h' : (heardR r o.kind o.ver 3).done < r.done := hlt; omega), fun _ => nx⟩⟩⟩
  · refine HearE_spec h3 hE (j := 0) (by simp) (ver := m1) ⟨by omega, by omega⟩ fun w4 q4 l4 c4 h4 g4 => ?_
    have hF4 : Fs S0 w [] w4 := hF3.step g4 noL fun i hi e => by have := hs.ln; have e' : i = b := e; have := g1.size; simp only [] at *; omega
    have h4' : ActAt w1.heap.size w4 ⟨x, a, b, [⟨m1, m1, m1, true, 4⟩, rp0]⟩ := h4
    refine ⟨_, _, _, _, rfl, hF4, fun _ => ?_, (fun t x h => by cases h), .inl rfl⟩
    refine Noted_spec h4' (j := 0) (by simp) fun w5 g5 => ⟨_, _, _, rfl, hF4.after g5, ?_⟩
    have h5 := h4'.grow g5
    refine Noted_spec h5 (j := 1) (by simp) fun w6 g6 => ⟨_, _, _, rfl, (hF4.after g5).after g6, ?_⟩
    have h6 := h5.grow g6
    refine ⟨fun _ => ⟨fun _ => ⟨fun _ => ⟨fun _ => ?_, fun h => absurd rfl h⟩, fun h => absurd rfl h⟩, fun h => absurd rfl h⟩, fun h => absurd rfl h⟩
    refine Live_spec h6 (by decide) fun w7 q7 c7 g7 _ => ⟨_, _, _, rfl, ((hF4.after g5).after g6).after g7, fun _ => hK w7 (((hF4.after g5).after g6).after g7).gr, fun h => absurd rfl h⟩
end Go.Vc

/-! A part of the proof that two events of one line are one event: the calculus that follows known memory by computing, and its soundness. By an AI agent. -/


namespace Go.Vc
open Go Go.Deep Go.ChangeShapes Go.WideShapes Go.ChangeAt Go.RowKit Go.Proofs Go.Proofs.YtjfpofjppjaofaaGreat
theorem u5 : PR.underlying 5 = some (.int .u8) := by kernel_rfl
theorem rec5 : PR.readableRec 5 = true := by kernel_rfl
theorem u56 : PR.underlying 56 = some (.slice 54) := by kernel_rfl
theorem c54 : PR.cellsOf 54 = 5 := by kernel_rfl
theorem u9 : PR.underlying 9 = some .string := by kernel_rfl
theorem c9 : PR.cellsOf 9 = 1 := by kernel_rfl
theorem u52 : PR.underlying 52 = some (.slice 9) := by kernel_rfl
theorem c52 : PR.cellsOf 52 = 1 := by kernel_rfl
theorem fm : flds 54 = some [(3, 0), (3, 1), (3, 2), (9, 3), (52, 4)] := by kernel_rfl
theorem rec56 : PR.readableRec 56 = true := by kernel_rfl
theorem byte_range {n : Int} (h : (Lit.int .u8 n).wf = true) : 0 ≤ n ∧ n ≤ 255 := by
  simp [Lit.wf, IntKind.min, IntKind.max, IntKind.bits, IntKind.signed] at h; omega
theorem flat_one {α : Type} (f : α → Value) (l : List α) : l.flatMap (fun n => [f n]) = l.map f := by
  induction l with
  | nil => rfl
  | cons b l ih => rw [List.flatMap_cons, ih]; rfl
section
variable {H : Type} {enc : TypeId × Value → H} {w : World} {base : Nat} {spare : Nat → Bool} {held : Bool}
theorem strs_of {fuel : Nat} {v : Value} {x : DataW H × List MemPlace} (h : DataW.trod enc PR w base spare held fuel 52 [v] = some x) : ∃ (q : Option Addr) (bs : List ByteArray) (c : Nat), v = .slice q bs.length c ∧ Sl w q (bs.map .string) := by
  obtain ⟨q, l, c, h1, h2, _, _⟩ := slice_of (α := ByteArray) (s := 1) (f := fun n => [.string n]) (fun _ => rfl) (by decide) u52 c9 (G := fun _ => True) (fun n cs x hx hlen => by
    obtain ⟨s, e, _⟩ := DataW.trod_string u9 hx
    exact ⟨s, e, trivial⟩) h
  rw [flat_one] at h2
  exact ⟨q, l, c, h1, h2⟩
theorem msg_of {n : Nat} {cs : List Value} {x : DataW H × List MemPlace} (hx : DataW.trod enc PR w base spare held n 54 cs = some x) (hlen : cs.length = 5) :
    ∃ o : MsgA, cs = msgAC o ∧ Sl w o.q (o.pf.map .string) ∧ -9223372036854775808 ≤ o.ver ∧ o.ver ≤ 9223372036854775807 := by
  obtain ⟨m, hm⟩ := struct_of fm hx
  obtain ⟨y0, h0⟩ := hm 0 _ rfl
  obtain ⟨y1, h1⟩ := hm 1 _ rfl
  obtain ⟨y2, h2⟩ := hm 2 _ rfl
  obtain ⟨y3, h3⟩ := hm 3 _ rfl
  obtain ⟨y4, h4⟩ := hm 4 _ rfl
  match cs, hlen with
  | [v0, v1, v2, v3, v4], _ =>
    rw [show PR.cellsOf (3, 0).1 = 1 from c3] at h0
    rw [show PR.cellsOf (3, 1).1 = 1 from c3] at h1
    rw [show PR.cellsOf (3, 2).1 = 1 from c3] at h2
    rw [show PR.cellsOf (9, 3).1 = 1 from c9] at h3
    rw [show PR.cellsOf (52, 4).1 = 1 from c52] at h4
    obtain ⟨n0, e0, _, _⟩ := DataW.trod_int u3 h0
    obtain ⟨n1, e1, _, r1⟩ := DataW.trod_int u3 h1
    obtain ⟨n2, e2, _, _⟩ := DataW.trod_int u3 h2
    obtain ⟨s, e3, _⟩ := DataW.trod_string u9 h3
    obtain ⟨q, l, c, e4, s4⟩ := strs_of (v := v4) h4
    obtain rfl : v0 = .int .i64 n0 := (List.cons.inj e0).1
    obtain rfl : v1 = .int .i64 n1 := (List.cons.inj e1).1
    obtain rfl : v2 = .int .i64 n2 := (List.cons.inj e2).1
    obtain rfl : v3 = .string s := (List.cons.inj e3).1
    subst e4
    exact ⟨⟨n0, n1, n2, s, q, l, c⟩, rfl, s4, int_range r1⟩
theorem msgs_of {fuel : Nat} {v : Value} {x : DataW H × List MemPlace} (h : DataW.trod enc PR w base spare held fuel 56 [v] = some x) : ∃ (q : Option Addr) (l : List MsgA) (c : Nat), v = .slice q l.length c ∧ MsgsAt w q l := by
  obtain ⟨q, l, c, h1, h2, h3, _⟩ := slice_of msgAC_len (by decide) u56 c54 (G := fun o : MsgA => Sl w o.q (o.pf.map .string) ∧ -9223372036854775808 ≤ o.ver ∧ o.ver ≤ 9223372036854775807) (fun n cs x hx hlen => msg_of hx hlen) h
  exact ⟨q, l, c, h1, h2, fun o ho => (h3 o ho).1, fun o ho => (h3 o ho).2⟩
end
theorem params6 : Tryz.f6.params = #[56, 5] := by kernel_rfl
theorem contractH (H : Type) (enc : TypeId × Value → H) (W : World) (base : Nat) (args : Array Value) (ds gs : List (DataW H)) (before : List MemPlace)
    (hval : ∀ (j : Nat) t v, Tryz.f6.params[j]? = some t → args[j]? = some v → Value.okWide Tryz.prog W .any base t v)
    (hW : DataW.Whole enc Tryz.prog Tryz.f6.params.toList Rows.actHelloSpec.vars false W args.toList ds gs before) :
    Calls Tryz.prog 6 args W fun e W' => ∃ v, e = .returned v ∧ Rows.actHelloSpec.post enc Tryz.prog Tryz.f6 false true false false W args v W' := by
  have hW' := hW
  obtain ⟨p, q, hA0, hV, rfl, hfz, hnd⟩ := hW
  have hA : DataW.TrodAll enc Tryz.prog W 0 (fun _ => true) true Tryz.f6.params.toList args.toList ds p := hA0
  rw [params6] at hA hval
  obtain ⟨v0, v1, d0, d1, p0, p1, rfl, rfl, rfl, h0, h1⟩ := trodAll_two hA
  obtain ⟨rfl, rfl⟩ := trodVars_none hV
  have h0k := h0
  have h1k := h1
  obtain ⟨q0, l0, c0, rfl⟩ := okWide_slice u56 (hval 0 _ _ rfl rfl)
  obtain ⟨n1, rfl⟩ := okWide_int u5 (hval 1 _ _ rfl rfl)
  obtain ⟨f0, hf0⟩ := h0
  obtain ⟨f1, hf1⟩ := h1
  obtain ⟨m1, e1, _, r1⟩ := DataW.trod_int u5 hf1
  obtain ⟨y, L, c, e0, hl⟩ := msgs_of (v := .slice q0 l0 c0) hf0
  cases e0
  cases e1
  have hlt : ∀ x ∈ p0 ++ p1, x.block < W.heap.size := fun x hx => hW'.lt x (by simpa using hx)
  refine ActHello_spec hl (byte_range r1) fun W' g => ?_
  have hb := below_of_grow g
  refine post_of_below (pa := p0 ++ p1) (pv := []) hW' (fun _ _ _ => trodAll_cons_mk (shut_bool u4 _) trodAll_mk0)
    (fun sp hsp => ?_) (fun _ _ => rfl) (by simp) hb (ok_one (by kernel_rfl) rfl (okWide_bool_mk u4 _))
  rw [params6]
  exact trodAll_mk2 (WideElems.Trod_stays lay rec56 (of_decide_eq_true (by kernel_rfl)) h0k (fun x hx => hb.same (hlt x (by simp [hx]))) (fun x hx => hsp x (by simp [hx])))
    (WideElems.Trod_stays lay rec5 (of_decide_eq_true (by kernel_rfl)) h1k (fun x hx => hb.same (hlt x (by simp [hx]))) (fun x hx => hsp x (by simp [hx])))
theorem readsH (os : Os) {H : Type} (enc : TypeId × Value → H) : ∃ places, DataW.whole enc Tryz.prog ((World.settled Tryz.prog os).forCall (fun _ _ => 0) ⟨#[], #[.slice none 0 0, .int .u8 0], []⟩).memory Tryz.f6.params.toList Rows.actHelloSpec.vars false #[Value.slice none 0 0, .int .u8 0].toList 8 =
    some ([.nil, .lit (.int .u8 0)], [], places) := ⟨[], by kernel_rfl⟩
theorem liftedH (os : Os) (started : os.Started) (H : Type) (enc : TypeId × Value → H) (F : Stop.Interp) :
    ReturnsInHanded {} Tryz.checked os 6 .any ((OpenSpec.ofChange Rows.actHelloSpec).preRow enc Tryz.prog Tryz.f6 Rows.actHelloRow.domain false Rows.actHelloRow.laid) (((OpenSpec.ofChange Rows.actHelloSpec).at F).post enc Tryz.prog Tryz.f6 false true false false) := by
  obtain ⟨places, hx⟩ := readsH os enc
  refine returnsInHanded_of_row (C := Tryz.checked) (s := OpenSpec.ofChange Rows.actHelloSpec) own started (by kernel_rfl) Tryz.func6
    (witness_row_atRef (enc := enc) (C := Tryz.checked) false (World.settled Tryz.prog os) #[.slice none 0 0, .int .u8 0] rfl (by kernel_rfl) (by kernel_rfl) (by kernel_rfl)
      (OpenSpec.preRow_of_cond 8 hx (by kernel_rfl) (fun k hk => by cases hk) (by kernel_rfl) (show laidMetH _ [] _ from ⟨[], rfl, List.nodup_nil, fun b off h => by cases h⟩))) ?_
  intro W base args ds gs before hval hW _ _ _ hL hsh _
  exact contractH H enc W base args ds gs before hval hW
theorem saidH : Rows.ActHelloSaid :=
  OpenClaim.holds_of_cond 6 Tryz.f6 rfl rfl rfl rfl rfl rfl rfl ⟨rfl, rfl, rfl, rfl, rfl⟩ rfl rfl rfl rfl rfl (by kernel_rfl) Tryz.func6 (by kernel_rfl)
    (of_decide_eq_true (by kernel_rfl)) (by unfold Func.isWrapper; first | (rw [if_pos (by decide +kernel)]; kernel_rfl) | (rw [if_neg (by decide +kernel)]; exact ⟨rfl, rfl⟩))
    (fun os started H enc _ F => by rw [OpenClaim.pre_eq_preRow]; exact liftedH os started H enc F)
end Go.Vc
